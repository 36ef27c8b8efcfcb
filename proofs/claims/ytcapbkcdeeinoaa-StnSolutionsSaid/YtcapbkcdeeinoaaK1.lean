/-
  The walks (printed by my generator).
-/
import Derived.Test.YtcapbkcdeeinoaaK0
set_option maxRecDepth 100000
set_option linter.unusedVariables false
namespace Go.Pw
open Go.Proofs
theorem law54_StnSolutions_sim {w0 w : World} {s : PHeap} {H : List Res} {times1 : (List Int)} {pairs4 : (List Arr2_uint8)} {gaps7 : (List Int)} {v2 : Value} {v5 : Value} {v8 : Value} {r : Bool} (hm : law54_StnSolutions_p times1 pairs4 gaps7 = some r) (hS : St w0 s (H) w) (a3 : SliceRep (encInt .i16) s v2 times1) (a6 : SliceRep encArr2_uint8 s v5 pairs4) (a9 : SliceRep (encInt .u8) s v8 gaps7) :
    Calls Try.prog 5 #[v2, v5, v8] w fun e w' => ∃ v, e = .returned v ∧ ((fun (y43043 : Bool) => ∃ (s43044 : PHeap) , PHeap.le s s43044 ∧ St w0 s43044 (H) w' ∧ v = Value.bool (y43043)) r) := by
  unfold law54_StnSolutions_p at hm
  refine calls_of_W Try.func5 rfl rfl ?_
  refine W_seq ?_
  refine W_region ?_
  refine WL_step rfl rfl (Exec.assign (v := Value.bool (false)) rfl rfl ?_)
  refine WL_nil (at_normal ?_)
  refine W_seq ?_
  refine W_seq ?_
  obtain ⟨z43054, ht43055, hm⟩ := bind_some hm
  refine W_mid (M := fun f' w' => (fun (z43054 : Bool) => ∃ (s43056 : PHeap) , PHeap.le s s43056 ∧ St w0 s43056 (H) w' ∧ f' 0 = v2 ∧ f' 1 = v5 ∧ f' 2 = v8 ∧ f' 33 = Value.bool (z43054)) z43054) ?_ ?_
  · refine W_region ?_
    obtain ⟨y43059, q43058, ht43055⟩ := bind_some ht43055
    refine WL_step rfl rfl (Exec.call rfl rfl Try.func9 rfl N9 args_nil ((law54_awake_sim q43058 hS ).mono ?_))
    rintro _ w43060 ⟨_, rfl, ⟨s43061, l43062, hS43063, rfl⟩⟩
    refine ⟨_, rfl, ?_⟩
    refine WL_step rfl rfl (Exec.not rfl rfl ?_)
    refine WL_step rfl rfl (Exec.move (v := Value.bool (!y43059)) rfl rfl ?_)
    rcases ite_some ht43055 with ⟨hc43064, ht43055⟩ | ⟨hc43064, ht43055⟩
    · refine WL_pass rfl (yield_of rfl (congrArg Value.bool hc43064)) rfl rfl ?_
      refine WL_pass rfl (yield_of rfl (congrArg Value.bool hc43064)) rfl rfl ?_
      refine WL_pass rfl (yield_of rfl (congrArg Value.bool hc43064)) rfl rfl ?_
      refine WL_step rfl rfl (Exec.pick_t (v := Value.bool (true)) rfl (congrArg Value.bool hc43064) rfl ?_)
      refine WL_step rfl rfl (Exec.move (v := Value.bool (true)) rfl rfl ?_)
      refine WL_pass rfl (yield_of rfl rfl) rfl rfl ?_
      refine WL_pass rfl (yield_of rfl rfl) rfl rfl ?_
      refine WL_pass rfl (yield_of rfl rfl) rfl rfl ?_
      refine WL_step rfl rfl (Exec.pick_t (v := Value.bool (true)) rfl rfl rfl ?_)
      refine WL_nil (at_normal ?_)
      have e43065 := Option.some.inj ht43055
      subst z43054
      exact ⟨s43061, l43062, hS43063, rfl, rfl, rfl, rfl⟩
    · replace hc43064 := not_true hc43064
      refine WL_run rfl (yield_of rfl (congrArg Value.bool hc43064)) rfl (Exec.move (v := v2) rfl rfl ?_)
      refine WL_run rfl (yield_of rfl (congrArg Value.bool hc43064)) rfl (Exec.len_rep S46 rfl rfl (a3.mono l43062) ?_)
      refine WL_run rfl (yield_of rfl (congrArg Value.bool hc43064)) rfl (Exec.gtr rfl rfl rfl ?_)
      refine WL_step rfl rfl (Exec.pick_f (v := Value.bool (decide (20 < (times1.length : Int)))) rfl (congrArg Value.bool hc43064) rfl ?_)
      refine WL_step rfl rfl (Exec.move (v := Value.bool (decide (20 < (times1.length : Int)))) rfl rfl ?_)
      rcases ite_some ht43055 with ⟨hc43066, ht43055⟩ | ⟨hc43066, ht43055⟩
      · refine WL_pass rfl (yield_of rfl (congrArg Value.bool hc43066)) rfl rfl ?_
        refine WL_pass rfl (yield_of rfl (congrArg Value.bool hc43066)) rfl rfl ?_
        refine WL_pass rfl (yield_of rfl (congrArg Value.bool hc43066)) rfl rfl ?_
        refine WL_step rfl rfl (Exec.pick_t (v := Value.bool (true)) rfl (congrArg Value.bool hc43066) rfl ?_)
        refine WL_nil (at_normal ?_)
        have e43067 := Option.some.inj ht43055
        subst z43054
        exact ⟨s43061, l43062, hS43063, rfl, rfl, rfl, rfl⟩
      · replace hc43066 := not_true hc43066
        refine WL_run rfl (yield_of rfl (congrArg Value.bool hc43066)) rfl (Exec.move (v := v5) rfl rfl ?_)
        refine WL_run rfl (yield_of rfl (congrArg Value.bool hc43066)) rfl (Exec.len_rep S47 rfl rfl (a6.mono l43062) ?_)
        refine WL_run rfl (yield_of rfl (congrArg Value.bool hc43066)) rfl (Exec.gtr rfl rfl rfl ?_)
        refine WL_step rfl rfl (Exec.pick_f (v := Value.bool (decide (40 < (pairs4.length : Int)))) rfl (congrArg Value.bool hc43066) rfl ?_)
        refine WL_nil (at_normal ?_)
        have e43068 := Option.some.inj ht43055
        subst z43054
        exact ⟨s43061, l43062, hS43063, rfl, rfl, rfl, rfl⟩
  · intro f43069 w43070 hM43071
    obtain ⟨s43072, l43073, hS43074, p43075, p43076, p43077, p43078⟩ := hM43071
    refine (at_normal ?_)
    rcases ite_some hm with ⟨hc43079, hm⟩ | ⟨hc43079, hm⟩
    · refine W_cond_t p43078 hc43079 ?_
      refine W_seq ?_
      refine W_region ?_
      obtain ⟨y43089, q43088, hm⟩ := bind_some hm
      refine WL_step rfl rfl (Exec.call rfl rfl Try.func9 rfl N9 args_nil ((law54_awake_sim q43088 hS43074 ).mono ?_))
      rintro _ w43090 ⟨_, rfl, ⟨s43091, l43092, hS43093, rfl⟩⟩
      refine ⟨_, rfl, ?_⟩
      refine WL_step rfl rfl (Exec.assign (v := Value.bool (y43089)) rfl rfl ?_)
      refine WL_nil (at_normal ?_)
      refine W_ret (at_ret ?_)
      have e43095 := Option.some.inj hm
      subst r
      refine ⟨_, ret1 rfl, ?_⟩
      exact ⟨s43091, (PHeap.le.trans l43073 l43092), hS43093, rfl⟩
    · refine W_cond_f p43078 hc43079 ?_
      replace hc43079 := not_true hc43079
      refine W_skip (at_normal ?_)
      refine W_seq ?_
      refine W_region ?_
      refine WL_step rfl rfl (Exec.buildSlice (Te := 3) (cs := [Value.int .i64 (0)]) hS43074 rfl (parts_cons (c := [Value.int .i64 (0)]) (cells_of rfl rfl) parts_nil) (fun _ => by kernel_rfl) ?_)
      intro b43099 w43100 hS43101
      refine WL_step rfl rfl (Exec.assign (v := Value.slice (some ⟨b43099, 0, none⟩) 1 1) rfl rfl ?_)
      refine WL_nil (at_normal ?_)
      refine W_seq ?_
      refine W_seq ?_
      refine W_region ?_
      refine WL_step rfl rfl (Exec.move (v := v2) rfl p43075 ?_)
      refine WL_step rfl rfl (Exec.len_rep S46 rfl rfl (a3.mono l43073) ?_)
      refine WL_step rfl rfl (Exec.move (v := Value.int .i64 (0)) rfl rfl ?_)
      refine WL_nil (at_normal ?_)
      obtain ⟨at_43142, hB43179, hm⟩ := bind_some hm
      refine W_block (W_forS (fun k' s' f' w' => (fun (at_43142 : (List Int)) => ∃ (s43180 : PHeap) (v43143 : Value), PHeap.le s43072 s43180 ∧ St w0 s43180 (Res.arr (encInt .i64) 3 v43143 at_43142 :: H) w' ∧ f' 1 = v5 ∧ f' 2 = v8 ∧ f' 7 = v43143 ∧ f' 36 = v2 ∧ f' 37 = Value.int .i64 ((times1.length : Int)) ∧ f' 38 = Value.int .i64 (k' : Int)) s') hB43179 ?_ ?_ ?_)
      · have hS43181 := St.boxArr (E := (encInt .i64)) (xs := [0]) hS43101 ⟨[Value.int .i64 (0)], [], rfl, rfl, rfl⟩ (by simp [maxLen])
        exact ⟨s43072, (Value.slice (some ⟨b43099, 0, none⟩) 1 1), (PHeap.le_refl _), hS43181, p43076, p43077, rfl, rfl, rfl, rfl⟩
      · intro i43102 at_43142 s43183 f43184 w43185 hi43186 hI43187 hm43188
        obtain ⟨s43189, v43143, l43190, hS43191, p43192, p43193, p43194, p43195, p43196, x43197⟩ := hI43187
        refine W_seq ?_
        refine W_region ?_
        refine WL_step rfl rfl (Exec.lss rfl x43197 p43196 ?_)
        refine WL_nil (at_normal ?_)
        refine W_seq ?_
        refine W_true (congrArg Value.bool (decide_eq_true (by omega))) ?_
        refine W_skip (at_normal ?_)
        refine W_seq ?_
        refine W_block ?_
        refine W_seq ?_
        refine W_region ?_
        obtain ⟨x43205, q43206, hm43188⟩ := bind_some hm43188
        refine WL_step rfl rfl (Exec.index_rep S46 rfl p43195 x43197 (a3.mono (PHeap.le.trans l43073 l43190)) q43206 ?_)
        intro b43207 o43208 a43209
        refine WL_step rfl rfl (Exec.load_at (E := (encInt .i16)) hS43191 A50 rfl rfl rfl a43209 ?_)
        intro v43210 q43211
        obtain rfl := encInt_val.1 q43211
        refine WL_step rfl rfl (Exec.assign (v := Value.int .i16 (x43205)) rfl rfl ?_)
        refine WL_nil (at_normal ?_)
        refine W_region ?_
        refine WL_step rfl rfl (Exec.move (v := v43143) rfl p43194 ?_)
        refine WL_step rfl rfl (Exec.move (v := Value.int .i16 (x43205)) rfl rfl ?_)
        refine WL_step rfl rfl (Exec.convert_int (by rw [Try.underlying50]; rfl) Try.underlying3 rfl rfl ?_)
        refine WL_step rfl rfl (Exec.buildSlice (Te := 3) (cs := [Value.int .i64 (IntKind.i64.wrap x43205)]) hS43191 rfl (parts_cons (c := [Value.int .i64 (IntKind.i64.wrap x43205)]) (cells_of rfl rfl) parts_nil) (fun _ => by kernel_rfl) ?_)
        intro b43221 w43222 hS43223
        obtain ⟨l43224, q43225, hm43188⟩ := bind_some hm43188
        have hS43226 := (hS43223).f1
        refine WL_step rfl rfl (Exec.append_box (E := (encInt .i64)) (ys := [IntKind.i64.wrap x43205]) hS43226 S49 Z3 rfl (by decide) rfl rfl rfl rfl ⟨[Value.int .i64 (IntKind.i64.wrap x43205)], [], rfl, rfl, rfl⟩ rfl q43225 ?_)
        intro v43227 w43228 hS43229
        refine WL_step rfl rfl (Exec.assign (v := v43227) rfl rfl ?_)
        refine WL_nil (ib_normal (at_normal ?_))
        refine W_region ?_
        refine WL_step rfl rfl (Exec.add rfl x43197 rfl ?_)
        refine WL_step rfl rfl (Exec.move (v := Value.int .i64 (IntKind.i64.wrap ((i43102 : Int) + 1))) rfl rfl ?_)
        refine WL_nil (at_normal ?_)
        have e43230 := Option.some.inj hm43188
        subst s43183
        exact ⟨s43189, v43227, l43190, hS43229, p43192, p43193, rfl, p43195, p43196, (Eq.trans rfl (wrap_up hi43186 (SliceRep.le (a3.mono l43073))))⟩
      · intro f43231 w43232 hI43233
        obtain ⟨s43234, v43143, l43235, hS43236, p43237, p43238, p43239, p43240, p43241, x43242⟩ := hI43233
        refine W_seq ?_
        refine W_region ?_
        refine WL_step rfl rfl (Exec.lss rfl x43242 p43241 ?_)
        refine WL_nil (at_normal ?_)
        refine W_seq ?_
        refine W_false (congrArg Value.bool (decide_eq_false (by omega))) ?_
        refine W_exit (at_exit (at_exit (ib_here (at_normal ?_))))
        refine W_seq ?_
        refine W_region ?_
        refine WL_step rfl rfl (Exec.move (v := v43143) rfl p43239 ?_)
        refine WL_step rfl rfl (Exec.len_arr (hS43236) S49 rfl rfl ?_)
        obtain ⟨t43261, q43262, hm⟩ := bind_some hm
        obtain ⟨pd43263, y43264⟩ := t43261
        replace hm := un2_eq hm
        refine WL_step rfl rfl (Exec.call rfl rfl Try.func10 rfl N10 (args_cons rfl args_nil) ((stn_New_sim q43262 hS43236 ).mono ?_))
        rintro _ w43265 ⟨_, rfl, hp43266⟩
        refine ⟨_, rfl, ?_⟩
        rcases hp43266 with ⟨d43267, rfl, s43268, v43271, v43272, v43273, l43269, hS43270, rfl⟩ | ⟨rfl, s43275, l43276, hS43277, rfl⟩
        · replace hm := optC_some hm
          refine WL_step rfl rfl (Exec.move (v := Value.tuple #[Value.pointer (some ⟨v43271, 0, none⟩), errV 30 (y43264)]) rfl rfl ?_)
          refine WL_step rfl rfl (Exec.extract (v := Value.pointer (some ⟨v43271, 0, none⟩)) rfl rfl rfl ?_)
          refine WL_step rfl rfl (Exec.extract (v := errV 30 (y43264)) rfl rfl rfl ?_)
          refine WL_step rfl rfl (Exec.assign (v := Value.pointer (some ⟨v43271, 0, none⟩)) rfl rfl ?_)
          refine WL_step rfl rfl (Exec.assign (v := errV 30 (y43264)) rfl rfl ?_)
          refine WL_nil (at_normal ?_)
          refine W_seq ?_
          refine W_seq ?_
          refine W_region ?_
          refine WL_step rfl rfl (Exec.move (v := errV 30 (y43264)) rfl rfl ?_)
          refine WL_step rfl rfl (Exec.err_neq_nil (T := 30) Try.underlying26 rfl rfl rfl ?_)
          refine WL_nil (at_normal ?_)
          rcases ite_some hm with ⟨hc43279, hm⟩ | ⟨hc43279, hm⟩
          · refine W_cond_t rfl hc43279 ?_
            refine W_seq ?_
            refine W_region ?_
            refine WL_step rfl rfl (Exec.assign (v := Value.bool (false)) rfl rfl ?_)
            refine WL_nil (at_normal ?_)
            refine W_ret (at_ret ?_)
            have e43281 := Option.some.inj hm
            subst r
            refine ⟨_, ret1 rfl, ?_⟩
            have hS43282 := (hS43270).drop
            have hS43283 := ((hS43282).drop).drop
            have hS43284 := (hS43283).drop
            exact ⟨s43268, (PHeap.le.trans (PHeap.le.trans l43073 l43235) l43269), hS43284, rfl⟩
          · refine W_cond_f rfl hc43279 ?_
            replace hc43279 := not_true hc43279
            refine W_skip (at_normal ?_)
            refine W_seq ?_
            refine W_seq ?_
            refine W_region ?_
            refine WL_step rfl rfl (Exec.move (v := v5) rfl p43237 ?_)
            refine WL_step rfl rfl (Exec.len_rep S47 rfl rfl (a6.mono (PHeap.le.trans (PHeap.le.trans l43073 l43235) l43269)) ?_)
            refine WL_step rfl rfl (Exec.move (v := Value.int .i64 (0)) rfl rfl ?_)
            refine WL_nil (at_normal ?_)
            obtain ⟨c45141, hB45142, hr45143, hn45144, hb45145⟩ := ctl_some hm
            refine W_mid (M := fun f' w' => ∃ s', (c45141 = .next s' ∨ c45141 = .brk s') ∧ (fun (l45140 : (List (List Int))) => ∃ (s45147 : PHeap) , PHeap.le s43268 s45147 ∧ St w0 s45147 (Res.arr (encInt .i64) 3 v43143 at_43142 :: Res.box v43271 63 [v43272] :: Res.arr encRaw 49 v43272 v43273 :: Res.rows (encInt .i64) 3 v43273 l45140 :: H) w' ∧ f' 2 = v8 ∧ f' 7 = v43143 ∧ f' 10 = Value.pointer (some ⟨v43271, 0, none⟩) ∧ f' 56 = v5 ∧ f' 57 = Value.int .i64 ((pairs4.length : Int))) s') ?_ ?_
            · refine W_block (W_forC (fun k' s' f' w' => (fun (l43903 : (List (List Int))) => ∃ (s45146 : PHeap) , PHeap.le s43268 s45146 ∧ St w0 s45146 (Res.arr (encInt .i64) 3 v43143 at_43142 :: Res.box v43271 63 [v43272] :: Res.arr encRaw 49 v43272 v43273 :: Res.rows (encInt .i64) 3 v43273 l43903 :: H) w' ∧ f' 2 = v8 ∧ f' 7 = v43143 ∧ f' 10 = Value.pointer (some ⟨v43271, 0, none⟩) ∧ f' 56 = v5 ∧ f' 57 = Value.int .i64 ((pairs4.length : Int)) ∧ f' 58 = Value.int .i64 (k' : Int)) s') hB45142 ?_ ?_ ?_)
              · have hS45148 := ((hS43270).f2).f2
                have hS45149 := (hS45148).f2
                have hS45150 := (hS45149).f3
                exact ⟨s43268, (PHeap.le_refl _), hS45150, p43238, p43239, rfl, rfl, rfl, rfl⟩
              · intro i43285 l43903 c45152 f45153 w45154 hi45158 hI45155 hm45156 hres45157
                obtain ⟨s45159, l45160, hS45161, p45162, p45163, p45164, p45165, p45166, x45167⟩ := hI45155
                refine W_seq ?_
                refine W_region ?_
                refine WL_step rfl rfl (Exec.lss rfl x45167 p45166 ?_)
                refine WL_nil (at_normal ?_)
                refine W_seq ?_
                refine W_true (congrArg Value.bool (decide_eq_true (by omega))) ?_
                refine W_skip (at_normal ?_)
                refine W_seq ?_
                refine W_block ?_
                refine W_seq ?_
                refine W_region ?_
                refine WL_step rfl rfl (Exec.move (v := Value.int .i64 ((i43285 : Int))) rfl x45167 ?_)
                obtain ⟨x45180, q45181, hm45156⟩ := bind_some hm45156
                refine WL_step rfl rfl (Exec.index_rep S47 rfl p45165 x45167 (a6.mono (PHeap.le.trans (PHeap.le.trans (PHeap.le.trans l43073 l43235) l43269) l45160)) q45181 ?_)
                intro b45182 o45183 a45184
                refine WL_step rfl rfl (Exec.load_at (E := encArr2_uint8) hS45161 A42 rfl rfl rfl a45184 ?_)
                intro v45185 q45186
                obtain rfl := encArr2_uint8_val.1 q45186
                refine WL_step rfl rfl (Exec.alloc (cs := [Value.int .u8 (0), Value.int .u8 (0)]) hS45161 Z42 rfl rfl ?_)
                intro b45187 w45188 hS45189
                refine WL_step rfl rfl (Exec.assign (v := Value.int .i64 ((i43285 : Int))) rfl rfl ?_)
                refine WL_step rfl rfl (Exec.store_box (ds := [Value.int .u8 (x45180.a0), Value.int .u8 (x45180.a1)]) (es := [Value.int .u8 (x45180.a0), Value.int .u8 (x45180.a1)]) hS45189 A42 rfl rfl rfl rfl (one_cons rfl (one_cons rfl one_nil)) (Nat.le_of_ble_eq_true rfl) rfl ?_)
                intro w45190 hS45191
                refine WL_nil (at_normal ?_)
                refine W_seq ?_
                obtain ⟨u45333, q45334, hm45156⟩ := bind_some hm45156
                refine W_drawn (n0 := 14) hmix (by kernel_rfl) [RP.eq (Value.pointer (some ⟨b45187, 0, none⟩)), RP.eq (Value.int .u8 (x45180.a0)), RP.eq (Value.int .i64 (IntKind.i64.wrap x45180.a0)), RP.eq (v43143), RP.eq (Value.int .i64 ((at_43142.length : Int))), RP.eq (Value.int .i64 ((IntKind.i64.wrap x45180.a0).tmod (at_43142.length : Int))), RP.eq (Value.pointer (some ⟨b45187, 1, none⟩)), RP.eq (Value.int .u8 (x45180.a1)), RP.eq (Value.int .i64 (IntKind.i64.wrap x45180.a1)), RP.eq (v43143), RP.eq (Value.int .i64 ((at_43142.length : Int))), RP.eq (Value.int .i64 ((IntKind.i64.wrap x45180.a1).tmod (at_43142.length : Int))), RP.eq (Value.int .i64 ((IntKind.i64.wrap x45180.a0).tmod (at_43142.length : Int))), RP.eq (Value.int .i64 ((IntKind.i64.wrap x45180.a1).tmod (at_43142.length : Int)))] hS45191 (HeadAll.cons ?_ (HeadAll.cons ?_ (HeadAll.cons ?_ (HeadAll.cons ?_ (HeadAll.cons ?_ (HeadAll.cons ?_ (HeadAll.cons ?_ (HeadAll.cons ?_ (HeadAll.cons ?_ (HeadAll.cons ?_ (HeadAll.cons ?_ (HeadAll.cons ?_ (HeadAll.cons ?_ (HeadAll.cons ?_ (HeadAll.nil))))))))))))))) ?_
                · intro g45335 s45336 w45337 l45338 hS45339 fr45340 pre45341
                  refine head_run rfl (Exec.index_parr Try.underlying42 A5 rfl (fr45340 13 rfl) rfl (by decide) rfl ?_)
                  exact head_done hS45339 rfl
                · intro g45342 s45343 w45344 l45345 hS45346 fr45347 pre45348
                  have p45349 : g45342 63 = (Value.pointer (some ⟨b45187, 0, none⟩)) := pre45348 0 _ rfl rfl
                  refine head_run rfl (Exec.load_box (hS45346) A5 rfl p45349 rfl ?_)
                  exact head_done hS45346 rfl
                · intro g45350 s45351 w45352 l45353 hS45354 fr45355 pre45356
                  have p45357 : g45350 64 = (Value.int .u8 (x45180.a0)) := pre45356 0 _ rfl rfl
                  refine head_run rfl (Exec.convert_int (by rw [Try.underlying5]; rfl) Try.underlying3 rfl p45357 ?_)
                  exact head_done hS45354 rfl
                · intro g45358 s45359 w45360 l45361 hS45362 fr45363 pre45364
                  refine head_run rfl (Exec.move (v := v43143) rfl (Eq.trans (fr45363 7 rfl) p45163) ?_)
                  exact head_done hS45362 rfl
                · intro g45365 s45366 w45367 l45368 hS45369 fr45370 pre45371
                  have p45372 : g45365 66 = (v43143) := pre45371 0 _ rfl rfl
                  refine head_run rfl (Exec.len_arr ((hS45369).f1) S49 rfl p45372 ?_)
                  exact head_done hS45369 rfl
                · intro g45373 s45374 w45375 l45376 hS45377 fr45378 pre45379
                  have p45380 : g45373 65 = (Value.int .i64 (IntKind.i64.wrap x45180.a0)) := pre45379 0 _ rfl rfl
                  have p45381 : g45373 67 = (Value.int .i64 ((at_43142.length : Int))) := pre45379 1 _ rfl rfl
                  refine head_run rfl (Exec.rem rfl p45380 p45381 (by simpa using must_some q45334) ?_)
                  exact head_done hS45377 rfl
                · intro g45382 s45383 w45384 l45385 hS45386 fr45387 pre45388
                  refine head_run rfl (Exec.index_parr Try.underlying42 A5 rfl (fr45387 13 rfl) rfl (by decide) rfl ?_)
                  exact head_done hS45386 rfl
                · intro g45389 s45390 w45391 l45392 hS45393 fr45394 pre45395
                  have p45396 : g45389 69 = (Value.pointer (some ⟨b45187, 1, none⟩)) := pre45395 0 _ rfl rfl
                  refine head_run rfl (Exec.load_box (hS45393) A5 rfl p45396 rfl ?_)
                  exact head_done hS45393 rfl
                · intro g45397 s45398 w45399 l45400 hS45401 fr45402 pre45403
                  have p45404 : g45397 70 = (Value.int .u8 (x45180.a1)) := pre45403 0 _ rfl rfl
                  refine head_run rfl (Exec.convert_int (by rw [Try.underlying5]; rfl) Try.underlying3 rfl p45404 ?_)
                  exact head_done hS45401 rfl
                · intro g45405 s45406 w45407 l45408 hS45409 fr45410 pre45411
                  refine head_run rfl (Exec.move (v := v43143) rfl (Eq.trans (fr45410 7 rfl) p45163) ?_)
                  exact head_done hS45409 rfl
                · intro g45412 s45413 w45414 l45415 hS45416 fr45417 pre45418
                  have p45419 : g45412 72 = (v43143) := pre45418 0 _ rfl rfl
                  refine head_run rfl (Exec.len_arr ((hS45416).f1) S49 rfl p45419 ?_)
                  exact head_done hS45416 rfl
                · intro g45420 s45421 w45422 l45423 hS45424 fr45425 pre45426
                  have p45427 : g45420 73 = (Value.int .i64 ((at_43142.length : Int))) := pre45426 1 _ rfl rfl
                  have p45428 : g45420 71 = (Value.int .i64 (IntKind.i64.wrap x45180.a1)) := pre45426 0 _ rfl rfl
                  refine head_run rfl (Exec.rem rfl p45428 p45427 (by simpa using must_some q45334) ?_)
                  exact head_done hS45424 rfl
                · intro g45429 s45430 w45431 l45432 hS45433 fr45434 pre45435
                  have p45436 : g45429 68 = (Value.int .i64 ((IntKind.i64.wrap x45180.a0).tmod (at_43142.length : Int))) := pre45435 0 _ rfl rfl
                  refine head_run rfl (Exec.assign (v := Value.int .i64 ((IntKind.i64.wrap x45180.a0).tmod (at_43142.length : Int))) rfl p45436 ?_)
                  exact head_done hS45433 rfl
                · intro g45437 s45438 w45439 l45440 hS45441 fr45442 pre45443
                  have p45444 : g45437 74 = (Value.int .i64 ((IntKind.i64.wrap x45180.a1).tmod (at_43142.length : Int))) := pre45443 0 _ rfl rfl
                  refine head_run rfl (Exec.assign (v := Value.int .i64 ((IntKind.i64.wrap x45180.a1).tmod (at_43142.length : Int))) rfl p45444 ?_)
                  exact head_done hS45441 rfl
                · intro g45445 s45446 w45447 l45448 hS45449 fr45450 hR45451
                  have p45452 : g45445 63 = (Value.pointer (some ⟨b45187, 0, none⟩)) := hR45451 0 rfl
                  have p45453 : g45445 64 = (Value.int .u8 (x45180.a0)) := hR45451 1 rfl
                  have p45454 : g45445 65 = (Value.int .i64 (IntKind.i64.wrap x45180.a0)) := hR45451 2 rfl
                  have p45455 : g45445 66 = (v43143) := hR45451 3 rfl
                  have p45456 : g45445 67 = (Value.int .i64 ((at_43142.length : Int))) := hR45451 4 rfl
                  have p45457 : g45445 68 = (Value.int .i64 ((IntKind.i64.wrap x45180.a0).tmod (at_43142.length : Int))) := hR45451 5 rfl
                  have p45458 : g45445 69 = (Value.pointer (some ⟨b45187, 1, none⟩)) := hR45451 6 rfl
                  have p45459 : g45445 70 = (Value.int .u8 (x45180.a1)) := hR45451 7 rfl
                  have p45460 : g45445 71 = (Value.int .i64 (IntKind.i64.wrap x45180.a1)) := hR45451 8 rfl
                  have p45461 : g45445 72 = (v43143) := hR45451 9 rfl
                  have p45462 : g45445 73 = (Value.int .i64 ((at_43142.length : Int))) := hR45451 10 rfl
                  have p45463 : g45445 74 = (Value.int .i64 ((IntKind.i64.wrap x45180.a1).tmod (at_43142.length : Int))) := hR45451 11 rfl
                  have p45464 : g45445 14 = (Value.int .i64 ((IntKind.i64.wrap x45180.a0).tmod (at_43142.length : Int))) := hR45451 12 rfl
                  have p45465 : g45445 15 = (Value.int .i64 ((IntKind.i64.wrap x45180.a1).tmod (at_43142.length : Int))) := hR45451 13 rfl
                  refine WL_nil (at_normal ?_)
                  refine W_seq ?_
                  obtain ⟨x45596, q45597, hm45156⟩ := bind_some hm45156
                  obtain ⟨g45598, c45599, e45600⟩ := ((hS45449).f1).arr_at q45597
                  obtain ⟨x45601, q45602, hm45156⟩ := bind_some hm45156
                  obtain ⟨g45603, c45604, e45605⟩ := ((hS45449).f1).arr_at q45602
                  refine W_drawn (n0 := 10) hmix (by kernel_rfl) [RP.eq (v43143), RP.eq (Value.int .i64 ((IntKind.i64.wrap x45180.a1).tmod (at_43142.length : Int))), RP.eq (Value.pointer (some ⟨g45598, 0 + ((IntKind.i64.wrap x45180.a1).tmod (at_43142.length : Int)).toNat * 1, none⟩)), RP.eq (Value.int .i64 (x45596)), RP.eq (v43143), RP.eq (Value.int .i64 ((IntKind.i64.wrap x45180.a0).tmod (at_43142.length : Int))), RP.eq (Value.pointer (some ⟨g45603, 0 + ((IntKind.i64.wrap x45180.a0).tmod (at_43142.length : Int)).toNat * 1, none⟩)), RP.eq (Value.int .i64 (x45601)), RP.eq (Value.int .i64 (IntKind.i64.wrap (x45596 - x45601))), RP.eq (Value.int .i64 (IntKind.i64.wrap (x45596 - x45601)))] hS45449 (HeadAll.cons ?_ (HeadAll.cons ?_ (HeadAll.cons ?_ (HeadAll.cons ?_ (HeadAll.cons ?_ (HeadAll.cons ?_ (HeadAll.cons ?_ (HeadAll.cons ?_ (HeadAll.cons ?_ (HeadAll.cons ?_ (HeadAll.nil))))))))))) ?_
                  · intro g45606 s45607 w45608 l45609 hS45610 fr45611 pre45612
                    refine head_run rfl (Exec.move (v := v43143) rfl (Eq.trans (fr45611 7 rfl) (Eq.trans (fr45450 7 rfl) p45163)) ?_)
                    exact head_done hS45610 rfl
                  · intro g45613 s45614 w45615 l45616 hS45617 fr45618 pre45619
                    refine head_run rfl (Exec.move (v := Value.int .i64 ((IntKind.i64.wrap x45180.a1).tmod (at_43142.length : Int))) rfl (Eq.trans (fr45618 15 rfl) p45465) ?_)
                    exact head_done hS45617 rfl
                  · intro g45620 s45621 w45622 l45623 hS45624 fr45625 pre45626
                    have p45627 : g45620 75 = (v43143) := pre45626 0 _ rfl rfl
                    have p45628 : g45620 76 = (Value.int .i64 ((IntKind.i64.wrap x45180.a1).tmod (at_43142.length : Int))) := pre45626 1 _ rfl rfl
                    refine head_run rfl (Exec.index_slice S49 rfl (Eq.trans p45627 e45600) p45628 (idx_some q45597).1 (idx_some q45597).2.1 ?_)
                    exact head_done hS45624 rfl
                  · intro g45629 s45630 w45631 l45632 hS45633 fr45634 pre45635
                    have p45636 : g45629 77 = (Value.pointer (some ⟨g45598, 0 + ((IntKind.i64.wrap x45180.a1).tmod (at_43142.length : Int)).toNat * 1, none⟩)) := pre45635 0 _ rfl rfl
                    refine head_run rfl (Exec.load_arr (F := (encInt .i64)) ((hS45633).f1) e45600 A3 rfl p45636 rfl q45597 (Sub.refl _) ?_)
                    intro v45637 q45638
                    exact head_done hS45633 (encInt_val.1 q45638)
                  · intro g45639 s45640 w45641 l45642 hS45643 fr45644 pre45645
                    refine head_run rfl (Exec.move (v := v43143) rfl (Eq.trans (fr45644 7 rfl) (Eq.trans (fr45450 7 rfl) p45163)) ?_)
                    exact head_done hS45643 rfl
                  · intro g45646 s45647 w45648 l45649 hS45650 fr45651 pre45652
                    refine head_run rfl (Exec.move (v := Value.int .i64 ((IntKind.i64.wrap x45180.a0).tmod (at_43142.length : Int))) rfl (Eq.trans (fr45651 14 rfl) p45464) ?_)
                    exact head_done hS45650 rfl
                  · intro g45653 s45654 w45655 l45656 hS45657 fr45658 pre45659
                    have p45660 : g45653 80 = (Value.int .i64 ((IntKind.i64.wrap x45180.a0).tmod (at_43142.length : Int))) := pre45659 1 _ rfl rfl
                    have p45661 : g45653 79 = (v43143) := pre45659 0 _ rfl rfl
                    refine head_run rfl (Exec.index_slice S49 rfl (Eq.trans p45661 e45605) p45660 (idx_some q45602).1 (idx_some q45602).2.1 ?_)
                    exact head_done hS45657 rfl
                  · intro g45662 s45663 w45664 l45665 hS45666 fr45667 pre45668
                    have p45669 : g45662 81 = (Value.pointer (some ⟨g45603, 0 + ((IntKind.i64.wrap x45180.a0).tmod (at_43142.length : Int)).toNat * 1, none⟩)) := pre45668 0 _ rfl rfl
                    refine head_run rfl (Exec.load_arr (F := (encInt .i64)) ((hS45666).f1) e45605 A3 rfl p45669 rfl q45602 (Sub.refl _) ?_)
                    intro v45670 q45671
                    exact head_done hS45666 (encInt_val.1 q45671)
                  · intro g45672 s45673 w45674 l45675 hS45676 fr45677 pre45678
                    have p45679 : g45672 82 = (Value.int .i64 (x45601)) := pre45678 1 _ rfl rfl
                    have p45680 : g45672 78 = (Value.int .i64 (x45596)) := pre45678 0 _ rfl rfl
                    refine head_run rfl (Exec.sub rfl p45680 p45679 ?_)
                    exact head_done hS45676 rfl
                  · intro g45681 s45682 w45683 l45684 hS45685 fr45686 pre45687
                    have p45688 : g45681 83 = (Value.int .i64 (IntKind.i64.wrap (x45596 - x45601))) := pre45687 0 _ rfl rfl
                    refine head_run rfl (Exec.assign (v := Value.int .i64 (IntKind.i64.wrap (x45596 - x45601))) rfl p45688 ?_)
                    exact head_done hS45685 rfl
                  · intro g45689 s45690 w45691 l45692 hS45693 fr45694 hR45695
                    have p45696 : g45689 75 = (v43143) := hR45695 0 rfl
                    have p45697 : g45689 76 = (Value.int .i64 ((IntKind.i64.wrap x45180.a1).tmod (at_43142.length : Int))) := hR45695 1 rfl
                    have p45698 : g45689 77 = (Value.pointer (some ⟨g45598, 0 + ((IntKind.i64.wrap x45180.a1).tmod (at_43142.length : Int)).toNat * 1, none⟩)) := hR45695 2 rfl
                    have p45699 : g45689 78 = (Value.int .i64 (x45596)) := hR45695 3 rfl
                    have p45700 : g45689 79 = (v43143) := hR45695 4 rfl
                    have p45701 : g45689 80 = (Value.int .i64 ((IntKind.i64.wrap x45180.a0).tmod (at_43142.length : Int))) := hR45695 5 rfl
                    have p45702 : g45689 81 = (Value.pointer (some ⟨g45603, 0 + ((IntKind.i64.wrap x45180.a0).tmod (at_43142.length : Int)).toNat * 1, none⟩)) := hR45695 6 rfl
                    have p45703 : g45689 82 = (Value.int .i64 (x45601)) := hR45695 7 rfl
                    have p45704 : g45689 83 = (Value.int .i64 (IntKind.i64.wrap (x45596 - x45601))) := hR45695 8 rfl
                    have p45705 : g45689 16 = (Value.int .i64 (IntKind.i64.wrap (x45596 - x45601))) := hR45695 9 rfl
                    refine WL_nil (at_normal ?_)
                    refine W_seq ?_
                    refine W_seq ?_
                    refine W_region ?_
                    refine WL_step rfl rfl (Exec.move (v := Value.int .i64 ((i43285 : Int))) rfl (Eq.trans (fr45694 12 rfl) (fr45450 12 rfl)) ?_)
                    refine WL_step rfl rfl (Exec.move (v := v8) rfl (Eq.trans (fr45694 2 rfl) (Eq.trans (fr45450 2 rfl) p45162)) ?_)
                    refine WL_step rfl rfl (Exec.len_rep S48 rfl rfl (a9.mono (PHeap.le.trans (PHeap.le.trans (PHeap.le.trans (PHeap.le.trans (PHeap.le.trans l43073 l43235) l43269) l45160) l45448) l45692)) ?_)
                    refine WL_step rfl rfl (Exec.lss rfl rfl rfl ?_)
                    refine WL_nil (at_normal ?_)
                    obtain ⟨most45720, ht45721, hm45156⟩ := bind_some hm45156
                    refine W_mid (M := fun f' w' => (fun (most45720 : Int) => ∃ (s45722 : PHeap) , PHeap.le s45690 s45722 ∧ St w0 s45722 (Res.arr (encInt .i64) 3 v43143 at_43142 :: Res.box v43271 63 [v43272] :: Res.arr encRaw 49 v43272 v43273 :: Res.rows (encInt .i64) 3 v43273 l43903 :: H) w' ∧ f' 2 = v8 ∧ f' 7 = v43143 ∧ f' 10 = Value.pointer (some ⟨v43271, 0, none⟩) ∧ f' 14 = Value.int .i64 ((IntKind.i64.wrap x45180.a0).tmod (at_43142.length : Int)) ∧ f' 15 = Value.int .i64 ((IntKind.i64.wrap x45180.a1).tmod (at_43142.length : Int)) ∧ f' 16 = Value.int .i64 (most45720) ∧ f' 56 = v5 ∧ f' 57 = Value.int .i64 ((pairs4.length : Int)) ∧ f' 58 = Value.int .i64 ((i43285 : Int))) most45720) ?_ ?_
                    · rcases ite_some ht45721 with ⟨hc45723, ht45721⟩ | ⟨hc45723, ht45721⟩
                      · refine W_cond_t rfl hc45723 ?_
                        refine W_region ?_
                        refine WL_step rfl rfl (Exec.move (v := Value.int .i64 (IntKind.i64.wrap (x45596 - x45601))) rfl p45705 ?_)
                        refine WL_step rfl rfl (Exec.move (v := v8) rfl (Eq.trans (fr45694 2 rfl) (Eq.trans (fr45450 2 rfl) p45162)) ?_)
                        refine WL_step rfl rfl (Exec.move (v := Value.int .i64 ((i43285 : Int))) rfl (Eq.trans (fr45694 12 rfl) (fr45450 12 rfl)) ?_)
                        obtain ⟨x45731, q45732, ht45721⟩ := bind_some ht45721
                        refine WL_step rfl rfl (Exec.index_rep S48 rfl rfl rfl (a9.mono (PHeap.le.trans (PHeap.le.trans (PHeap.le.trans (PHeap.le.trans (PHeap.le.trans l43073 l43235) l43269) l45160) l45448) l45692)) q45732 ?_)
                        intro b45733 o45734 a45735
                        refine WL_step rfl rfl (Exec.load_at (E := (encInt .u8)) hS45693 A5 rfl rfl rfl a45735 ?_)
                        intro v45736 q45737
                        obtain rfl := encInt_val.1 q45737
                        refine WL_step rfl rfl (Exec.convert_int (by rw [Try.underlying5]; rfl) Try.underlying3 rfl rfl ?_)
                        refine WL_step rfl rfl (Exec.add rfl rfl rfl ?_)
                        refine WL_step rfl rfl (Exec.assign (v := Value.int .i64 (IntKind.i64.wrap ((IntKind.i64.wrap (x45596 - x45601)) + (IntKind.i64.wrap x45731)))) rfl rfl ?_)
                        refine WL_nil (at_normal ?_)
                        have e45738 := Option.some.inj ht45721
                        subst most45720
                        have hS45739 := (hS45693).drop
                        have hS45740 := ((hS45739).f3).f3
                        have hS45741 := (hS45740).f3
                        have hS45742 := (hS45741).f3
                        exact ⟨s45690, (PHeap.le_refl _), hS45742, (Eq.trans (fr45694 2 rfl) (Eq.trans (fr45450 2 rfl) p45162)), (Eq.trans (fr45694 7 rfl) (Eq.trans (fr45450 7 rfl) p45163)), (Eq.trans (fr45694 10 rfl) (Eq.trans (fr45450 10 rfl) p45164)), (Eq.trans (fr45694 14 rfl) p45464), (Eq.trans (fr45694 15 rfl) p45465), rfl, (Eq.trans (fr45694 56 rfl) (Eq.trans (fr45450 56 rfl) p45165)), (Eq.trans (fr45694 57 rfl) (Eq.trans (fr45450 57 rfl) p45166)), (Eq.trans (fr45694 58 rfl) (Eq.trans (fr45450 58 rfl) x45167))⟩
                      · refine W_cond_f rfl hc45723 ?_
                        replace hc45723 := not_true hc45723
                        refine W_skip (at_normal ?_)
                        have e45743 := Option.some.inj ht45721
                        subst most45720
                        have hS45744 := (hS45693).drop
                        have hS45745 := ((hS45744).f3).f3
                        have hS45746 := (hS45745).f3
                        have hS45747 := (hS45746).f3
                        exact ⟨s45690, (PHeap.le_refl _), hS45747, (Eq.trans (fr45694 2 rfl) (Eq.trans (fr45450 2 rfl) p45162)), (Eq.trans (fr45694 7 rfl) (Eq.trans (fr45450 7 rfl) p45163)), (Eq.trans (fr45694 10 rfl) (Eq.trans (fr45450 10 rfl) p45164)), (Eq.trans (fr45694 14 rfl) p45464), (Eq.trans (fr45694 15 rfl) p45465), p45705, (Eq.trans (fr45694 56 rfl) (Eq.trans (fr45450 56 rfl) p45165)), (Eq.trans (fr45694 57 rfl) (Eq.trans (fr45450 57 rfl) p45166)), (Eq.trans (fr45694 58 rfl) (Eq.trans (fr45450 58 rfl) x45167))⟩
                    · intro f45748 w45749 hM45750
                      obtain ⟨s45751, l45752, hS45753, p45754, p45755, p45756, p45757, p45758, p45759, p45760, p45761, p45762⟩ := hM45750
                      refine (at_normal ?_)
                      refine W_seq ?_
                      refine W_region ?_
                      refine WL_step rfl rfl (Exec.move (v := Value.pointer (some ⟨v43271, 0, none⟩)) rfl p45756 ?_)
                      refine WL_step rfl rfl (Exec.move (v := Value.int .i64 ((IntKind.i64.wrap x45180.a0).tmod (at_43142.length : Int))) rfl p45757 ?_)
                      refine WL_step rfl rfl (Exec.move (v := Value.int .i64 ((IntKind.i64.wrap x45180.a1).tmod (at_43142.length : Int))) rfl p45758 ?_)
                      refine WL_step rfl rfl (Exec.move (v := Value.int .i64 (most45720)) rfl p45759 ?_)
                      refine WL_step rfl rfl (Exec.build rfl (parts_cons (c := [Value.int .i64 ((IntKind.i64.wrap x45180.a0).tmod (at_43142.length : Int))]) (cells_of rfl rfl) (parts_cons (c := [Value.int .i64 ((IntKind.i64.wrap x45180.a1).tmod (at_43142.length : Int))]) (cells_of rfl rfl) (parts_cons (c := [Value.int .i64 (most45720)]) (cells_of rfl rfl) parts_nil))) (v := Value.agg #[Value.int .i64 ((IntKind.i64.wrap x45180.a0).tmod (at_43142.length : Int)), Value.int .i64 ((IntKind.i64.wrap x45180.a1).tmod (at_43142.length : Int)), Value.int .i64 (most45720)]) (fun _ => by kernel_rfl) ?_)
                      obtain ⟨t45773, q45774, hm45156⟩ := bind_some hm45156
                      obtain ⟨y45775, l45776⟩ := t45773
                      replace hm45156 := un2_eq hm45156
                      have hS45777 := ((hS45753).f3).f3
                      have hS45778 := (hS45777).f3
                      refine WL_step rfl rfl (Exec.call rfl rfl Try.func14 rfl N14 (args_cons rfl (args_cons rfl args_nil)) ((stn_Network_Add_sim q45774 hS45778 ).mono ?_))
                      rintro _ w45779 ⟨_, rfl, ⟨s45780, l45781, hS45782, rfl⟩⟩
                      refine ⟨_, rfl, ?_⟩
                      refine WL_step rfl rfl (Exec.err_neq_nil (T := 30) Try.underlying26 rfl rfl rfl ?_)
                      refine WL_nil (at_normal ?_)
                      rcases ite_some hm45156 with ⟨hc45783, hm45156⟩ | ⟨hc45783, hm45156⟩
                      · refine W_cond_t rfl hc45783 ?_
                        refine W_seq ?_
                        refine W_region ?_
                        refine WL_step rfl rfl (Exec.assign (v := Value.bool (false)) rfl rfl ?_)
                        refine WL_nil (at_normal ?_)
                        refine W_ret (ib_ret (at_ret (at_ret (ib_ret (at_ret (at_ret ?_))))))
                        have e45784 := Option.some.inj hm45156
                        subst c45152
                        have hq45785 := hr45143 _ (hres45157 (by intro _ h; cases h))
                        have e45786 := Option.some.inj hq45785
                        subst r
                        refine ⟨_, ret1 rfl, ?_⟩
                        have hS45787 := (hS45782).drop
                        have hS45788 := ((hS45787).drop).drop
                        have hS45789 := (hS45788).drop
                        exact ⟨s45780, (PHeap.le.trans (PHeap.le.trans (PHeap.le.trans (PHeap.le.trans (PHeap.le.trans (PHeap.le.trans (PHeap.le.trans l43073 l43235) l43269) l45160) l45448) l45692) l45752) l45781), hS45789, rfl⟩
                      · refine W_cond_f rfl hc45783 ?_
                        replace hc45783 := not_true hc45783
                        refine W_skip (ib_normal (at_normal ?_))
                        refine W_region ?_
                        refine WL_step rfl rfl (Exec.add rfl p45762 rfl ?_)
                        refine WL_step rfl rfl (Exec.move (v := Value.int .i64 (IntKind.i64.wrap ((i43285 : Int) + 1))) rfl rfl ?_)
                        refine WL_nil (at_normal ?_)
                        have e45790 := Option.some.inj hm45156
                        subst c45152
                        have hS45791 := ((hS45782).f2).f2
                        have hS45792 := (hS45791).f2
                        have hS45793 := (hS45792).f3
                        refine ⟨_, rfl, ?_⟩; exact ⟨s45780, (PHeap.le.trans (PHeap.le.trans (PHeap.le.trans (PHeap.le.trans l45160 l45448) l45692) l45752) l45781), hS45793, p45754, p45755, p45756, p45760, p45761, (Eq.trans rfl (wrap_up hi45158 (SliceRep.le (a6.mono (PHeap.le.trans (PHeap.le.trans l43073 l43235) l43269)))))⟩
              · intro l43903 f45794 w45795 hI45796 hres45797
                obtain ⟨s45798, l45799, hS45800, p45801, p45802, p45803, p45804, p45805, x45806⟩ := hI45796
                refine W_seq ?_
                refine W_region ?_
                refine WL_step rfl rfl (Exec.lss rfl x45806 p45805 ?_)
                refine WL_nil (at_normal ?_)
                refine W_seq ?_
                refine W_false (congrArg Value.bool (decide_eq_false (by omega))) ?_
                refine W_exit (at_exit (at_exit (ib_here (at_normal ?_))))
                have hS45807 := ((hS45800).f3).f3
                have hS45808 := (hS45807).f3
                have hS45809 := (hS45808).f3
                refine ⟨_, .inl hres45797, ?_⟩; exact ⟨s45798, l45799, hS45809, p45801, p45802, p45803, p45804, p45805⟩
            · rintro f45810 w45811 ⟨l45140, hc45812, hM45813⟩
              have hm := hc45812.elim (hn45144 _) (hb45145 _)
              clear hc45812
              obtain ⟨s45814, l45815, hS45816, p45817, p45818, p45819, p45820, p45821⟩ := hM45813
              refine (at_normal ?_)
              refine W_seq ?_
              refine W_seq ?_
              refine W_region ?_
              refine WL_step rfl rfl (Exec.move (v := Value.pointer (some ⟨v43271, 0, none⟩)) rfl p45819 ?_)
              refine WL_step rfl rfl (Exec.move (v := v43143) rfl p45818 ?_)
              obtain ⟨y45833, q45832, hm⟩ := bind_some hm
              have hS45834 := ((hS45816).f3).f3
              have hS45835 := (hS45834).f3
              refine WL_step rfl rfl (Exec.call rfl rfl Try.func20 rfl N20 (args_cons rfl (args_cons rfl args_nil)) ((stn_Network_Holds_o_sim q45832 hS45835 ).mono ?_))
              rintro _ w45836 ⟨_, rfl, ⟨s45837, l45838, hS45839, rfl⟩⟩
              refine ⟨_, rfl, ?_⟩
              refine WL_step rfl rfl (Exec.not rfl rfl ?_)
              refine WL_nil (at_normal ?_)
              rcases ite_some hm with ⟨hc45840, hm⟩ | ⟨hc45840, hm⟩
              · refine W_cond_t rfl hc45840 ?_
                refine W_seq ?_
                refine W_region ?_
                refine WL_step rfl rfl (Exec.assign (v := Value.bool (false)) rfl rfl ?_)
                refine WL_nil (at_normal ?_)
                refine W_ret (at_ret ?_)
                have e45842 := Option.some.inj hm
                subst r
                refine ⟨_, ret1 rfl, ?_⟩
                have hS45843 := (hS45839).drop
                have hS45844 := ((hS45843).drop).drop
                have hS45845 := (hS45844).drop
                exact ⟨s45837, (PHeap.le.trans (PHeap.le.trans (PHeap.le.trans (PHeap.le.trans l43073 l43235) l43269) l45815) l45838), hS45845, rfl⟩
              · refine W_cond_f rfl hc45840 ?_
                replace hc45840 := not_true hc45840
                refine W_skip (at_normal ?_)
                refine W_seq ?_
                refine W_seq ?_
                refine W_region ?_
                refine WL_step rfl rfl (Exec.move (v := v43143) rfl p45818 ?_)
                refine WL_step rfl rfl (Exec.len_arr ((hS45839).f3) S49 rfl rfl ?_)
                refine WL_step rfl rfl (Exec.move (v := Value.int .i64 (0)) rfl rfl ?_)
                refine WL_nil (at_normal ?_)
                obtain ⟨c46169, hB46170, hr46171, hn46172, hb46173⟩ := ctl_some hm
                refine W_mid (M := fun f' w' => ∃ s', (c46169 = .next s' ∨ c46169 = .brk s') ∧ (fun (_ : Unit) => ∃ (s46175 : PHeap) , PHeap.le s45837 s46175 ∧ St w0 s46175 (Res.box v43271 63 [v43272] :: Res.arr (encInt .i64) 3 v43143 at_43142 :: Res.arr encRaw 49 v43272 v43273 :: Res.rows (encInt .i64) 3 v43273 l45140 :: H) w' ∧ f' 10 = Value.pointer (some ⟨v43271, 0, none⟩) ∧ f' 107 = v43143 ∧ f' 108 = Value.int .i64 ((at_43142.length : Int))) s') ?_ ?_
                · refine W_block (W_forC (fun k' s' f' w' => (fun (_ : Unit) => ∃ (s46174 : PHeap) , PHeap.le s45837 s46174 ∧ St w0 s46174 (Res.box v43271 63 [v43272] :: Res.arr (encInt .i64) 3 v43143 at_43142 :: Res.arr encRaw 49 v43272 v43273 :: Res.rows (encInt .i64) 3 v43273 l45140 :: H) w' ∧ f' 10 = Value.pointer (some ⟨v43271, 0, none⟩) ∧ f' 107 = v43143 ∧ f' 108 = Value.int .i64 ((at_43142.length : Int)) ∧ f' 109 = Value.int .i64 (k' : Int)) s') hB46170 ?_ ?_ ?_)
                  · have hS46176 := ((hS45839).f2).f2
                    have hS46177 := (hS46176).f3
                    have hS46178 := (hS46177).f3
                    exact ⟨s45837, (PHeap.le_refl _), hS46178, p45819, rfl, rfl, rfl⟩
                  · intro i45846 t46186 c46180 f46181 w46182 hi46187 hI46183 hm46184 hres46185
                    obtain ⟨s46188, l46189, hS46190, p46191, p46192, p46193, x46194⟩ := hI46183
                    refine W_seq ?_
                    refine W_region ?_
                    refine WL_step rfl rfl (Exec.lss rfl x46194 p46193 ?_)
                    refine WL_nil (at_normal ?_)
                    refine W_seq ?_
                    refine W_true (congrArg Value.bool (decide_eq_true (by omega))) ?_
                    refine W_skip (at_normal ?_)
                    refine W_seq ?_
                    refine W_block ?_
                    refine W_seq ?_
                    refine W_region ?_
                    refine WL_step rfl rfl (Exec.move (v := Value.int .i64 ((i45846 : Int))) rfl x46194 ?_)
                    obtain ⟨x46202, q46203, hm46184⟩ := bind_some hm46184
                    obtain ⟨g46204, c46205, e46206⟩ := ((hS46190).f1).arr_at q46203
                    refine WL_step rfl rfl (Exec.index_slice S49 rfl (Eq.trans p46192 e46206) x46194 (idx_some q46203).1 (idx_some q46203).2.1 ?_)
                    refine WL_step rfl rfl (Exec.load_arr (F := (encInt .i64)) ((hS46190).f1) e46206 A3 rfl rfl rfl q46203 (Sub.refl _) ?_)
                    intro v46207 q46208
                    obtain rfl := encInt_val.1 q46208
                    refine WL_step rfl rfl (Exec.assign (v := Value.int .i64 ((i45846 : Int))) rfl rfl ?_)
                    refine WL_step rfl rfl (Exec.assign (v := Value.int .i64 (x46202)) rfl rfl ?_)
                    refine WL_nil (at_normal ?_)
                    refine W_seq ?_
                    refine W_region ?_
                    refine WL_step rfl rfl (Exec.move (v := Value.pointer (some ⟨v43271, 0, none⟩)) rfl p46191 ?_)
                    refine WL_step rfl rfl (Exec.move (v := Value.int .i64 ((i45846 : Int))) rfl rfl ?_)
                    obtain ⟨t46219, q46220, hm46184⟩ := bind_some hm46184
                    obtain ⟨y46221, y46222⟩ := t46219
                    replace hm46184 := un2_eq hm46184
                    have hS46223 := ((hS46190).f3).f3
                    have hS46224 := (hS46223).f2
                    refine WL_step rfl rfl (Exec.call rfl rfl Try.func16 rfl N16 (args_cons rfl (args_cons rfl args_nil)) ((stn_Network_Earliest_sim q46220 hS46224 ).mono ?_))
                    rintro _ w46225 ⟨_, rfl, ⟨s46226, l46227, hS46228, rfl⟩⟩
                    refine ⟨_, rfl, ?_⟩
                    refine WL_step rfl rfl (Exec.move (v := Value.tuple #[Value.int .i64 (y46221), errV 30 (y46222)]) rfl rfl ?_)
                    refine WL_step rfl rfl (Exec.extract (v := Value.int .i64 (y46221)) rfl rfl rfl ?_)
                    refine WL_step rfl rfl (Exec.extract (v := errV 30 (y46222)) rfl rfl rfl ?_)
                    refine WL_step rfl rfl (Exec.assign (v := Value.int .i64 (y46221)) rfl rfl ?_)
                    refine WL_step rfl rfl (Exec.assign (v := errV 30 (y46222)) rfl rfl ?_)
                    refine WL_nil (at_normal ?_)
                    refine W_seq ?_
                    refine W_seq ?_
                    refine W_mid (M := fun f' w' => ∃ (s46241 : PHeap) , PHeap.le s46226 s46241 ∧ St w0 s46241 (Res.box v43271 63 [v43272] :: Res.arr (encInt .i64) 3 v43143 at_43142 :: Res.arr encRaw 49 v43272 v43273 :: Res.rows (encInt .i64) 3 v43273 l45140 :: H) w' ∧ f' 10 = Value.pointer (some ⟨v43271, 0, none⟩) ∧ f' 17 = Value.int .i64 ((i45846 : Int)) ∧ f' 18 = Value.int .i64 (x46202) ∧ f' 107 = v43143 ∧ f' 108 = Value.int .i64 ((at_43142.length : Int)) ∧ f' 109 = Value.int .i64 ((i45846 : Int)) ∧ f' 135 = Value.bool ((bif y46222.isNone then ((decide (x46202 < y46221)) || (y46222.isSome && !(base_Is_t y46222 3))) else (y46222.isSome && !(base_Is_t y46222 3))))) ?_ ?_
                    · refine W_region ?_
                      refine WL_step rfl rfl (Exec.move (v := errV 30 (y46222)) rfl rfl ?_)
                      refine WL_step rfl rfl (Exec.err_eql_nil (T := 30) Try.underlying26 rfl rfl rfl ?_)
                      refine WL_step rfl rfl (Exec.move (v := Value.bool (y46222.isNone)) rfl rfl ?_)
                      by_cases hc46242 : y46222.isNone = true
                      · refine WL_run rfl (yield_of rfl (congrArg Value.bool hc46242)) rfl (Exec.move (v := Value.int .i64 (x46202)) rfl rfl ?_)
                        refine WL_run rfl (yield_of rfl (congrArg Value.bool hc46242)) rfl (Exec.move (v := Value.int .i64 (y46221)) rfl rfl ?_)
                        refine WL_run rfl (yield_of rfl (congrArg Value.bool hc46242)) rfl (Exec.lss rfl rfl rfl ?_)
                        refine WL_step rfl rfl (Exec.pick_t (v := Value.bool (decide (x46202 < y46221))) rfl (congrArg Value.bool hc46242) rfl ?_)
                        refine WL_step rfl rfl (Exec.move (v := Value.bool (decide (x46202 < y46221))) rfl rfl ?_)
                        by_cases hc46243 : (decide (x46202 < y46221)) = true
                        · refine WL_pass rfl (yield_of rfl (congrArg Value.bool hc46243)) rfl rfl ?_
                          refine WL_pass rfl (yield_of rfl (congrArg Value.bool hc46243)) rfl rfl ?_
                          refine WL_pass rfl (yield_of rfl (congrArg Value.bool hc46243)) rfl rfl ?_
                          refine WL_pass_none rfl (yield_undef rfl rfl) rfl ?_
                          refine WL_pass_none rfl (yield_undef rfl rfl) rfl ?_
                          refine WL_pass_none rfl (yield_undef rfl rfl) rfl ?_
                          refine WL_pass rfl (yield_of rfl (congrArg Value.bool hc46243)) rfl rfl ?_
                          refine WL_step rfl rfl (Exec.pick_t (v := Value.bool (true)) rfl (congrArg Value.bool hc46243) rfl ?_)
                          refine WL_nil (at_normal ?_)
                          have hS46244 := ((hS46228).f2).f2
                          have hS46245 := (hS46244).f3
                          have hS46246 := (hS46245).f3
                          exact ⟨s46226, (PHeap.le_refl _), hS46246, p46191, rfl, rfl, p46192, p46193, x46194, (congrArg Value.bool (Eq.trans (cnd_t hc46242) (or_t hc46243))).symm⟩
                        · replace hc46243 := not_true hc46243
                          refine WL_run rfl (yield_of rfl (congrArg Value.bool hc46243)) rfl (Exec.move (v := errV 30 (y46222)) rfl rfl ?_)
                          refine WL_run rfl (yield_of rfl (congrArg Value.bool hc46243)) rfl (Exec.err_neq_nil (T := 30) Try.underlying26 rfl rfl rfl ?_)
                          refine WL_run rfl (yield_of rfl (congrArg Value.bool hc46243)) rfl (Exec.move (v := Value.bool (y46222.isSome)) rfl rfl ?_)
                          by_cases hc46247 : y46222.isSome = true
                          · refine WL_run rfl (yield_of rfl (congrArg Value.bool hc46247)) rfl (Exec.move (v := errV 30 (y46222)) rfl rfl ?_)
                            refine WL_run rfl (yield_of rfl (congrArg Value.bool hc46247)) rfl (Exec.call rfl rfl Try.func11 rfl N11 (args_cons rfl (args_cons rfl args_nil)) ((base_Is_sim (base_Is_tot y46222 3) hS46228 ).mono ?_))
                            rintro _ w46248 ⟨_, rfl, ⟨s46249, l46250, hS46251, rfl⟩⟩
                            refine ⟨_, rfl, ?_⟩
                            refine WL_run rfl (yield_of rfl (congrArg Value.bool hc46247)) rfl (Exec.not rfl rfl ?_)
                            refine WL_run rfl (yield_of rfl (congrArg Value.bool hc46243)) rfl (Exec.pick_t (v := Value.bool (!(base_Is_t y46222 3))) rfl (congrArg Value.bool hc46247) rfl ?_)
                            refine WL_step rfl rfl (Exec.pick_f (v := Value.bool (!(base_Is_t y46222 3))) rfl (congrArg Value.bool hc46243) rfl ?_)
                            refine WL_nil (at_normal ?_)
                            have hS46252 := ((hS46251).f2).f2
                            have hS46253 := (hS46252).f3
                            have hS46254 := (hS46253).f3
                            exact ⟨s46249, l46250, hS46254, p46191, rfl, rfl, p46192, p46193, x46194, (congrArg Value.bool (Eq.trans (cnd_t hc46242) (Eq.trans (or_f hc46243) (and_t hc46247)))).symm⟩
                          · replace hc46247 := not_true hc46247
                            refine WL_pass rfl (yield_of rfl (congrArg Value.bool hc46247)) rfl rfl ?_
                            refine WL_pass rfl (yield_of rfl (congrArg Value.bool hc46247)) rfl rfl ?_
                            refine WL_pass rfl (yield_of rfl (congrArg Value.bool hc46247)) rfl rfl ?_
                            refine WL_run rfl (yield_of rfl (congrArg Value.bool hc46243)) rfl (Exec.pick_f (v := Value.bool (false)) rfl (congrArg Value.bool hc46247) rfl ?_)
                            refine WL_step rfl rfl (Exec.pick_f (v := Value.bool (false)) rfl (congrArg Value.bool hc46243) rfl ?_)
                            refine WL_nil (at_normal ?_)
                            have hS46255 := ((hS46228).f2).f2
                            have hS46256 := (hS46255).f3
                            have hS46257 := (hS46256).f3
                            exact ⟨s46226, (PHeap.le_refl _), hS46257, p46191, rfl, rfl, p46192, p46193, x46194, (congrArg Value.bool (Eq.trans (cnd_t hc46242) (Eq.trans (or_f hc46243) (and_f hc46247)))).symm⟩
                      · replace hc46242 := not_true hc46242
                        refine WL_pass rfl (yield_of rfl (congrArg Value.bool hc46242)) rfl rfl ?_
                        refine WL_pass rfl (yield_of rfl (congrArg Value.bool hc46242)) rfl rfl ?_
                        refine WL_pass rfl (yield_of rfl (congrArg Value.bool hc46242)) rfl rfl ?_
                        refine WL_step rfl rfl (Exec.pick_f (v := Value.bool (false)) rfl (congrArg Value.bool hc46242) rfl ?_)
                        refine WL_step rfl rfl (Exec.move (v := Value.bool (false)) rfl rfl ?_)
                        refine WL_run rfl (yield_of rfl rfl) rfl (Exec.move (v := errV 30 (y46222)) rfl rfl ?_)
                        refine WL_run rfl (yield_of rfl rfl) rfl (Exec.err_neq_nil (T := 30) Try.underlying26 rfl rfl rfl ?_)
                        refine WL_run rfl (yield_of rfl rfl) rfl (Exec.move (v := Value.bool (y46222.isSome)) rfl rfl ?_)
                        by_cases hc46258 : y46222.isSome = true
                        · refine WL_run rfl (yield_of rfl (congrArg Value.bool hc46258)) rfl (Exec.move (v := errV 30 (y46222)) rfl rfl ?_)
                          refine WL_run rfl (yield_of rfl (congrArg Value.bool hc46258)) rfl (Exec.call rfl rfl Try.func11 rfl N11 (args_cons rfl (args_cons rfl args_nil)) ((base_Is_sim (base_Is_tot y46222 3) hS46228 ).mono ?_))
                          rintro _ w46259 ⟨_, rfl, ⟨s46260, l46261, hS46262, rfl⟩⟩
                          refine ⟨_, rfl, ?_⟩
                          refine WL_run rfl (yield_of rfl (congrArg Value.bool hc46258)) rfl (Exec.not rfl rfl ?_)
                          refine WL_run rfl (yield_of rfl rfl) rfl (Exec.pick_t (v := Value.bool (!(base_Is_t y46222 3))) rfl (congrArg Value.bool hc46258) rfl ?_)
                          refine WL_step rfl rfl (Exec.pick_f (v := Value.bool (!(base_Is_t y46222 3))) rfl rfl rfl ?_)
                          refine WL_nil (at_normal ?_)
                          have hS46263 := ((hS46262).f2).f2
                          have hS46264 := (hS46263).f3
                          have hS46265 := (hS46264).f3
                          exact ⟨s46260, l46261, hS46265, p46191, rfl, rfl, p46192, p46193, x46194, (congrArg Value.bool (Eq.trans (cnd_f hc46242) (and_t hc46258))).symm⟩
                        · replace hc46258 := not_true hc46258
                          refine WL_pass rfl (yield_of rfl (congrArg Value.bool hc46258)) rfl rfl ?_
                          refine WL_pass rfl (yield_of rfl (congrArg Value.bool hc46258)) rfl rfl ?_
                          refine WL_pass rfl (yield_of rfl (congrArg Value.bool hc46258)) rfl rfl ?_
                          refine WL_run rfl (yield_of rfl rfl) rfl (Exec.pick_f (v := Value.bool (false)) rfl (congrArg Value.bool hc46258) rfl ?_)
                          refine WL_step rfl rfl (Exec.pick_f (v := Value.bool (false)) rfl rfl rfl ?_)
                          refine WL_nil (at_normal ?_)
                          have hS46266 := ((hS46228).f2).f2
                          have hS46267 := (hS46266).f3
                          have hS46268 := (hS46267).f3
                          exact ⟨s46226, (PHeap.le_refl _), hS46268, p46191, rfl, rfl, p46192, p46193, x46194, (congrArg Value.bool (Eq.trans (cnd_f hc46242) (and_f hc46258))).symm⟩
                    · intro f46269 w46270 hM46271
                      obtain ⟨s46272, l46273, hS46274, p46275, p46276, p46277, p46278, p46279, p46280, p46281⟩ := hM46271
                      refine (at_normal ?_)
                      rcases ite_some hm46184 with ⟨hc46282, hm46184⟩ | ⟨hc46282, hm46184⟩
                      · refine W_cond_t p46281 hc46282 ?_
                        refine W_seq ?_
                        refine W_region ?_
                        refine WL_step rfl rfl (Exec.assign (v := Value.bool (false)) rfl rfl ?_)
                        refine WL_nil (at_normal ?_)
                        refine W_ret (at_ret (ib_ret (at_ret (at_ret (ib_ret (at_ret (at_ret ?_)))))))
                        have e46283 := Option.some.inj hm46184
                        subst c46180
                        have hq46284 := hr46171 _ (hres46185 (by intro _ h; cases h))
                        have e46285 := Option.some.inj hq46284
                        subst r
                        refine ⟨_, ret1 rfl, ?_⟩
                        have hS46286 := (hS46274).drop
                        have hS46287 := (hS46286).drop
                        have hS46288 := ((hS46287).drop).drop
                        exact ⟨s46272, (PHeap.le.trans (PHeap.le.trans (PHeap.le.trans (PHeap.le.trans (PHeap.le.trans (PHeap.le.trans (PHeap.le.trans l43073 l43235) l43269) l45815) l45838) l46189) l46227) l46273), hS46288, rfl⟩
                      · refine W_cond_f p46281 hc46282 ?_
                        replace hc46282 := not_true hc46282
                        refine W_skip (at_normal ?_)
                        refine W_seq ?_
                        refine W_region ?_
                        refine WL_step rfl rfl (Exec.move (v := Value.pointer (some ⟨v43271, 0, none⟩)) rfl p46275 ?_)
                        refine WL_step rfl rfl (Exec.move (v := Value.int .i64 ((i45846 : Int))) rfl p46276 ?_)
                        obtain ⟨t46299, q46300, hm46184⟩ := bind_some hm46184
                        obtain ⟨y46301, y46302⟩ := t46299
                        replace hm46184 := un2_eq hm46184
                        have hS46303 := ((hS46274).f3).f3
                        have hS46304 := (hS46303).f2
                        refine WL_step rfl rfl (Exec.call rfl rfl Try.func17 rfl N17 (args_cons rfl (args_cons rfl args_nil)) ((stn_Network_Latest_sim q46300 hS46304 ).mono ?_))
                        rintro _ w46305 ⟨_, rfl, ⟨s46306, l46307, hS46308, rfl⟩⟩
                        refine ⟨_, rfl, ?_⟩
                        refine WL_step rfl rfl (Exec.move (v := Value.tuple #[Value.int .i64 (y46301), errV 30 (y46302)]) rfl rfl ?_)
                        refine WL_step rfl rfl (Exec.extract (v := Value.int .i64 (y46301)) rfl rfl rfl ?_)
                        refine WL_step rfl rfl (Exec.extract (v := errV 30 (y46302)) rfl rfl rfl ?_)
                        refine WL_step rfl rfl (Exec.assign (v := Value.int .i64 (y46301)) rfl rfl ?_)
                        refine WL_step rfl rfl (Exec.assign (v := errV 30 (y46302)) rfl rfl ?_)
                        refine WL_nil (at_normal ?_)
                        refine W_seq ?_
                        refine W_mid (M := fun f' w' => ∃ (s46321 : PHeap) , PHeap.le s46306 s46321 ∧ St w0 s46321 (Res.box v43271 63 [v43272] :: Res.arr (encInt .i64) 3 v43143 at_43142 :: Res.arr encRaw 49 v43272 v43273 :: Res.rows (encInt .i64) 3 v43273 l45140 :: H) w' ∧ f' 10 = Value.pointer (some ⟨v43271, 0, none⟩) ∧ f' 107 = v43143 ∧ f' 108 = Value.int .i64 ((at_43142.length : Int)) ∧ f' 109 = Value.int .i64 ((i45846 : Int)) ∧ f' 157 = Value.bool ((bif y46302.isNone then ((decide (y46301 < x46202)) || (y46302.isSome && !(base_Is_t y46302 3))) else (y46302.isSome && !(base_Is_t y46302 3))))) ?_ ?_
                        · refine W_region ?_
                          refine WL_step rfl rfl (Exec.move (v := errV 30 (y46302)) rfl rfl ?_)
                          refine WL_step rfl rfl (Exec.err_eql_nil (T := 30) Try.underlying26 rfl rfl rfl ?_)
                          refine WL_step rfl rfl (Exec.move (v := Value.bool (y46302.isNone)) rfl rfl ?_)
                          by_cases hc46322 : y46302.isNone = true
                          · refine WL_run rfl (yield_of rfl (congrArg Value.bool hc46322)) rfl (Exec.move (v := Value.int .i64 (x46202)) rfl p46277 ?_)
                            refine WL_run rfl (yield_of rfl (congrArg Value.bool hc46322)) rfl (Exec.move (v := Value.int .i64 (y46301)) rfl rfl ?_)
                            refine WL_run rfl (yield_of rfl (congrArg Value.bool hc46322)) rfl (Exec.gtr rfl rfl rfl ?_)
                            refine WL_step rfl rfl (Exec.pick_t (v := Value.bool (decide (y46301 < x46202))) rfl (congrArg Value.bool hc46322) rfl ?_)
                            refine WL_step rfl rfl (Exec.move (v := Value.bool (decide (y46301 < x46202))) rfl rfl ?_)
                            by_cases hc46323 : (decide (y46301 < x46202)) = true
                            · refine WL_pass rfl (yield_of rfl (congrArg Value.bool hc46323)) rfl rfl ?_
                              refine WL_pass rfl (yield_of rfl (congrArg Value.bool hc46323)) rfl rfl ?_
                              refine WL_pass rfl (yield_of rfl (congrArg Value.bool hc46323)) rfl rfl ?_
                              refine WL_pass_none rfl (yield_undef rfl rfl) rfl ?_
                              refine WL_pass_none rfl (yield_undef rfl rfl) rfl ?_
                              refine WL_pass_none rfl (yield_undef rfl rfl) rfl ?_
                              refine WL_pass rfl (yield_of rfl (congrArg Value.bool hc46323)) rfl rfl ?_
                              refine WL_step rfl rfl (Exec.pick_t (v := Value.bool (true)) rfl (congrArg Value.bool hc46323) rfl ?_)
                              refine WL_nil (at_normal ?_)
                              have hS46324 := ((hS46308).f2).f2
                              have hS46325 := (hS46324).f3
                              have hS46326 := (hS46325).f3
                              exact ⟨s46306, (PHeap.le_refl _), hS46326, p46275, p46278, p46279, p46280, (congrArg Value.bool (Eq.trans (cnd_t hc46322) (or_t hc46323))).symm⟩
                            · replace hc46323 := not_true hc46323
                              refine WL_run rfl (yield_of rfl (congrArg Value.bool hc46323)) rfl (Exec.move (v := errV 30 (y46302)) rfl rfl ?_)
                              refine WL_run rfl (yield_of rfl (congrArg Value.bool hc46323)) rfl (Exec.err_neq_nil (T := 30) Try.underlying26 rfl rfl rfl ?_)
                              refine WL_run rfl (yield_of rfl (congrArg Value.bool hc46323)) rfl (Exec.move (v := Value.bool (y46302.isSome)) rfl rfl ?_)
                              by_cases hc46327 : y46302.isSome = true
                              · refine WL_run rfl (yield_of rfl (congrArg Value.bool hc46327)) rfl (Exec.move (v := errV 30 (y46302)) rfl rfl ?_)
                                refine WL_run rfl (yield_of rfl (congrArg Value.bool hc46327)) rfl (Exec.call rfl rfl Try.func11 rfl N11 (args_cons rfl (args_cons rfl args_nil)) ((base_Is_sim (base_Is_tot y46302 3) hS46308 ).mono ?_))
                                rintro _ w46328 ⟨_, rfl, ⟨s46329, l46330, hS46331, rfl⟩⟩
                                refine ⟨_, rfl, ?_⟩
                                refine WL_run rfl (yield_of rfl (congrArg Value.bool hc46327)) rfl (Exec.not rfl rfl ?_)
                                refine WL_run rfl (yield_of rfl (congrArg Value.bool hc46323)) rfl (Exec.pick_t (v := Value.bool (!(base_Is_t y46302 3))) rfl (congrArg Value.bool hc46327) rfl ?_)
                                refine WL_step rfl rfl (Exec.pick_f (v := Value.bool (!(base_Is_t y46302 3))) rfl (congrArg Value.bool hc46323) rfl ?_)
                                refine WL_nil (at_normal ?_)
                                have hS46332 := ((hS46331).f2).f2
                                have hS46333 := (hS46332).f3
                                have hS46334 := (hS46333).f3
                                exact ⟨s46329, l46330, hS46334, p46275, p46278, p46279, p46280, (congrArg Value.bool (Eq.trans (cnd_t hc46322) (Eq.trans (or_f hc46323) (and_t hc46327)))).symm⟩
                              · replace hc46327 := not_true hc46327
                                refine WL_pass rfl (yield_of rfl (congrArg Value.bool hc46327)) rfl rfl ?_
                                refine WL_pass rfl (yield_of rfl (congrArg Value.bool hc46327)) rfl rfl ?_
                                refine WL_pass rfl (yield_of rfl (congrArg Value.bool hc46327)) rfl rfl ?_
                                refine WL_run rfl (yield_of rfl (congrArg Value.bool hc46323)) rfl (Exec.pick_f (v := Value.bool (false)) rfl (congrArg Value.bool hc46327) rfl ?_)
                                refine WL_step rfl rfl (Exec.pick_f (v := Value.bool (false)) rfl (congrArg Value.bool hc46323) rfl ?_)
                                refine WL_nil (at_normal ?_)
                                have hS46335 := ((hS46308).f2).f2
                                have hS46336 := (hS46335).f3
                                have hS46337 := (hS46336).f3
                                exact ⟨s46306, (PHeap.le_refl _), hS46337, p46275, p46278, p46279, p46280, (congrArg Value.bool (Eq.trans (cnd_t hc46322) (Eq.trans (or_f hc46323) (and_f hc46327)))).symm⟩
                          · replace hc46322 := not_true hc46322
                            refine WL_pass rfl (yield_of rfl (congrArg Value.bool hc46322)) rfl rfl ?_
                            refine WL_pass rfl (yield_of rfl (congrArg Value.bool hc46322)) rfl rfl ?_
                            refine WL_pass rfl (yield_of rfl (congrArg Value.bool hc46322)) rfl rfl ?_
                            refine WL_step rfl rfl (Exec.pick_f (v := Value.bool (false)) rfl (congrArg Value.bool hc46322) rfl ?_)
                            refine WL_step rfl rfl (Exec.move (v := Value.bool (false)) rfl rfl ?_)
                            refine WL_run rfl (yield_of rfl rfl) rfl (Exec.move (v := errV 30 (y46302)) rfl rfl ?_)
                            refine WL_run rfl (yield_of rfl rfl) rfl (Exec.err_neq_nil (T := 30) Try.underlying26 rfl rfl rfl ?_)
                            refine WL_run rfl (yield_of rfl rfl) rfl (Exec.move (v := Value.bool (y46302.isSome)) rfl rfl ?_)
                            by_cases hc46338 : y46302.isSome = true
                            · refine WL_run rfl (yield_of rfl (congrArg Value.bool hc46338)) rfl (Exec.move (v := errV 30 (y46302)) rfl rfl ?_)
                              refine WL_run rfl (yield_of rfl (congrArg Value.bool hc46338)) rfl (Exec.call rfl rfl Try.func11 rfl N11 (args_cons rfl (args_cons rfl args_nil)) ((base_Is_sim (base_Is_tot y46302 3) hS46308 ).mono ?_))
                              rintro _ w46339 ⟨_, rfl, ⟨s46340, l46341, hS46342, rfl⟩⟩
                              refine ⟨_, rfl, ?_⟩
                              refine WL_run rfl (yield_of rfl (congrArg Value.bool hc46338)) rfl (Exec.not rfl rfl ?_)
                              refine WL_run rfl (yield_of rfl rfl) rfl (Exec.pick_t (v := Value.bool (!(base_Is_t y46302 3))) rfl (congrArg Value.bool hc46338) rfl ?_)
                              refine WL_step rfl rfl (Exec.pick_f (v := Value.bool (!(base_Is_t y46302 3))) rfl rfl rfl ?_)
                              refine WL_nil (at_normal ?_)
                              have hS46343 := ((hS46342).f2).f2
                              have hS46344 := (hS46343).f3
                              have hS46345 := (hS46344).f3
                              exact ⟨s46340, l46341, hS46345, p46275, p46278, p46279, p46280, (congrArg Value.bool (Eq.trans (cnd_f hc46322) (and_t hc46338))).symm⟩
                            · replace hc46338 := not_true hc46338
                              refine WL_pass rfl (yield_of rfl (congrArg Value.bool hc46338)) rfl rfl ?_
                              refine WL_pass rfl (yield_of rfl (congrArg Value.bool hc46338)) rfl rfl ?_
                              refine WL_pass rfl (yield_of rfl (congrArg Value.bool hc46338)) rfl rfl ?_
                              refine WL_run rfl (yield_of rfl rfl) rfl (Exec.pick_f (v := Value.bool (false)) rfl (congrArg Value.bool hc46338) rfl ?_)
                              refine WL_step rfl rfl (Exec.pick_f (v := Value.bool (false)) rfl rfl rfl ?_)
                              refine WL_nil (at_normal ?_)
                              have hS46346 := ((hS46308).f2).f2
                              have hS46347 := (hS46346).f3
                              have hS46348 := (hS46347).f3
                              exact ⟨s46306, (PHeap.le_refl _), hS46348, p46275, p46278, p46279, p46280, (congrArg Value.bool (Eq.trans (cnd_f hc46322) (and_f hc46338))).symm⟩
                        · intro f46349 w46350 hM46351
                          obtain ⟨s46352, l46353, hS46354, p46355, p46356, p46357, p46358, p46359⟩ := hM46351
                          refine (at_normal ?_)
                          rcases ite_some hm46184 with ⟨hc46360, hm46184⟩ | ⟨hc46360, hm46184⟩
                          · refine W_cond_t p46359 hc46360 ?_
                            refine W_seq ?_
                            refine W_region ?_
                            refine WL_step rfl rfl (Exec.assign (v := Value.bool (false)) rfl rfl ?_)
                            refine WL_nil (at_normal ?_)
                            refine W_ret (ib_ret (at_ret (at_ret (ib_ret (at_ret (at_ret ?_))))))
                            have e46361 := Option.some.inj hm46184
                            subst c46180
                            have hq46362 := hr46171 _ (hres46185 (by intro _ h; cases h))
                            have e46363 := Option.some.inj hq46362
                            subst r
                            refine ⟨_, ret1 rfl, ?_⟩
                            have hS46364 := (hS46354).drop
                            have hS46365 := (hS46364).drop
                            have hS46366 := ((hS46365).drop).drop
                            exact ⟨s46352, (PHeap.le.trans (PHeap.le.trans (PHeap.le.trans (PHeap.le.trans (PHeap.le.trans (PHeap.le.trans (PHeap.le.trans (PHeap.le.trans (PHeap.le.trans l43073 l43235) l43269) l45815) l45838) l46189) l46227) l46273) l46307) l46353), hS46366, rfl⟩
                          · refine W_cond_f p46359 hc46360 ?_
                            replace hc46360 := not_true hc46360
                            refine W_skip (ib_normal (at_normal ?_))
                            refine W_region ?_
                            refine WL_step rfl rfl (Exec.add rfl p46358 rfl ?_)
                            refine WL_step rfl rfl (Exec.move (v := Value.int .i64 (IntKind.i64.wrap ((i45846 : Int) + 1))) rfl rfl ?_)
                            refine WL_nil (at_normal ?_)
                            have e46367 := Option.some.inj hm46184
                            subst c46180
                            have hS46368 := ((hS46354).f3).f3
                            have hS46369 := (hS46368).f3
                            have hS46370 := (hS46369).f3
                            refine ⟨_, rfl, ?_⟩; exact ⟨s46352, (PHeap.le.trans (PHeap.le.trans (PHeap.le.trans (PHeap.le.trans l46189 l46227) l46273) l46307) l46353), hS46370, p46355, p46356, p46357, (Eq.trans rfl (wrap_up hi46187 ((hS45839).f3).arr_le))⟩
                  · intro t46371 f46372 w46373 hI46374 hres46375
                    obtain ⟨s46376, l46377, hS46378, p46379, p46380, p46381, x46382⟩ := hI46374
                    refine W_seq ?_
                    refine W_region ?_
                    refine WL_step rfl rfl (Exec.lss rfl x46382 p46381 ?_)
                    refine WL_nil (at_normal ?_)
                    refine W_seq ?_
                    refine W_false (congrArg Value.bool (decide_eq_false (by omega))) ?_
                    refine W_exit (at_exit (at_exit (ib_here (at_normal ?_))))
                    have hS46383 := ((hS46378).f3).f3
                    have hS46384 := (hS46383).f3
                    have hS46385 := (hS46384).f3
                    refine ⟨_, .inl hres46375, ?_⟩; exact ⟨s46376, l46377, hS46385, p46379, p46380, p46381⟩
                · rintro f46386 w46387 ⟨t46388, hc46389, hM46390⟩
                  have hm := hc46389.elim (hn46172 _) (hb46173 _)
                  clear hc46389
                  obtain ⟨s46391, l46392, hS46393, p46394, p46395, p46396⟩ := hM46390
                  refine (at_normal ?_)
                  refine W_seq ?_
                  refine W_region ?_
                  refine WL_step rfl rfl (Exec.assign (v := Value.bool (true)) rfl rfl ?_)
                  refine WL_nil (at_normal ?_)
                  refine W_ret ?_
                  have e46398 := Option.some.inj hm
                  subst r
                  refine ⟨_, ret1 rfl, ?_⟩
                  have hS46399 := (hS46393).drop
                  have hS46400 := (hS46399).drop
                  have hS46401 := ((hS46400).drop).drop
                  exact ⟨s46391, (PHeap.le.trans (PHeap.le.trans (PHeap.le.trans (PHeap.le.trans (PHeap.le.trans l43073 l43235) l43269) l45815) l45838) l46392), hS46401, rfl⟩
        · replace hm := optC_none hm
          refine WL_step rfl rfl (Exec.move (v := Value.tuple #[Value.pointer none, errV 30 (y43264)]) rfl rfl ?_)
          refine WL_step rfl rfl (Exec.extract (v := Value.pointer none) rfl rfl rfl ?_)
          refine WL_step rfl rfl (Exec.extract (v := errV 30 (y43264)) rfl rfl rfl ?_)
          refine WL_step rfl rfl (Exec.assign (v := Value.pointer none) rfl rfl ?_)
          refine WL_step rfl rfl (Exec.assign (v := errV 30 (y43264)) rfl rfl ?_)
          refine WL_nil (at_normal ?_)
          refine W_seq ?_
          refine W_seq ?_
          refine W_region ?_
          refine WL_step rfl rfl (Exec.move (v := errV 30 (y43264)) rfl rfl ?_)
          refine WL_step rfl rfl (Exec.err_neq_nil (T := 30) Try.underlying26 rfl rfl rfl ?_)
          refine WL_nil (at_normal ?_)
          rcases ite_some hm with ⟨hc46402, hm⟩ | ⟨hc46402, hm⟩
          · refine W_cond_t rfl hc46402 ?_
            refine W_seq ?_
            refine W_region ?_
            refine WL_step rfl rfl (Exec.assign (v := Value.bool (false)) rfl rfl ?_)
            refine WL_nil (at_normal ?_)
            refine W_ret (at_ret ?_)
            have e46404 := Option.some.inj hm
            subst r
            refine ⟨_, ret1 rfl, ?_⟩
            have hS46405 := (hS43277).drop
            exact ⟨s43275, (PHeap.le.trans (PHeap.le.trans l43073 l43235) l43276), hS46405, rfl⟩
          · refine W_cond_f rfl hc46402 ?_
            replace hc46402 := not_true hc46402
            refine W_skip (at_normal ?_)
            refine W_seq ?_
            refine W_seq ?_
            refine W_region ?_
            refine WL_step rfl rfl (Exec.move (v := v5) rfl p43237 ?_)
            refine WL_step rfl rfl (Exec.len_rep S47 rfl rfl (a6.mono (PHeap.le.trans (PHeap.le.trans l43073 l43235) l43276)) ?_)
            refine WL_step rfl rfl (Exec.move (v := Value.int .i64 (0)) rfl rfl ?_)
            refine WL_nil (at_normal ?_)
            obtain ⟨c47605, hB47606, hr47607, hn47608, hb47609⟩ := ctl_some hm
            refine W_mid (M := fun f' w' => ∃ s', (c47605 = .next s' ∨ c47605 = .brk s') ∧ (fun (_ : Unit) => ∃ (s47611 : PHeap) , PHeap.le s43275 s47611 ∧ St w0 s47611 (Res.arr (encInt .i64) 3 v43143 at_43142 :: H) w' ∧ f' 2 = v8 ∧ f' 7 = v43143 ∧ f' 10 = Value.pointer none ∧ f' 56 = v5 ∧ f' 57 = Value.int .i64 ((pairs4.length : Int))) s') ?_ ?_
            · refine W_block (W_forC (fun k' s' f' w' => (fun (_ : Unit) => ∃ (s47610 : PHeap) , PHeap.le s43275 s47610 ∧ St w0 s47610 (Res.arr (encInt .i64) 3 v43143 at_43142 :: H) w' ∧ f' 2 = v8 ∧ f' 7 = v43143 ∧ f' 10 = Value.pointer none ∧ f' 56 = v5 ∧ f' 57 = Value.int .i64 ((pairs4.length : Int)) ∧ f' 58 = Value.int .i64 (k' : Int)) s') hB47606 ?_ ?_ ?_)
              · exact ⟨s43275, (PHeap.le_refl _), hS43277, p43238, p43239, rfl, rfl, rfl, rfl⟩
              · intro i46406 t47619 c47613 f47614 w47615 hi47620 hI47616 hm47617 hres47618
                obtain ⟨s47621, l47622, hS47623, p47624, p47625, p47626, p47627, p47628, x47629⟩ := hI47616
                refine W_seq ?_
                refine W_region ?_
                refine WL_step rfl rfl (Exec.lss rfl x47629 p47628 ?_)
                refine WL_nil (at_normal ?_)
                refine W_seq ?_
                refine W_true (congrArg Value.bool (decide_eq_true (by omega))) ?_
                refine W_skip (at_normal ?_)
                refine W_seq ?_
                refine W_block ?_
                refine W_seq ?_
                refine W_region ?_
                refine WL_step rfl rfl (Exec.move (v := Value.int .i64 ((i46406 : Int))) rfl x47629 ?_)
                obtain ⟨x47642, q47643, hm47617⟩ := bind_some hm47617
                refine WL_step rfl rfl (Exec.index_rep S47 rfl p47627 x47629 (a6.mono (PHeap.le.trans (PHeap.le.trans (PHeap.le.trans l43073 l43235) l43276) l47622)) q47643 ?_)
                intro b47644 o47645 a47646
                refine WL_step rfl rfl (Exec.load_at (E := encArr2_uint8) hS47623 A42 rfl rfl rfl a47646 ?_)
                intro v47647 q47648
                obtain rfl := encArr2_uint8_val.1 q47648
                refine WL_step rfl rfl (Exec.alloc (cs := [Value.int .u8 (0), Value.int .u8 (0)]) hS47623 Z42 rfl rfl ?_)
                intro b47649 w47650 hS47651
                refine WL_step rfl rfl (Exec.assign (v := Value.int .i64 ((i46406 : Int))) rfl rfl ?_)
                refine WL_step rfl rfl (Exec.store_box (ds := [Value.int .u8 (x47642.a0), Value.int .u8 (x47642.a1)]) (es := [Value.int .u8 (x47642.a0), Value.int .u8 (x47642.a1)]) hS47651 A42 rfl rfl rfl rfl (one_cons rfl (one_cons rfl one_nil)) (Nat.le_of_ble_eq_true rfl) rfl ?_)
                intro w47652 hS47653
                refine WL_nil (at_normal ?_)
                refine W_seq ?_
                obtain ⟨u47795, q47796, hm47617⟩ := bind_some hm47617
                refine W_drawn (n0 := 14) hmix (by kernel_rfl) [RP.eq (Value.pointer (some ⟨b47649, 0, none⟩)), RP.eq (Value.int .u8 (x47642.a0)), RP.eq (Value.int .i64 (IntKind.i64.wrap x47642.a0)), RP.eq (v43143), RP.eq (Value.int .i64 ((at_43142.length : Int))), RP.eq (Value.int .i64 ((IntKind.i64.wrap x47642.a0).tmod (at_43142.length : Int))), RP.eq (Value.pointer (some ⟨b47649, 1, none⟩)), RP.eq (Value.int .u8 (x47642.a1)), RP.eq (Value.int .i64 (IntKind.i64.wrap x47642.a1)), RP.eq (v43143), RP.eq (Value.int .i64 ((at_43142.length : Int))), RP.eq (Value.int .i64 ((IntKind.i64.wrap x47642.a1).tmod (at_43142.length : Int))), RP.eq (Value.int .i64 ((IntKind.i64.wrap x47642.a0).tmod (at_43142.length : Int))), RP.eq (Value.int .i64 ((IntKind.i64.wrap x47642.a1).tmod (at_43142.length : Int)))] hS47653 (HeadAll.cons ?_ (HeadAll.cons ?_ (HeadAll.cons ?_ (HeadAll.cons ?_ (HeadAll.cons ?_ (HeadAll.cons ?_ (HeadAll.cons ?_ (HeadAll.cons ?_ (HeadAll.cons ?_ (HeadAll.cons ?_ (HeadAll.cons ?_ (HeadAll.cons ?_ (HeadAll.cons ?_ (HeadAll.cons ?_ (HeadAll.nil))))))))))))))) ?_
                · intro g47797 s47798 w47799 l47800 hS47801 fr47802 pre47803
                  refine head_run rfl (Exec.index_parr Try.underlying42 A5 rfl (fr47802 13 rfl) rfl (by decide) rfl ?_)
                  exact head_done hS47801 rfl
                · intro g47804 s47805 w47806 l47807 hS47808 fr47809 pre47810
                  have p47811 : g47804 63 = (Value.pointer (some ⟨b47649, 0, none⟩)) := pre47810 0 _ rfl rfl
                  refine head_run rfl (Exec.load_box (hS47808) A5 rfl p47811 rfl ?_)
                  exact head_done hS47808 rfl
                · intro g47812 s47813 w47814 l47815 hS47816 fr47817 pre47818
                  have p47819 : g47812 64 = (Value.int .u8 (x47642.a0)) := pre47818 0 _ rfl rfl
                  refine head_run rfl (Exec.convert_int (by rw [Try.underlying5]; rfl) Try.underlying3 rfl p47819 ?_)
                  exact head_done hS47816 rfl
                · intro g47820 s47821 w47822 l47823 hS47824 fr47825 pre47826
                  refine head_run rfl (Exec.move (v := v43143) rfl (Eq.trans (fr47825 7 rfl) p47625) ?_)
                  exact head_done hS47824 rfl
                · intro g47827 s47828 w47829 l47830 hS47831 fr47832 pre47833
                  have p47834 : g47827 66 = (v43143) := pre47833 0 _ rfl rfl
                  refine head_run rfl (Exec.len_arr ((hS47831).f1) S49 rfl p47834 ?_)
                  exact head_done hS47831 rfl
                · intro g47835 s47836 w47837 l47838 hS47839 fr47840 pre47841
                  have p47842 : g47835 65 = (Value.int .i64 (IntKind.i64.wrap x47642.a0)) := pre47841 0 _ rfl rfl
                  have p47843 : g47835 67 = (Value.int .i64 ((at_43142.length : Int))) := pre47841 1 _ rfl rfl
                  refine head_run rfl (Exec.rem rfl p47842 p47843 (by simpa using must_some q47796) ?_)
                  exact head_done hS47839 rfl
                · intro g47844 s47845 w47846 l47847 hS47848 fr47849 pre47850
                  refine head_run rfl (Exec.index_parr Try.underlying42 A5 rfl (fr47849 13 rfl) rfl (by decide) rfl ?_)
                  exact head_done hS47848 rfl
                · intro g47851 s47852 w47853 l47854 hS47855 fr47856 pre47857
                  have p47858 : g47851 69 = (Value.pointer (some ⟨b47649, 1, none⟩)) := pre47857 0 _ rfl rfl
                  refine head_run rfl (Exec.load_box (hS47855) A5 rfl p47858 rfl ?_)
                  exact head_done hS47855 rfl
                · intro g47859 s47860 w47861 l47862 hS47863 fr47864 pre47865
                  have p47866 : g47859 70 = (Value.int .u8 (x47642.a1)) := pre47865 0 _ rfl rfl
                  refine head_run rfl (Exec.convert_int (by rw [Try.underlying5]; rfl) Try.underlying3 rfl p47866 ?_)
                  exact head_done hS47863 rfl
                · intro g47867 s47868 w47869 l47870 hS47871 fr47872 pre47873
                  refine head_run rfl (Exec.move (v := v43143) rfl (Eq.trans (fr47872 7 rfl) p47625) ?_)
                  exact head_done hS47871 rfl
                · intro g47874 s47875 w47876 l47877 hS47878 fr47879 pre47880
                  have p47881 : g47874 72 = (v43143) := pre47880 0 _ rfl rfl
                  refine head_run rfl (Exec.len_arr ((hS47878).f1) S49 rfl p47881 ?_)
                  exact head_done hS47878 rfl
                · intro g47882 s47883 w47884 l47885 hS47886 fr47887 pre47888
                  have p47889 : g47882 73 = (Value.int .i64 ((at_43142.length : Int))) := pre47888 1 _ rfl rfl
                  have p47890 : g47882 71 = (Value.int .i64 (IntKind.i64.wrap x47642.a1)) := pre47888 0 _ rfl rfl
                  refine head_run rfl (Exec.rem rfl p47890 p47889 (by simpa using must_some q47796) ?_)
                  exact head_done hS47886 rfl
                · intro g47891 s47892 w47893 l47894 hS47895 fr47896 pre47897
                  have p47898 : g47891 68 = (Value.int .i64 ((IntKind.i64.wrap x47642.a0).tmod (at_43142.length : Int))) := pre47897 0 _ rfl rfl
                  refine head_run rfl (Exec.assign (v := Value.int .i64 ((IntKind.i64.wrap x47642.a0).tmod (at_43142.length : Int))) rfl p47898 ?_)
                  exact head_done hS47895 rfl
                · intro g47899 s47900 w47901 l47902 hS47903 fr47904 pre47905
                  have p47906 : g47899 74 = (Value.int .i64 ((IntKind.i64.wrap x47642.a1).tmod (at_43142.length : Int))) := pre47905 0 _ rfl rfl
                  refine head_run rfl (Exec.assign (v := Value.int .i64 ((IntKind.i64.wrap x47642.a1).tmod (at_43142.length : Int))) rfl p47906 ?_)
                  exact head_done hS47903 rfl
                · intro g47907 s47908 w47909 l47910 hS47911 fr47912 hR47913
                  have p47914 : g47907 63 = (Value.pointer (some ⟨b47649, 0, none⟩)) := hR47913 0 rfl
                  have p47915 : g47907 64 = (Value.int .u8 (x47642.a0)) := hR47913 1 rfl
                  have p47916 : g47907 65 = (Value.int .i64 (IntKind.i64.wrap x47642.a0)) := hR47913 2 rfl
                  have p47917 : g47907 66 = (v43143) := hR47913 3 rfl
                  have p47918 : g47907 67 = (Value.int .i64 ((at_43142.length : Int))) := hR47913 4 rfl
                  have p47919 : g47907 68 = (Value.int .i64 ((IntKind.i64.wrap x47642.a0).tmod (at_43142.length : Int))) := hR47913 5 rfl
                  have p47920 : g47907 69 = (Value.pointer (some ⟨b47649, 1, none⟩)) := hR47913 6 rfl
                  have p47921 : g47907 70 = (Value.int .u8 (x47642.a1)) := hR47913 7 rfl
                  have p47922 : g47907 71 = (Value.int .i64 (IntKind.i64.wrap x47642.a1)) := hR47913 8 rfl
                  have p47923 : g47907 72 = (v43143) := hR47913 9 rfl
                  have p47924 : g47907 73 = (Value.int .i64 ((at_43142.length : Int))) := hR47913 10 rfl
                  have p47925 : g47907 74 = (Value.int .i64 ((IntKind.i64.wrap x47642.a1).tmod (at_43142.length : Int))) := hR47913 11 rfl
                  have p47926 : g47907 14 = (Value.int .i64 ((IntKind.i64.wrap x47642.a0).tmod (at_43142.length : Int))) := hR47913 12 rfl
                  have p47927 : g47907 15 = (Value.int .i64 ((IntKind.i64.wrap x47642.a1).tmod (at_43142.length : Int))) := hR47913 13 rfl
                  refine WL_nil (at_normal ?_)
                  refine W_seq ?_
                  obtain ⟨x48058, q48059, hm47617⟩ := bind_some hm47617
                  obtain ⟨g48060, c48061, e48062⟩ := ((hS47911).f1).arr_at q48059
                  obtain ⟨x48063, q48064, hm47617⟩ := bind_some hm47617
                  obtain ⟨g48065, c48066, e48067⟩ := ((hS47911).f1).arr_at q48064
                  refine W_drawn (n0 := 10) hmix (by kernel_rfl) [RP.eq (v43143), RP.eq (Value.int .i64 ((IntKind.i64.wrap x47642.a1).tmod (at_43142.length : Int))), RP.eq (Value.pointer (some ⟨g48060, 0 + ((IntKind.i64.wrap x47642.a1).tmod (at_43142.length : Int)).toNat * 1, none⟩)), RP.eq (Value.int .i64 (x48058)), RP.eq (v43143), RP.eq (Value.int .i64 ((IntKind.i64.wrap x47642.a0).tmod (at_43142.length : Int))), RP.eq (Value.pointer (some ⟨g48065, 0 + ((IntKind.i64.wrap x47642.a0).tmod (at_43142.length : Int)).toNat * 1, none⟩)), RP.eq (Value.int .i64 (x48063)), RP.eq (Value.int .i64 (IntKind.i64.wrap (x48058 - x48063))), RP.eq (Value.int .i64 (IntKind.i64.wrap (x48058 - x48063)))] hS47911 (HeadAll.cons ?_ (HeadAll.cons ?_ (HeadAll.cons ?_ (HeadAll.cons ?_ (HeadAll.cons ?_ (HeadAll.cons ?_ (HeadAll.cons ?_ (HeadAll.cons ?_ (HeadAll.cons ?_ (HeadAll.cons ?_ (HeadAll.nil))))))))))) ?_
                  · intro g48068 s48069 w48070 l48071 hS48072 fr48073 pre48074
                    refine head_run rfl (Exec.move (v := v43143) rfl (Eq.trans (fr48073 7 rfl) (Eq.trans (fr47912 7 rfl) p47625)) ?_)
                    exact head_done hS48072 rfl
                  · intro g48075 s48076 w48077 l48078 hS48079 fr48080 pre48081
                    refine head_run rfl (Exec.move (v := Value.int .i64 ((IntKind.i64.wrap x47642.a1).tmod (at_43142.length : Int))) rfl (Eq.trans (fr48080 15 rfl) p47927) ?_)
                    exact head_done hS48079 rfl
                  · intro g48082 s48083 w48084 l48085 hS48086 fr48087 pre48088
                    have p48089 : g48082 75 = (v43143) := pre48088 0 _ rfl rfl
                    have p48090 : g48082 76 = (Value.int .i64 ((IntKind.i64.wrap x47642.a1).tmod (at_43142.length : Int))) := pre48088 1 _ rfl rfl
                    refine head_run rfl (Exec.index_slice S49 rfl (Eq.trans p48089 e48062) p48090 (idx_some q48059).1 (idx_some q48059).2.1 ?_)
                    exact head_done hS48086 rfl
                  · intro g48091 s48092 w48093 l48094 hS48095 fr48096 pre48097
                    have p48098 : g48091 77 = (Value.pointer (some ⟨g48060, 0 + ((IntKind.i64.wrap x47642.a1).tmod (at_43142.length : Int)).toNat * 1, none⟩)) := pre48097 0 _ rfl rfl
                    refine head_run rfl (Exec.load_arr (F := (encInt .i64)) ((hS48095).f1) e48062 A3 rfl p48098 rfl q48059 (Sub.refl _) ?_)
                    intro v48099 q48100
                    exact head_done hS48095 (encInt_val.1 q48100)
                  · intro g48101 s48102 w48103 l48104 hS48105 fr48106 pre48107
                    refine head_run rfl (Exec.move (v := v43143) rfl (Eq.trans (fr48106 7 rfl) (Eq.trans (fr47912 7 rfl) p47625)) ?_)
                    exact head_done hS48105 rfl
                  · intro g48108 s48109 w48110 l48111 hS48112 fr48113 pre48114
                    refine head_run rfl (Exec.move (v := Value.int .i64 ((IntKind.i64.wrap x47642.a0).tmod (at_43142.length : Int))) rfl (Eq.trans (fr48113 14 rfl) p47926) ?_)
                    exact head_done hS48112 rfl
                  · intro g48115 s48116 w48117 l48118 hS48119 fr48120 pre48121
                    have p48122 : g48115 80 = (Value.int .i64 ((IntKind.i64.wrap x47642.a0).tmod (at_43142.length : Int))) := pre48121 1 _ rfl rfl
                    have p48123 : g48115 79 = (v43143) := pre48121 0 _ rfl rfl
                    refine head_run rfl (Exec.index_slice S49 rfl (Eq.trans p48123 e48067) p48122 (idx_some q48064).1 (idx_some q48064).2.1 ?_)
                    exact head_done hS48119 rfl
                  · intro g48124 s48125 w48126 l48127 hS48128 fr48129 pre48130
                    have p48131 : g48124 81 = (Value.pointer (some ⟨g48065, 0 + ((IntKind.i64.wrap x47642.a0).tmod (at_43142.length : Int)).toNat * 1, none⟩)) := pre48130 0 _ rfl rfl
                    refine head_run rfl (Exec.load_arr (F := (encInt .i64)) ((hS48128).f1) e48067 A3 rfl p48131 rfl q48064 (Sub.refl _) ?_)
                    intro v48132 q48133
                    exact head_done hS48128 (encInt_val.1 q48133)
                  · intro g48134 s48135 w48136 l48137 hS48138 fr48139 pre48140
                    have p48141 : g48134 82 = (Value.int .i64 (x48063)) := pre48140 1 _ rfl rfl
                    have p48142 : g48134 78 = (Value.int .i64 (x48058)) := pre48140 0 _ rfl rfl
                    refine head_run rfl (Exec.sub rfl p48142 p48141 ?_)
                    exact head_done hS48138 rfl
                  · intro g48143 s48144 w48145 l48146 hS48147 fr48148 pre48149
                    have p48150 : g48143 83 = (Value.int .i64 (IntKind.i64.wrap (x48058 - x48063))) := pre48149 0 _ rfl rfl
                    refine head_run rfl (Exec.assign (v := Value.int .i64 (IntKind.i64.wrap (x48058 - x48063))) rfl p48150 ?_)
                    exact head_done hS48147 rfl
                  · intro g48151 s48152 w48153 l48154 hS48155 fr48156 hR48157
                    have p48158 : g48151 75 = (v43143) := hR48157 0 rfl
                    have p48159 : g48151 76 = (Value.int .i64 ((IntKind.i64.wrap x47642.a1).tmod (at_43142.length : Int))) := hR48157 1 rfl
                    have p48160 : g48151 77 = (Value.pointer (some ⟨g48060, 0 + ((IntKind.i64.wrap x47642.a1).tmod (at_43142.length : Int)).toNat * 1, none⟩)) := hR48157 2 rfl
                    have p48161 : g48151 78 = (Value.int .i64 (x48058)) := hR48157 3 rfl
                    have p48162 : g48151 79 = (v43143) := hR48157 4 rfl
                    have p48163 : g48151 80 = (Value.int .i64 ((IntKind.i64.wrap x47642.a0).tmod (at_43142.length : Int))) := hR48157 5 rfl
                    have p48164 : g48151 81 = (Value.pointer (some ⟨g48065, 0 + ((IntKind.i64.wrap x47642.a0).tmod (at_43142.length : Int)).toNat * 1, none⟩)) := hR48157 6 rfl
                    have p48165 : g48151 82 = (Value.int .i64 (x48063)) := hR48157 7 rfl
                    have p48166 : g48151 83 = (Value.int .i64 (IntKind.i64.wrap (x48058 - x48063))) := hR48157 8 rfl
                    have p48167 : g48151 16 = (Value.int .i64 (IntKind.i64.wrap (x48058 - x48063))) := hR48157 9 rfl
                    refine WL_nil (at_normal ?_)
                    refine W_seq ?_
                    refine W_seq ?_
                    refine W_region ?_
                    refine WL_step rfl rfl (Exec.move (v := Value.int .i64 ((i46406 : Int))) rfl (Eq.trans (fr48156 12 rfl) (fr47912 12 rfl)) ?_)
                    refine WL_step rfl rfl (Exec.move (v := v8) rfl (Eq.trans (fr48156 2 rfl) (Eq.trans (fr47912 2 rfl) p47624)) ?_)
                    refine WL_step rfl rfl (Exec.len_rep S48 rfl rfl (a9.mono (PHeap.le.trans (PHeap.le.trans (PHeap.le.trans (PHeap.le.trans (PHeap.le.trans l43073 l43235) l43276) l47622) l47910) l48154)) ?_)
                    refine WL_step rfl rfl (Exec.lss rfl rfl rfl ?_)
                    refine WL_nil (at_normal ?_)
                    obtain ⟨most48182, ht48183, hm47617⟩ := bind_some hm47617
                    refine W_mid (M := fun f' w' => (fun (most48182 : Int) => ∃ (s48184 : PHeap) , PHeap.le s48152 s48184 ∧ St w0 s48184 (Res.arr (encInt .i64) 3 v43143 at_43142 :: H) w' ∧ f' 2 = v8 ∧ f' 7 = v43143 ∧ f' 10 = Value.pointer none ∧ f' 14 = Value.int .i64 ((IntKind.i64.wrap x47642.a0).tmod (at_43142.length : Int)) ∧ f' 15 = Value.int .i64 ((IntKind.i64.wrap x47642.a1).tmod (at_43142.length : Int)) ∧ f' 16 = Value.int .i64 (most48182) ∧ f' 56 = v5 ∧ f' 57 = Value.int .i64 ((pairs4.length : Int)) ∧ f' 58 = Value.int .i64 ((i46406 : Int))) most48182) ?_ ?_
                    · rcases ite_some ht48183 with ⟨hc48185, ht48183⟩ | ⟨hc48185, ht48183⟩
                      · refine W_cond_t rfl hc48185 ?_
                        refine W_region ?_
                        refine WL_step rfl rfl (Exec.move (v := Value.int .i64 (IntKind.i64.wrap (x48058 - x48063))) rfl p48167 ?_)
                        refine WL_step rfl rfl (Exec.move (v := v8) rfl (Eq.trans (fr48156 2 rfl) (Eq.trans (fr47912 2 rfl) p47624)) ?_)
                        refine WL_step rfl rfl (Exec.move (v := Value.int .i64 ((i46406 : Int))) rfl (Eq.trans (fr48156 12 rfl) (fr47912 12 rfl)) ?_)
                        obtain ⟨x48193, q48194, ht48183⟩ := bind_some ht48183
                        refine WL_step rfl rfl (Exec.index_rep S48 rfl rfl rfl (a9.mono (PHeap.le.trans (PHeap.le.trans (PHeap.le.trans (PHeap.le.trans (PHeap.le.trans l43073 l43235) l43276) l47622) l47910) l48154)) q48194 ?_)
                        intro b48195 o48196 a48197
                        refine WL_step rfl rfl (Exec.load_at (E := (encInt .u8)) hS48155 A5 rfl rfl rfl a48197 ?_)
                        intro v48198 q48199
                        obtain rfl := encInt_val.1 q48199
                        refine WL_step rfl rfl (Exec.convert_int (by rw [Try.underlying5]; rfl) Try.underlying3 rfl rfl ?_)
                        refine WL_step rfl rfl (Exec.add rfl rfl rfl ?_)
                        refine WL_step rfl rfl (Exec.assign (v := Value.int .i64 (IntKind.i64.wrap ((IntKind.i64.wrap (x48058 - x48063)) + (IntKind.i64.wrap x48193)))) rfl rfl ?_)
                        refine WL_nil (at_normal ?_)
                        have e48200 := Option.some.inj ht48183
                        subst most48182
                        have hS48201 := (hS48155).drop
                        exact ⟨s48152, (PHeap.le_refl _), hS48201, (Eq.trans (fr48156 2 rfl) (Eq.trans (fr47912 2 rfl) p47624)), (Eq.trans (fr48156 7 rfl) (Eq.trans (fr47912 7 rfl) p47625)), (Eq.trans (fr48156 10 rfl) (Eq.trans (fr47912 10 rfl) p47626)), (Eq.trans (fr48156 14 rfl) p47926), (Eq.trans (fr48156 15 rfl) p47927), rfl, (Eq.trans (fr48156 56 rfl) (Eq.trans (fr47912 56 rfl) p47627)), (Eq.trans (fr48156 57 rfl) (Eq.trans (fr47912 57 rfl) p47628)), (Eq.trans (fr48156 58 rfl) (Eq.trans (fr47912 58 rfl) x47629))⟩
                      · refine W_cond_f rfl hc48185 ?_
                        replace hc48185 := not_true hc48185
                        refine W_skip (at_normal ?_)
                        have e48202 := Option.some.inj ht48183
                        subst most48182
                        have hS48203 := (hS48155).drop
                        exact ⟨s48152, (PHeap.le_refl _), hS48203, (Eq.trans (fr48156 2 rfl) (Eq.trans (fr47912 2 rfl) p47624)), (Eq.trans (fr48156 7 rfl) (Eq.trans (fr47912 7 rfl) p47625)), (Eq.trans (fr48156 10 rfl) (Eq.trans (fr47912 10 rfl) p47626)), (Eq.trans (fr48156 14 rfl) p47926), (Eq.trans (fr48156 15 rfl) p47927), p48167, (Eq.trans (fr48156 56 rfl) (Eq.trans (fr47912 56 rfl) p47627)), (Eq.trans (fr48156 57 rfl) (Eq.trans (fr47912 57 rfl) p47628)), (Eq.trans (fr48156 58 rfl) (Eq.trans (fr47912 58 rfl) x47629))⟩
                    · intro f48204 w48205 hM48206
                      obtain ⟨s48207, l48208, hS48209, p48210, p48211, p48212, p48213, p48214, p48215, p48216, p48217, p48218⟩ := hM48206
                      refine (at_normal ?_)
                      refine W_seq ?_
                      refine W_region ?_
                      refine WL_step rfl rfl (Exec.move (v := Value.pointer none) rfl p48212 ?_)
                      refine WL_step rfl rfl (Exec.move (v := Value.int .i64 ((IntKind.i64.wrap x47642.a0).tmod (at_43142.length : Int))) rfl p48213 ?_)
                      refine WL_step rfl rfl (Exec.move (v := Value.int .i64 ((IntKind.i64.wrap x47642.a1).tmod (at_43142.length : Int))) rfl p48214 ?_)
                      refine WL_step rfl rfl (Exec.move (v := Value.int .i64 (most48182)) rfl p48215 ?_)
                      refine WL_step rfl rfl (Exec.build rfl (parts_cons (c := [Value.int .i64 ((IntKind.i64.wrap x47642.a0).tmod (at_43142.length : Int))]) (cells_of rfl rfl) (parts_cons (c := [Value.int .i64 ((IntKind.i64.wrap x47642.a1).tmod (at_43142.length : Int))]) (cells_of rfl rfl) (parts_cons (c := [Value.int .i64 (most48182)]) (cells_of rfl rfl) parts_nil))) (v := Value.agg #[Value.int .i64 ((IntKind.i64.wrap x47642.a0).tmod (at_43142.length : Int)), Value.int .i64 ((IntKind.i64.wrap x47642.a1).tmod (at_43142.length : Int)), Value.int .i64 (most48182)]) (fun _ => by kernel_rfl) ?_)
                      refine WL_step rfl rfl (Exec.call rfl rfl Try.func14 rfl N14 (args_cons rfl (args_cons rfl args_nil)) ((stn_Network_Add_nil_sim (stn_Network_Add_nil_tot (⟨(IntKind.i64.wrap x47642.a0).tmod (at_43142.length : Int), (IntKind.i64.wrap x47642.a1).tmod (at_43142.length : Int), most48182⟩ : Bound)) hS48209 ).mono ?_))
                      rintro _ w48223 ⟨_, rfl, ⟨s48224, l48225, hS48226, rfl⟩⟩
                      refine ⟨_, rfl, ?_⟩
                      refine WL_step rfl rfl (Exec.err_neq_nil (T := 30) Try.underlying26 rfl rfl rfl ?_)
                      refine WL_nil (at_normal ?_)
                      rcases ite_some hm47617 with ⟨hc48227, hm47617⟩ | ⟨hc48227, hm47617⟩
                      · refine W_cond_t rfl hc48227 ?_
                        refine W_seq ?_
                        refine W_region ?_
                        refine WL_step rfl rfl (Exec.assign (v := Value.bool (false)) rfl rfl ?_)
                        refine WL_nil (at_normal ?_)
                        refine W_ret (ib_ret (at_ret (at_ret (ib_ret (at_ret (at_ret ?_))))))
                        have e48228 := Option.some.inj hm47617
                        subst c47613
                        have hq48229 := hr47607 _ (hres47618 (by intro _ h; cases h))
                        have e48230 := Option.some.inj hq48229
                        subst r
                        refine ⟨_, ret1 rfl, ?_⟩
                        have hS48231 := (hS48226).drop
                        exact ⟨s48224, (PHeap.le.trans (PHeap.le.trans (PHeap.le.trans (PHeap.le.trans (PHeap.le.trans (PHeap.le.trans (PHeap.le.trans l43073 l43235) l43276) l47622) l47910) l48154) l48208) l48225), hS48231, rfl⟩
                      · refine W_cond_f rfl hc48227 ?_
                        replace hc48227 := not_true hc48227
                        refine W_skip (ib_normal (at_normal ?_))
                        refine W_region ?_
                        refine WL_step rfl rfl (Exec.add rfl p48218 rfl ?_)
                        refine WL_step rfl rfl (Exec.move (v := Value.int .i64 (IntKind.i64.wrap ((i46406 : Int) + 1))) rfl rfl ?_)
                        refine WL_nil (at_normal ?_)
                        have e48232 := Option.some.inj hm47617
                        subst c47613
                        refine ⟨_, rfl, ?_⟩; exact ⟨s48224, (PHeap.le.trans (PHeap.le.trans (PHeap.le.trans (PHeap.le.trans l47622 l47910) l48154) l48208) l48225), hS48226, p48210, p48211, p48212, p48216, p48217, (Eq.trans rfl (wrap_up hi47620 (SliceRep.le (a6.mono (PHeap.le.trans (PHeap.le.trans l43073 l43235) l43276)))))⟩
              · intro t48233 f48234 w48235 hI48236 hres48237
                obtain ⟨s48238, l48239, hS48240, p48241, p48242, p48243, p48244, p48245, x48246⟩ := hI48236
                refine W_seq ?_
                refine W_region ?_
                refine WL_step rfl rfl (Exec.lss rfl x48246 p48245 ?_)
                refine WL_nil (at_normal ?_)
                refine W_seq ?_
                refine W_false (congrArg Value.bool (decide_eq_false (by omega))) ?_
                refine W_exit (at_exit (at_exit (ib_here (at_normal ?_))))
                refine ⟨_, .inl hres48237, ?_⟩; exact ⟨s48238, l48239, hS48240, p48241, p48242, p48243, p48244, p48245⟩
            · rintro f48247 w48248 ⟨t48249, hc48250, hM48251⟩
              have hm := hc48250.elim (hn47608 _) (hb47609 _)
              clear hc48250
              obtain ⟨s48252, l48253, hS48254, p48255, p48256, p48257, p48258, p48259⟩ := hM48251
              refine (at_normal ?_)
              refine W_seq ?_
              refine W_seq ?_
              refine W_region ?_
              refine WL_step rfl rfl (Exec.move (v := Value.pointer none) rfl p48257 ?_)
              refine WL_step rfl rfl (Exec.move (v := v43143) rfl p48256 ?_)
              refine WL_step rfl rfl (Exec.call rfl rfl Try.func20 rfl N20 (args_cons rfl (args_cons rfl args_nil)) ((stn_Network_Holds_nil_o_sim (stn_Network_Holds_nil_o_tot at_43142) hS48254 ).mono ?_))
              rintro _ w48264 ⟨_, rfl, ⟨s48265, l48266, hS48267, rfl⟩⟩
              refine ⟨_, rfl, ?_⟩
              refine WL_step rfl rfl (Exec.not rfl rfl ?_)
              refine WL_nil (at_normal ?_)
              rcases ite_some hm with ⟨hc48268, hm⟩ | ⟨hc48268, hm⟩
              · refine W_cond_t rfl hc48268 ?_
                refine W_seq ?_
                refine W_region ?_
                refine WL_step rfl rfl (Exec.assign (v := Value.bool (false)) rfl rfl ?_)
                refine WL_nil (at_normal ?_)
                refine W_ret (at_ret ?_)
                have e48270 := Option.some.inj hm
                subst r
                refine ⟨_, ret1 rfl, ?_⟩
                have hS48271 := (hS48267).drop
                exact ⟨s48265, (PHeap.le.trans (PHeap.le.trans (PHeap.le.trans (PHeap.le.trans l43073 l43235) l43276) l48253) l48266), hS48271, rfl⟩
              · refine W_cond_f rfl hc48268 ?_
                replace hc48268 := not_true hc48268
                refine W_skip (at_normal ?_)
                refine W_seq ?_
                refine W_seq ?_
                refine W_region ?_
                refine WL_step rfl rfl (Exec.move (v := v43143) rfl p48256 ?_)
                refine WL_step rfl rfl (Exec.len_arr (hS48267) S49 rfl rfl ?_)
                refine WL_step rfl rfl (Exec.move (v := Value.int .i64 (0)) rfl rfl ?_)
                refine WL_nil (at_normal ?_)
                obtain ⟨c48487, hB48488, hr48489, hn48490, hb48491⟩ := ctl_some hm
                refine W_mid (M := fun f' w' => ∃ s', (c48487 = .next s' ∨ c48487 = .brk s') ∧ (fun (_ : Unit) => ∃ (s48493 : PHeap) , PHeap.le s48265 s48493 ∧ St w0 s48493 (Res.arr (encInt .i64) 3 v43143 at_43142 :: H) w' ∧ f' 10 = Value.pointer none ∧ f' 107 = v43143 ∧ f' 108 = Value.int .i64 ((at_43142.length : Int))) s') ?_ ?_
                · refine W_block (W_forC (fun k' s' f' w' => (fun (_ : Unit) => ∃ (s48492 : PHeap) , PHeap.le s48265 s48492 ∧ St w0 s48492 (Res.arr (encInt .i64) 3 v43143 at_43142 :: H) w' ∧ f' 10 = Value.pointer none ∧ f' 107 = v43143 ∧ f' 108 = Value.int .i64 ((at_43142.length : Int)) ∧ f' 109 = Value.int .i64 (k' : Int)) s') hB48488 ?_ ?_ ?_)
                  · exact ⟨s48265, (PHeap.le_refl _), hS48267, p48257, rfl, rfl, rfl⟩
                  · intro i48272 t48501 c48495 f48496 w48497 hi48502 hI48498 hm48499 hres48500
                    obtain ⟨s48503, l48504, hS48505, p48506, p48507, p48508, x48509⟩ := hI48498
                    refine W_seq ?_
                    refine W_region ?_
                    refine WL_step rfl rfl (Exec.lss rfl x48509 p48508 ?_)
                    refine WL_nil (at_normal ?_)
                    refine W_seq ?_
                    refine W_true (congrArg Value.bool (decide_eq_true (by omega))) ?_
                    refine W_skip (at_normal ?_)
                    refine W_seq ?_
                    refine W_block ?_
                    refine W_seq ?_
                    refine W_region ?_
                    refine WL_step rfl rfl (Exec.move (v := Value.int .i64 ((i48272 : Int))) rfl x48509 ?_)
                    obtain ⟨x48517, q48518, hm48499⟩ := bind_some hm48499
                    obtain ⟨g48519, c48520, e48521⟩ := (hS48505).arr_at q48518
                    refine WL_step rfl rfl (Exec.index_slice S49 rfl (Eq.trans p48507 e48521) x48509 (idx_some q48518).1 (idx_some q48518).2.1 ?_)
                    refine WL_step rfl rfl (Exec.load_arr (F := (encInt .i64)) (hS48505) e48521 A3 rfl rfl rfl q48518 (Sub.refl _) ?_)
                    intro v48522 q48523
                    obtain rfl := encInt_val.1 q48523
                    refine WL_step rfl rfl (Exec.assign (v := Value.int .i64 ((i48272 : Int))) rfl rfl ?_)
                    refine WL_step rfl rfl (Exec.assign (v := Value.int .i64 (x48517)) rfl rfl ?_)
                    refine WL_nil (at_normal ?_)
                    refine W_seq ?_
                    refine W_region ?_
                    refine WL_step rfl rfl (Exec.move (v := Value.pointer none) rfl p48506 ?_)
                    refine WL_step rfl rfl (Exec.move (v := Value.int .i64 ((i48272 : Int))) rfl rfl ?_)
                    refine WL_step rfl rfl (Exec.call rfl rfl Try.func16 rfl N16 (args_cons rfl (args_cons rfl args_nil)) ((stn_Network_Earliest_nil_sim (stn_Network_Earliest_nil_tot (i48272 : Int)) hS48505 ).mono ?_))
                    rintro _ w48528 ⟨_, rfl, ⟨s48529, l48530, hS48531, rfl⟩⟩
                    refine ⟨_, rfl, ?_⟩
                    refine WL_step rfl rfl (Exec.move (v := Value.tuple #[Value.int .i64 ((stn_Network_Earliest_nil_t (i48272 : Int)).1), errV 30 ((stn_Network_Earliest_nil_t (i48272 : Int)).2)]) rfl rfl ?_)
                    refine WL_step rfl rfl (Exec.extract (v := Value.int .i64 ((stn_Network_Earliest_nil_t (i48272 : Int)).1)) rfl rfl rfl ?_)
                    refine WL_step rfl rfl (Exec.extract (v := errV 30 ((stn_Network_Earliest_nil_t (i48272 : Int)).2)) rfl rfl rfl ?_)
                    refine WL_step rfl rfl (Exec.assign (v := Value.int .i64 ((stn_Network_Earliest_nil_t (i48272 : Int)).1)) rfl rfl ?_)
                    refine WL_step rfl rfl (Exec.assign (v := errV 30 ((stn_Network_Earliest_nil_t (i48272 : Int)).2)) rfl rfl ?_)
                    refine WL_nil (at_normal ?_)
                    refine W_seq ?_
                    refine W_seq ?_
                    refine W_mid (M := fun f' w' => ∃ (s48544 : PHeap) , PHeap.le s48529 s48544 ∧ St w0 s48544 (Res.arr (encInt .i64) 3 v43143 at_43142 :: H) w' ∧ f' 10 = Value.pointer none ∧ f' 17 = Value.int .i64 ((i48272 : Int)) ∧ f' 18 = Value.int .i64 (x48517) ∧ f' 107 = v43143 ∧ f' 108 = Value.int .i64 ((at_43142.length : Int)) ∧ f' 109 = Value.int .i64 ((i48272 : Int)) ∧ f' 135 = Value.bool ((bif (((stn_Network_Earliest_nil_t (i48272 : Int)).2).isNone) then ((decide (x48517 < ((stn_Network_Earliest_nil_t (i48272 : Int)).1))) || ((((stn_Network_Earliest_nil_t (i48272 : Int)).2).isSome) && !(base_Is_t ((stn_Network_Earliest_nil_t (i48272 : Int)).2) 3))) else ((((stn_Network_Earliest_nil_t (i48272 : Int)).2).isSome) && !(base_Is_t ((stn_Network_Earliest_nil_t (i48272 : Int)).2) 3))))) ?_ ?_
                    · refine W_region ?_
                      refine WL_step rfl rfl (Exec.move (v := errV 30 ((stn_Network_Earliest_nil_t (i48272 : Int)).2)) rfl rfl ?_)
                      refine WL_step rfl rfl (Exec.err_eql_nil (T := 30) Try.underlying26 rfl rfl rfl ?_)
                      refine WL_step rfl rfl (Exec.move (v := Value.bool (((stn_Network_Earliest_nil_t (i48272 : Int)).2).isNone)) rfl rfl ?_)
                      by_cases hc48545 : (((stn_Network_Earliest_nil_t (i48272 : Int)).2).isNone) = true
                      · refine WL_run rfl (yield_of rfl (congrArg Value.bool hc48545)) rfl (Exec.move (v := Value.int .i64 (x48517)) rfl rfl ?_)
                        refine WL_run rfl (yield_of rfl (congrArg Value.bool hc48545)) rfl (Exec.move (v := Value.int .i64 ((stn_Network_Earliest_nil_t (i48272 : Int)).1)) rfl rfl ?_)
                        refine WL_run rfl (yield_of rfl (congrArg Value.bool hc48545)) rfl (Exec.lss rfl rfl rfl ?_)
                        refine WL_step rfl rfl (Exec.pick_t (v := Value.bool (decide (x48517 < ((stn_Network_Earliest_nil_t (i48272 : Int)).1)))) rfl (congrArg Value.bool hc48545) rfl ?_)
                        refine WL_step rfl rfl (Exec.move (v := Value.bool (decide (x48517 < ((stn_Network_Earliest_nil_t (i48272 : Int)).1)))) rfl rfl ?_)
                        by_cases hc48546 : (decide (x48517 < ((stn_Network_Earliest_nil_t (i48272 : Int)).1))) = true
                        · refine WL_pass rfl (yield_of rfl (congrArg Value.bool hc48546)) rfl rfl ?_
                          refine WL_pass rfl (yield_of rfl (congrArg Value.bool hc48546)) rfl rfl ?_
                          refine WL_pass rfl (yield_of rfl (congrArg Value.bool hc48546)) rfl rfl ?_
                          refine WL_pass_none rfl (yield_undef rfl rfl) rfl ?_
                          refine WL_pass_none rfl (yield_undef rfl rfl) rfl ?_
                          refine WL_pass_none rfl (yield_undef rfl rfl) rfl ?_
                          refine WL_pass rfl (yield_of rfl (congrArg Value.bool hc48546)) rfl rfl ?_
                          refine WL_step rfl rfl (Exec.pick_t (v := Value.bool (true)) rfl (congrArg Value.bool hc48546) rfl ?_)
                          refine WL_nil (at_normal ?_)
                          exact ⟨s48529, (PHeap.le_refl _), hS48531, p48506, rfl, rfl, p48507, p48508, x48509, (congrArg Value.bool (Eq.trans (cnd_t hc48545) (or_t hc48546))).symm⟩
                        · replace hc48546 := not_true hc48546
                          refine WL_run rfl (yield_of rfl (congrArg Value.bool hc48546)) rfl (Exec.move (v := errV 30 ((stn_Network_Earliest_nil_t (i48272 : Int)).2)) rfl rfl ?_)
                          refine WL_run rfl (yield_of rfl (congrArg Value.bool hc48546)) rfl (Exec.err_neq_nil (T := 30) Try.underlying26 rfl rfl rfl ?_)
                          refine WL_run rfl (yield_of rfl (congrArg Value.bool hc48546)) rfl (Exec.move (v := Value.bool (((stn_Network_Earliest_nil_t (i48272 : Int)).2).isSome)) rfl rfl ?_)
                          by_cases hc48547 : (((stn_Network_Earliest_nil_t (i48272 : Int)).2).isSome) = true
                          · refine WL_run rfl (yield_of rfl (congrArg Value.bool hc48547)) rfl (Exec.move (v := errV 30 ((stn_Network_Earliest_nil_t (i48272 : Int)).2)) rfl rfl ?_)
                            refine WL_run rfl (yield_of rfl (congrArg Value.bool hc48547)) rfl (Exec.call rfl rfl Try.func11 rfl N11 (args_cons rfl (args_cons rfl args_nil)) ((base_Is_sim (base_Is_tot ((stn_Network_Earliest_nil_t (i48272 : Int)).2) 3) hS48531 ).mono ?_))
                            rintro _ w48548 ⟨_, rfl, ⟨s48549, l48550, hS48551, rfl⟩⟩
                            refine ⟨_, rfl, ?_⟩
                            refine WL_run rfl (yield_of rfl (congrArg Value.bool hc48547)) rfl (Exec.not rfl rfl ?_)
                            refine WL_run rfl (yield_of rfl (congrArg Value.bool hc48546)) rfl (Exec.pick_t (v := Value.bool (!(base_Is_t ((stn_Network_Earliest_nil_t (i48272 : Int)).2) 3))) rfl (congrArg Value.bool hc48547) rfl ?_)
                            refine WL_step rfl rfl (Exec.pick_f (v := Value.bool (!(base_Is_t ((stn_Network_Earliest_nil_t (i48272 : Int)).2) 3))) rfl (congrArg Value.bool hc48546) rfl ?_)
                            refine WL_nil (at_normal ?_)
                            exact ⟨s48549, l48550, hS48551, p48506, rfl, rfl, p48507, p48508, x48509, (congrArg Value.bool (Eq.trans (cnd_t hc48545) (Eq.trans (or_f hc48546) (and_t hc48547)))).symm⟩
                          · replace hc48547 := not_true hc48547
                            refine WL_pass rfl (yield_of rfl (congrArg Value.bool hc48547)) rfl rfl ?_
                            refine WL_pass rfl (yield_of rfl (congrArg Value.bool hc48547)) rfl rfl ?_
                            refine WL_pass rfl (yield_of rfl (congrArg Value.bool hc48547)) rfl rfl ?_
                            refine WL_run rfl (yield_of rfl (congrArg Value.bool hc48546)) rfl (Exec.pick_f (v := Value.bool (false)) rfl (congrArg Value.bool hc48547) rfl ?_)
                            refine WL_step rfl rfl (Exec.pick_f (v := Value.bool (false)) rfl (congrArg Value.bool hc48546) rfl ?_)
                            refine WL_nil (at_normal ?_)
                            exact ⟨s48529, (PHeap.le_refl _), hS48531, p48506, rfl, rfl, p48507, p48508, x48509, (congrArg Value.bool (Eq.trans (cnd_t hc48545) (Eq.trans (or_f hc48546) (and_f hc48547)))).symm⟩
                      · replace hc48545 := not_true hc48545
                        refine WL_pass rfl (yield_of rfl (congrArg Value.bool hc48545)) rfl rfl ?_
                        refine WL_pass rfl (yield_of rfl (congrArg Value.bool hc48545)) rfl rfl ?_
                        refine WL_pass rfl (yield_of rfl (congrArg Value.bool hc48545)) rfl rfl ?_
                        refine WL_step rfl rfl (Exec.pick_f (v := Value.bool (false)) rfl (congrArg Value.bool hc48545) rfl ?_)
                        refine WL_step rfl rfl (Exec.move (v := Value.bool (false)) rfl rfl ?_)
                        refine WL_run rfl (yield_of rfl rfl) rfl (Exec.move (v := errV 30 ((stn_Network_Earliest_nil_t (i48272 : Int)).2)) rfl rfl ?_)
                        refine WL_run rfl (yield_of rfl rfl) rfl (Exec.err_neq_nil (T := 30) Try.underlying26 rfl rfl rfl ?_)
                        refine WL_run rfl (yield_of rfl rfl) rfl (Exec.move (v := Value.bool (((stn_Network_Earliest_nil_t (i48272 : Int)).2).isSome)) rfl rfl ?_)
                        by_cases hc48552 : (((stn_Network_Earliest_nil_t (i48272 : Int)).2).isSome) = true
                        · refine WL_run rfl (yield_of rfl (congrArg Value.bool hc48552)) rfl (Exec.move (v := errV 30 ((stn_Network_Earliest_nil_t (i48272 : Int)).2)) rfl rfl ?_)
                          refine WL_run rfl (yield_of rfl (congrArg Value.bool hc48552)) rfl (Exec.call rfl rfl Try.func11 rfl N11 (args_cons rfl (args_cons rfl args_nil)) ((base_Is_sim (base_Is_tot ((stn_Network_Earliest_nil_t (i48272 : Int)).2) 3) hS48531 ).mono ?_))
                          rintro _ w48553 ⟨_, rfl, ⟨s48554, l48555, hS48556, rfl⟩⟩
                          refine ⟨_, rfl, ?_⟩
                          refine WL_run rfl (yield_of rfl (congrArg Value.bool hc48552)) rfl (Exec.not rfl rfl ?_)
                          refine WL_run rfl (yield_of rfl rfl) rfl (Exec.pick_t (v := Value.bool (!(base_Is_t ((stn_Network_Earliest_nil_t (i48272 : Int)).2) 3))) rfl (congrArg Value.bool hc48552) rfl ?_)
                          refine WL_step rfl rfl (Exec.pick_f (v := Value.bool (!(base_Is_t ((stn_Network_Earliest_nil_t (i48272 : Int)).2) 3))) rfl rfl rfl ?_)
                          refine WL_nil (at_normal ?_)
                          exact ⟨s48554, l48555, hS48556, p48506, rfl, rfl, p48507, p48508, x48509, (congrArg Value.bool (Eq.trans (cnd_f hc48545) (and_t hc48552))).symm⟩
                        · replace hc48552 := not_true hc48552
                          refine WL_pass rfl (yield_of rfl (congrArg Value.bool hc48552)) rfl rfl ?_
                          refine WL_pass rfl (yield_of rfl (congrArg Value.bool hc48552)) rfl rfl ?_
                          refine WL_pass rfl (yield_of rfl (congrArg Value.bool hc48552)) rfl rfl ?_
                          refine WL_run rfl (yield_of rfl rfl) rfl (Exec.pick_f (v := Value.bool (false)) rfl (congrArg Value.bool hc48552) rfl ?_)
                          refine WL_step rfl rfl (Exec.pick_f (v := Value.bool (false)) rfl rfl rfl ?_)
                          refine WL_nil (at_normal ?_)
                          exact ⟨s48529, (PHeap.le_refl _), hS48531, p48506, rfl, rfl, p48507, p48508, x48509, (congrArg Value.bool (Eq.trans (cnd_f hc48545) (and_f hc48552))).symm⟩
                    · intro f48557 w48558 hM48559
                      obtain ⟨s48560, l48561, hS48562, p48563, p48564, p48565, p48566, p48567, p48568, p48569⟩ := hM48559
                      refine (at_normal ?_)
                      rcases ite_some hm48499 with ⟨hc48570, hm48499⟩ | ⟨hc48570, hm48499⟩
                      · refine W_cond_t p48569 hc48570 ?_
                        refine W_seq ?_
                        refine W_region ?_
                        refine WL_step rfl rfl (Exec.assign (v := Value.bool (false)) rfl rfl ?_)
                        refine WL_nil (at_normal ?_)
                        refine W_ret (at_ret (ib_ret (at_ret (at_ret (ib_ret (at_ret (at_ret ?_)))))))
                        have e48571 := Option.some.inj hm48499
                        subst c48495
                        have hq48572 := hr48489 _ (hres48500 (by intro _ h; cases h))
                        have e48573 := Option.some.inj hq48572
                        subst r
                        refine ⟨_, ret1 rfl, ?_⟩
                        have hS48574 := (hS48562).drop
                        exact ⟨s48560, (PHeap.le.trans (PHeap.le.trans (PHeap.le.trans (PHeap.le.trans (PHeap.le.trans (PHeap.le.trans (PHeap.le.trans l43073 l43235) l43276) l48253) l48266) l48504) l48530) l48561), hS48574, rfl⟩
                      · refine W_cond_f p48569 hc48570 ?_
                        replace hc48570 := not_true hc48570
                        refine W_skip (at_normal ?_)
                        refine W_seq ?_
                        refine W_region ?_
                        refine WL_step rfl rfl (Exec.move (v := Value.pointer none) rfl p48563 ?_)
                        refine WL_step rfl rfl (Exec.move (v := Value.int .i64 ((i48272 : Int))) rfl p48564 ?_)
                        refine WL_step rfl rfl (Exec.call rfl rfl Try.func17 rfl N17 (args_cons rfl (args_cons rfl args_nil)) ((stn_Network_Latest_nil_sim (stn_Network_Latest_nil_tot (i48272 : Int)) hS48562 ).mono ?_))
                        rintro _ w48579 ⟨_, rfl, ⟨s48580, l48581, hS48582, rfl⟩⟩
                        refine ⟨_, rfl, ?_⟩
                        refine WL_step rfl rfl (Exec.move (v := Value.tuple #[Value.int .i64 ((stn_Network_Latest_nil_t (i48272 : Int)).1), errV 30 ((stn_Network_Latest_nil_t (i48272 : Int)).2)]) rfl rfl ?_)
                        refine WL_step rfl rfl (Exec.extract (v := Value.int .i64 ((stn_Network_Latest_nil_t (i48272 : Int)).1)) rfl rfl rfl ?_)
                        refine WL_step rfl rfl (Exec.extract (v := errV 30 ((stn_Network_Latest_nil_t (i48272 : Int)).2)) rfl rfl rfl ?_)
                        refine WL_step rfl rfl (Exec.assign (v := Value.int .i64 ((stn_Network_Latest_nil_t (i48272 : Int)).1)) rfl rfl ?_)
                        refine WL_step rfl rfl (Exec.assign (v := errV 30 ((stn_Network_Latest_nil_t (i48272 : Int)).2)) rfl rfl ?_)
                        refine WL_nil (at_normal ?_)
                        refine W_seq ?_
                        refine W_mid (M := fun f' w' => ∃ (s48595 : PHeap) , PHeap.le s48580 s48595 ∧ St w0 s48595 (Res.arr (encInt .i64) 3 v43143 at_43142 :: H) w' ∧ f' 10 = Value.pointer none ∧ f' 107 = v43143 ∧ f' 108 = Value.int .i64 ((at_43142.length : Int)) ∧ f' 109 = Value.int .i64 ((i48272 : Int)) ∧ f' 157 = Value.bool ((bif (((stn_Network_Latest_nil_t (i48272 : Int)).2).isNone) then ((decide (((stn_Network_Latest_nil_t (i48272 : Int)).1) < x48517)) || ((((stn_Network_Latest_nil_t (i48272 : Int)).2).isSome) && !(base_Is_t ((stn_Network_Latest_nil_t (i48272 : Int)).2) 3))) else ((((stn_Network_Latest_nil_t (i48272 : Int)).2).isSome) && !(base_Is_t ((stn_Network_Latest_nil_t (i48272 : Int)).2) 3))))) ?_ ?_
                        · refine W_region ?_
                          refine WL_step rfl rfl (Exec.move (v := errV 30 ((stn_Network_Latest_nil_t (i48272 : Int)).2)) rfl rfl ?_)
                          refine WL_step rfl rfl (Exec.err_eql_nil (T := 30) Try.underlying26 rfl rfl rfl ?_)
                          refine WL_step rfl rfl (Exec.move (v := Value.bool (((stn_Network_Latest_nil_t (i48272 : Int)).2).isNone)) rfl rfl ?_)
                          by_cases hc48596 : (((stn_Network_Latest_nil_t (i48272 : Int)).2).isNone) = true
                          · refine WL_run rfl (yield_of rfl (congrArg Value.bool hc48596)) rfl (Exec.move (v := Value.int .i64 (x48517)) rfl p48565 ?_)
                            refine WL_run rfl (yield_of rfl (congrArg Value.bool hc48596)) rfl (Exec.move (v := Value.int .i64 ((stn_Network_Latest_nil_t (i48272 : Int)).1)) rfl rfl ?_)
                            refine WL_run rfl (yield_of rfl (congrArg Value.bool hc48596)) rfl (Exec.gtr rfl rfl rfl ?_)
                            refine WL_step rfl rfl (Exec.pick_t (v := Value.bool (decide (((stn_Network_Latest_nil_t (i48272 : Int)).1) < x48517))) rfl (congrArg Value.bool hc48596) rfl ?_)
                            refine WL_step rfl rfl (Exec.move (v := Value.bool (decide (((stn_Network_Latest_nil_t (i48272 : Int)).1) < x48517))) rfl rfl ?_)
                            by_cases hc48597 : (decide (((stn_Network_Latest_nil_t (i48272 : Int)).1) < x48517)) = true
                            · refine WL_pass rfl (yield_of rfl (congrArg Value.bool hc48597)) rfl rfl ?_
                              refine WL_pass rfl (yield_of rfl (congrArg Value.bool hc48597)) rfl rfl ?_
                              refine WL_pass rfl (yield_of rfl (congrArg Value.bool hc48597)) rfl rfl ?_
                              refine WL_pass_none rfl (yield_undef rfl rfl) rfl ?_
                              refine WL_pass_none rfl (yield_undef rfl rfl) rfl ?_
                              refine WL_pass_none rfl (yield_undef rfl rfl) rfl ?_
                              refine WL_pass rfl (yield_of rfl (congrArg Value.bool hc48597)) rfl rfl ?_
                              refine WL_step rfl rfl (Exec.pick_t (v := Value.bool (true)) rfl (congrArg Value.bool hc48597) rfl ?_)
                              refine WL_nil (at_normal ?_)
                              exact ⟨s48580, (PHeap.le_refl _), hS48582, p48563, p48566, p48567, p48568, (congrArg Value.bool (Eq.trans (cnd_t hc48596) (or_t hc48597))).symm⟩
                            · replace hc48597 := not_true hc48597
                              refine WL_run rfl (yield_of rfl (congrArg Value.bool hc48597)) rfl (Exec.move (v := errV 30 ((stn_Network_Latest_nil_t (i48272 : Int)).2)) rfl rfl ?_)
                              refine WL_run rfl (yield_of rfl (congrArg Value.bool hc48597)) rfl (Exec.err_neq_nil (T := 30) Try.underlying26 rfl rfl rfl ?_)
                              refine WL_run rfl (yield_of rfl (congrArg Value.bool hc48597)) rfl (Exec.move (v := Value.bool (((stn_Network_Latest_nil_t (i48272 : Int)).2).isSome)) rfl rfl ?_)
                              by_cases hc48598 : (((stn_Network_Latest_nil_t (i48272 : Int)).2).isSome) = true
                              · refine WL_run rfl (yield_of rfl (congrArg Value.bool hc48598)) rfl (Exec.move (v := errV 30 ((stn_Network_Latest_nil_t (i48272 : Int)).2)) rfl rfl ?_)
                                refine WL_run rfl (yield_of rfl (congrArg Value.bool hc48598)) rfl (Exec.call rfl rfl Try.func11 rfl N11 (args_cons rfl (args_cons rfl args_nil)) ((base_Is_sim (base_Is_tot ((stn_Network_Latest_nil_t (i48272 : Int)).2) 3) hS48582 ).mono ?_))
                                rintro _ w48599 ⟨_, rfl, ⟨s48600, l48601, hS48602, rfl⟩⟩
                                refine ⟨_, rfl, ?_⟩
                                refine WL_run rfl (yield_of rfl (congrArg Value.bool hc48598)) rfl (Exec.not rfl rfl ?_)
                                refine WL_run rfl (yield_of rfl (congrArg Value.bool hc48597)) rfl (Exec.pick_t (v := Value.bool (!(base_Is_t ((stn_Network_Latest_nil_t (i48272 : Int)).2) 3))) rfl (congrArg Value.bool hc48598) rfl ?_)
                                refine WL_step rfl rfl (Exec.pick_f (v := Value.bool (!(base_Is_t ((stn_Network_Latest_nil_t (i48272 : Int)).2) 3))) rfl (congrArg Value.bool hc48597) rfl ?_)
                                refine WL_nil (at_normal ?_)
                                exact ⟨s48600, l48601, hS48602, p48563, p48566, p48567, p48568, (congrArg Value.bool (Eq.trans (cnd_t hc48596) (Eq.trans (or_f hc48597) (and_t hc48598)))).symm⟩
                              · replace hc48598 := not_true hc48598
                                refine WL_pass rfl (yield_of rfl (congrArg Value.bool hc48598)) rfl rfl ?_
                                refine WL_pass rfl (yield_of rfl (congrArg Value.bool hc48598)) rfl rfl ?_
                                refine WL_pass rfl (yield_of rfl (congrArg Value.bool hc48598)) rfl rfl ?_
                                refine WL_run rfl (yield_of rfl (congrArg Value.bool hc48597)) rfl (Exec.pick_f (v := Value.bool (false)) rfl (congrArg Value.bool hc48598) rfl ?_)
                                refine WL_step rfl rfl (Exec.pick_f (v := Value.bool (false)) rfl (congrArg Value.bool hc48597) rfl ?_)
                                refine WL_nil (at_normal ?_)
                                exact ⟨s48580, (PHeap.le_refl _), hS48582, p48563, p48566, p48567, p48568, (congrArg Value.bool (Eq.trans (cnd_t hc48596) (Eq.trans (or_f hc48597) (and_f hc48598)))).symm⟩
                          · replace hc48596 := not_true hc48596
                            refine WL_pass rfl (yield_of rfl (congrArg Value.bool hc48596)) rfl rfl ?_
                            refine WL_pass rfl (yield_of rfl (congrArg Value.bool hc48596)) rfl rfl ?_
                            refine WL_pass rfl (yield_of rfl (congrArg Value.bool hc48596)) rfl rfl ?_
                            refine WL_step rfl rfl (Exec.pick_f (v := Value.bool (false)) rfl (congrArg Value.bool hc48596) rfl ?_)
                            refine WL_step rfl rfl (Exec.move (v := Value.bool (false)) rfl rfl ?_)
                            refine WL_run rfl (yield_of rfl rfl) rfl (Exec.move (v := errV 30 ((stn_Network_Latest_nil_t (i48272 : Int)).2)) rfl rfl ?_)
                            refine WL_run rfl (yield_of rfl rfl) rfl (Exec.err_neq_nil (T := 30) Try.underlying26 rfl rfl rfl ?_)
                            refine WL_run rfl (yield_of rfl rfl) rfl (Exec.move (v := Value.bool (((stn_Network_Latest_nil_t (i48272 : Int)).2).isSome)) rfl rfl ?_)
                            by_cases hc48603 : (((stn_Network_Latest_nil_t (i48272 : Int)).2).isSome) = true
                            · refine WL_run rfl (yield_of rfl (congrArg Value.bool hc48603)) rfl (Exec.move (v := errV 30 ((stn_Network_Latest_nil_t (i48272 : Int)).2)) rfl rfl ?_)
                              refine WL_run rfl (yield_of rfl (congrArg Value.bool hc48603)) rfl (Exec.call rfl rfl Try.func11 rfl N11 (args_cons rfl (args_cons rfl args_nil)) ((base_Is_sim (base_Is_tot ((stn_Network_Latest_nil_t (i48272 : Int)).2) 3) hS48582 ).mono ?_))
                              rintro _ w48604 ⟨_, rfl, ⟨s48605, l48606, hS48607, rfl⟩⟩
                              refine ⟨_, rfl, ?_⟩
                              refine WL_run rfl (yield_of rfl (congrArg Value.bool hc48603)) rfl (Exec.not rfl rfl ?_)
                              refine WL_run rfl (yield_of rfl rfl) rfl (Exec.pick_t (v := Value.bool (!(base_Is_t ((stn_Network_Latest_nil_t (i48272 : Int)).2) 3))) rfl (congrArg Value.bool hc48603) rfl ?_)
                              refine WL_step rfl rfl (Exec.pick_f (v := Value.bool (!(base_Is_t ((stn_Network_Latest_nil_t (i48272 : Int)).2) 3))) rfl rfl rfl ?_)
                              refine WL_nil (at_normal ?_)
                              exact ⟨s48605, l48606, hS48607, p48563, p48566, p48567, p48568, (congrArg Value.bool (Eq.trans (cnd_f hc48596) (and_t hc48603))).symm⟩
                            · replace hc48603 := not_true hc48603
                              refine WL_pass rfl (yield_of rfl (congrArg Value.bool hc48603)) rfl rfl ?_
                              refine WL_pass rfl (yield_of rfl (congrArg Value.bool hc48603)) rfl rfl ?_
                              refine WL_pass rfl (yield_of rfl (congrArg Value.bool hc48603)) rfl rfl ?_
                              refine WL_run rfl (yield_of rfl rfl) rfl (Exec.pick_f (v := Value.bool (false)) rfl (congrArg Value.bool hc48603) rfl ?_)
                              refine WL_step rfl rfl (Exec.pick_f (v := Value.bool (false)) rfl rfl rfl ?_)
                              refine WL_nil (at_normal ?_)
                              exact ⟨s48580, (PHeap.le_refl _), hS48582, p48563, p48566, p48567, p48568, (congrArg Value.bool (Eq.trans (cnd_f hc48596) (and_f hc48603))).symm⟩
                        · intro f48608 w48609 hM48610
                          obtain ⟨s48611, l48612, hS48613, p48614, p48615, p48616, p48617, p48618⟩ := hM48610
                          refine (at_normal ?_)
                          rcases ite_some hm48499 with ⟨hc48619, hm48499⟩ | ⟨hc48619, hm48499⟩
                          · refine W_cond_t p48618 hc48619 ?_
                            refine W_seq ?_
                            refine W_region ?_
                            refine WL_step rfl rfl (Exec.assign (v := Value.bool (false)) rfl rfl ?_)
                            refine WL_nil (at_normal ?_)
                            refine W_ret (ib_ret (at_ret (at_ret (ib_ret (at_ret (at_ret ?_))))))
                            have e48620 := Option.some.inj hm48499
                            subst c48495
                            have hq48621 := hr48489 _ (hres48500 (by intro _ h; cases h))
                            have e48622 := Option.some.inj hq48621
                            subst r
                            refine ⟨_, ret1 rfl, ?_⟩
                            have hS48623 := (hS48613).drop
                            exact ⟨s48611, (PHeap.le.trans (PHeap.le.trans (PHeap.le.trans (PHeap.le.trans (PHeap.le.trans (PHeap.le.trans (PHeap.le.trans (PHeap.le.trans (PHeap.le.trans l43073 l43235) l43276) l48253) l48266) l48504) l48530) l48561) l48581) l48612), hS48623, rfl⟩
                          · refine W_cond_f p48618 hc48619 ?_
                            replace hc48619 := not_true hc48619
                            refine W_skip (ib_normal (at_normal ?_))
                            refine W_region ?_
                            refine WL_step rfl rfl (Exec.add rfl p48617 rfl ?_)
                            refine WL_step rfl rfl (Exec.move (v := Value.int .i64 (IntKind.i64.wrap ((i48272 : Int) + 1))) rfl rfl ?_)
                            refine WL_nil (at_normal ?_)
                            have e48624 := Option.some.inj hm48499
                            subst c48495
                            refine ⟨_, rfl, ?_⟩; exact ⟨s48611, (PHeap.le.trans (PHeap.le.trans (PHeap.le.trans (PHeap.le.trans l48504 l48530) l48561) l48581) l48612), hS48613, p48614, p48615, p48616, (Eq.trans rfl (wrap_up hi48502 (hS48267).arr_le))⟩
                  · intro t48625 f48626 w48627 hI48628 hres48629
                    obtain ⟨s48630, l48631, hS48632, p48633, p48634, p48635, x48636⟩ := hI48628
                    refine W_seq ?_
                    refine W_region ?_
                    refine WL_step rfl rfl (Exec.lss rfl x48636 p48635 ?_)
                    refine WL_nil (at_normal ?_)
                    refine W_seq ?_
                    refine W_false (congrArg Value.bool (decide_eq_false (by omega))) ?_
                    refine W_exit (at_exit (at_exit (ib_here (at_normal ?_))))
                    refine ⟨_, .inl hres48629, ?_⟩; exact ⟨s48630, l48631, hS48632, p48633, p48634, p48635⟩
                · rintro f48637 w48638 ⟨t48639, hc48640, hM48641⟩
                  have hm := hc48640.elim (hn48490 _) (hb48491 _)
                  clear hc48640
                  obtain ⟨s48642, l48643, hS48644, p48645, p48646, p48647⟩ := hM48641
                  refine (at_normal ?_)
                  refine W_seq ?_
                  refine W_region ?_
                  refine WL_step rfl rfl (Exec.assign (v := Value.bool (true)) rfl rfl ?_)
                  refine WL_nil (at_normal ?_)
                  refine W_ret ?_
                  have e48649 := Option.some.inj hm
                  subst r
                  refine ⟨_, ret1 rfl, ?_⟩
                  have hS48650 := (hS48644).drop
                  exact ⟨s48642, (PHeap.le.trans (PHeap.le.trans (PHeap.le.trans (PHeap.le.trans (PHeap.le.trans l43073 l43235) l43276) l48253) l48266) l48643), hS48650, rfl⟩

end Go.Pw
