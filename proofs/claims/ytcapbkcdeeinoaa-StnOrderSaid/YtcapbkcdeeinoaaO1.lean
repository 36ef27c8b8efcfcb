/-
  The walks (printed by my generator).
-/
import Derived.Test.YtcapbkcdeeinoaaO0
set_option maxRecDepth 100000
set_option linter.unusedVariables false
namespace Go.Pw
open Go.Proofs
theorem law54_StnOrder_sim {w0 w : World} {s : PHeap} {H : List Res} {n1 : Int} {bounds2 : (List Bound)} {two5 : Arr2_uint8} {v3 : Value} {r : Bool} (hm : law54_StnOrder_p n1 bounds2 two5 = some r) (hS : St w0 s (H) w) (a4 : SliceRep encBound s v3 bounds2) :
    Calls Try.prog 4 #[Value.int .u8 (n1), v3, Value.agg #[Value.int .u8 (two5.a0), Value.int .u8 (two5.a1)]] w fun e w' => ∃ v, e = .returned v ∧ ((fun (y29169 : Bool) => ∃ (s29170 : PHeap) , PHeap.le s s29170 ∧ St w0 s29170 (H) w' ∧ v = Value.bool (y29169)) r) := by
  unfold law54_StnOrder_p at hm
  refine calls_of_W Try.func4 rfl rfl ?_
  refine W_seq ?_
  refine W_region ?_
  refine WL_step rfl rfl (Exec.box (cs := [Value.int .u8 (two5.a0), Value.int .u8 (two5.a1)]) hS rfl rfl rfl ?_)
  intro b29174 w29175 hS29176
  refine WL_step rfl rfl (Exec.assign (v := Value.bool (false)) rfl rfl ?_)
  refine WL_nil (at_normal ?_)
  refine W_seq ?_
  refine W_seq ?_
  obtain ⟨z29185, ht29186, hm⟩ := bind_some hm
  refine W_mid (M := fun f' w' => (fun (z29185 : Bool) => ∃ (s29187 : PHeap) , PHeap.le s s29187 ∧ St w0 s29187 (Res.box b29174 42 [Value.int .u8 (two5.a0), Value.int .u8 (two5.a1)] :: H) w' ∧ f' 0 = Value.int .u8 (n1) ∧ f' 1 = v3 ∧ f' 5 = Value.pointer (some ⟨b29174, 0, none⟩) ∧ f' 28 = Value.bool (z29185)) z29185) ?_ ?_
  · refine W_region ?_
    obtain ⟨y29190, q29189, ht29186⟩ := bind_some ht29186
    refine WL_step rfl rfl (Exec.call rfl rfl Try.func9 rfl N9 args_nil ((law54_awake_sim q29189 hS29176 ).mono ?_))
    rintro _ w29191 ⟨_, rfl, ⟨s29192, l29193, hS29194, rfl⟩⟩
    refine ⟨_, rfl, ?_⟩
    refine WL_step rfl rfl (Exec.not rfl rfl ?_)
    refine WL_step rfl rfl (Exec.move (v := Value.bool (!y29190)) rfl rfl ?_)
    rcases ite_some ht29186 with ⟨hc29195, ht29186⟩ | ⟨hc29195, ht29186⟩
    · refine WL_pass rfl (yield_of rfl (congrArg Value.bool hc29195)) rfl rfl ?_
      refine WL_pass rfl (yield_of rfl (congrArg Value.bool hc29195)) rfl rfl ?_
      refine WL_pass rfl (yield_of rfl (congrArg Value.bool hc29195)) rfl rfl ?_
      refine WL_step rfl rfl (Exec.pick_t (v := Value.bool (true)) rfl (congrArg Value.bool hc29195) rfl ?_)
      refine WL_nil (at_normal ?_)
      have e29196 := Option.some.inj ht29186
      subst z29185
      exact ⟨s29192, l29193, hS29194, rfl, rfl, rfl, rfl⟩
    · replace hc29195 := not_true hc29195
      refine WL_run rfl (yield_of rfl (congrArg Value.bool hc29195)) rfl (Exec.move (v := v3) rfl rfl ?_)
      refine WL_run rfl (yield_of rfl (congrArg Value.bool hc29195)) rfl (Exec.len_rep S22 rfl rfl (a4.mono l29193) ?_)
      refine WL_run rfl (yield_of rfl (congrArg Value.bool hc29195)) rfl (Exec.gtr rfl rfl rfl ?_)
      refine WL_step rfl rfl (Exec.pick_f (v := Value.bool (decide (30 < (bounds2.length : Int)))) rfl (congrArg Value.bool hc29195) rfl ?_)
      refine WL_nil (at_normal ?_)
      have e29197 := Option.some.inj ht29186
      subst z29185
      exact ⟨s29192, l29193, hS29194, rfl, rfl, rfl, rfl⟩
  · intro f29198 w29199 hM29200
    obtain ⟨s29201, l29202, hS29203, p29204, p29205, p29206, p29207⟩ := hM29200
    refine (at_normal ?_)
    rcases ite_some hm with ⟨hc29208, hm⟩ | ⟨hc29208, hm⟩
    · refine W_cond_t p29207 hc29208 ?_
      refine W_seq ?_
      refine W_region ?_
      obtain ⟨y29218, q29217, hm⟩ := bind_some hm
      refine WL_step rfl rfl (Exec.call rfl rfl Try.func9 rfl N9 args_nil ((law54_awake_sim q29217 hS29203 ).mono ?_))
      rintro _ w29219 ⟨_, rfl, ⟨s29220, l29221, hS29222, rfl⟩⟩
      refine ⟨_, rfl, ?_⟩
      refine WL_step rfl rfl (Exec.assign (v := Value.bool (y29218)) rfl rfl ?_)
      refine WL_nil (at_normal ?_)
      refine W_ret (at_ret ?_)
      have e29224 := Option.some.inj hm
      subst r
      refine ⟨_, ret1 rfl, ?_⟩
      have hS29225 := (hS29222).drop
      exact ⟨s29220, (PHeap.le.trans l29202 l29221), hS29225, rfl⟩
    · refine W_cond_f p29207 hc29208 ?_
      replace hc29208 := not_true hc29208
      refine W_skip (at_normal ?_)
      refine W_seq ?_
      refine W_region ?_
      refine WL_step rfl rfl (Exec.move (v := Value.int .u8 (n1)) rfl p29204 ?_)
      refine WL_step rfl rfl (Exec.convert_int (by rw [Try.underlying5]; rfl) Try.underlying3 rfl rfl ?_)
      refine WL_step rfl rfl (Exec.rem rfl rfl rfl (by decide) ?_)
      refine WL_step rfl rfl (Exec.add rfl rfl rfl ?_)
      refine WL_step rfl rfl (Exec.assign (v := Value.int .i64 (IntKind.i64.wrap (1 + ((IntKind.i64.wrap n1).tmod 8)))) rfl rfl ?_)
      refine WL_nil (at_normal ?_)
      refine W_seq ?_
      refine W_region ?_
      refine WL_step rfl rfl (Exec.move (v := Value.int .i64 (IntKind.i64.wrap (1 + ((IntKind.i64.wrap n1).tmod 8)))) rfl rfl ?_)
      refine WL_step rfl rfl (Exec.move (v := v3) rfl p29205 ?_)
      obtain ⟨t29244, q29245, hm⟩ := bind_some hm
      obtain ⟨pd29246, y29247⟩ := t29244
      replace hm := un2_eq hm
      refine WL_step rfl rfl (Exec.call rfl rfl Try.func19 rfl N19 (args_cons rfl (args_cons rfl args_nil)) ((law54_made_sim q29245 hS29203 (a4.mono l29202)).mono ?_))
      rintro _ w29248 ⟨_, rfl, hp29249⟩
      refine ⟨_, rfl, ?_⟩
      rcases hp29249 with ⟨d29250, rfl, s29251, v29254, v29255, v29256, l29252, hS29253, rfl⟩ | ⟨rfl, s29258, l29259, hS29260, rfl⟩
      · replace hm := optC_some hm
        refine WL_step rfl rfl (Exec.move (v := Value.tuple #[Value.pointer (some ⟨v29254, 0, none⟩), Value.bool (y29247)]) rfl rfl ?_)
        refine WL_step rfl rfl (Exec.extract (v := Value.pointer (some ⟨v29254, 0, none⟩)) rfl rfl rfl ?_)
        refine WL_step rfl rfl (Exec.extract (v := Value.bool (y29247)) rfl rfl rfl ?_)
        refine WL_step rfl rfl (Exec.assign (v := Value.pointer (some ⟨v29254, 0, none⟩)) rfl rfl ?_)
        refine WL_step rfl rfl (Exec.assign (v := Value.bool (y29247)) rfl rfl ?_)
        refine WL_nil (at_normal ?_)
        refine W_seq ?_
        refine W_seq ?_
        refine W_region ?_
        refine WL_step rfl rfl (Exec.move (v := Value.bool (y29247)) rfl rfl ?_)
        refine WL_step rfl rfl (Exec.not rfl rfl ?_)
        refine WL_nil (at_normal ?_)
        rcases ite_some hm with ⟨hc29262, hm⟩ | ⟨hc29262, hm⟩
        · refine W_cond_t rfl hc29262 ?_
          refine W_seq ?_
          refine W_region ?_
          refine WL_step rfl rfl (Exec.assign (v := Value.bool (true)) rfl rfl ?_)
          refine WL_nil (at_normal ?_)
          refine W_ret (at_ret ?_)
          have e29264 := Option.some.inj hm
          subst r
          refine ⟨_, ret1 rfl, ?_⟩
          have hS29265 := (hS29253).drop
          have hS29266 := ((hS29265).drop).drop
          have hS29267 := (hS29266).drop
          exact ⟨s29251, (PHeap.le.trans l29202 l29252), hS29267, rfl⟩
        · refine W_cond_f rfl hc29262 ?_
          replace hc29262 := not_true hc29262
          refine W_skip (at_normal ?_)
          refine W_seq ?_
          refine W_region ?_
          refine WL_step rfl rfl (Exec.move (v := Value.int .i64 (IntKind.i64.wrap (1 + ((IntKind.i64.wrap n1).tmod 8)))) rfl rfl ?_)
          obtain ⟨t29286, q29287, hm⟩ := bind_some hm
          obtain ⟨pd29288, y29289⟩ := t29286
          replace hm := un2_eq hm
          refine WL_step rfl rfl (Exec.call rfl rfl Try.func10 rfl N10 (args_cons rfl args_nil) ((stn_New_sim q29287 hS29253 ).mono ?_))
          rintro _ w29290 ⟨_, rfl, hp29291⟩
          refine ⟨_, rfl, ?_⟩
          rcases hp29291 with ⟨d29292, rfl, s29293, v29296, v29297, v29298, l29294, hS29295, rfl⟩ | ⟨rfl, s29300, l29301, hS29302, rfl⟩
          · replace hm := optC_some hm
            refine WL_step rfl rfl (Exec.move (v := Value.tuple #[Value.pointer (some ⟨v29296, 0, none⟩), errV 30 (y29289)]) rfl rfl ?_)
            refine WL_step rfl rfl (Exec.extract (v := Value.pointer (some ⟨v29296, 0, none⟩)) rfl rfl rfl ?_)
            refine WL_step rfl rfl (Exec.extract (v := errV 30 (y29289)) rfl rfl rfl ?_)
            refine WL_step rfl rfl (Exec.assign (v := Value.pointer (some ⟨v29296, 0, none⟩)) rfl rfl ?_)
            refine WL_step rfl rfl (Exec.assign (v := errV 30 (y29289)) rfl rfl ?_)
            refine WL_nil (at_normal ?_)
            refine W_seq ?_
            refine W_seq ?_
            refine W_region ?_
            refine WL_step rfl rfl (Exec.move (v := errV 30 (y29289)) rfl rfl ?_)
            refine WL_step rfl rfl (Exec.err_neq_nil (T := 30) Try.underlying26 rfl rfl rfl ?_)
            refine WL_nil (at_normal ?_)
            rcases ite_some hm with ⟨hc29304, hm⟩ | ⟨hc29304, hm⟩
            · refine W_cond_t rfl hc29304 ?_
              refine W_seq ?_
              refine W_region ?_
              refine WL_step rfl rfl (Exec.assign (v := Value.bool (false)) rfl rfl ?_)
              refine WL_nil (at_normal ?_)
              refine W_ret (at_ret ?_)
              have e29306 := Option.some.inj hm
              subst r
              refine ⟨_, ret1 rfl, ?_⟩
              have hS29307 := (hS29295).drop
              have hS29308 := ((hS29307).drop).drop
              have hS29309 := (hS29308).drop
              have hS29310 := ((hS29309).drop).drop
              have hS29311 := (hS29310).drop
              exact ⟨s29293, (PHeap.le.trans (PHeap.le.trans l29202 l29252) l29294), hS29311, rfl⟩
            · refine W_cond_f rfl hc29304 ?_
              replace hc29304 := not_true hc29304
              refine W_skip (at_normal ?_)
              refine W_seq ?_
              refine W_seq ?_
              refine W_region ?_
              refine WL_step rfl rfl (Exec.move (v := v3) rfl p29205 ?_)
              refine WL_step rfl rfl (Exec.len_rep S22 rfl rfl (a4.mono (PHeap.le.trans (PHeap.le.trans l29202 l29252) l29294)) ?_)
              refine WL_step rfl rfl (Exec.sub rfl rfl rfl ?_)
              refine WL_step rfl rfl (Exec.assign (v := Value.int .i64 (IntKind.i64.wrap ((bounds2.length : Int) - 1))) rfl rfl ?_)
              refine WL_nil (at_normal ?_)
              obtain ⟨c29430, hB29431, hr29432, hn29433, hb29434⟩ := ctl_some hm
              refine W_mid (M := fun f' w' => ∃ s', (c29430 = .next s' ∨ c29430 = .brk s') ∧ (un2 fun (i29428 : Int) (l29429 : (List (List Int))) => ∃ (s29436 : PHeap) , PHeap.le s29293 s29436 ∧ St w0 s29436 (Res.box b29174 42 [Value.int .u8 (two5.a0), Value.int .u8 (two5.a1)] :: Res.box v29254 63 [v29255] :: Res.box v29296 63 [v29297] :: Res.arr encRaw 49 v29255 v29256 :: Res.rows (encInt .i64) 3 v29256 d29250.d :: Res.arr encRaw 49 v29297 v29298 :: Res.rows (encInt .i64) 3 v29298 l29429 :: H) w' ∧ f' 1 = v3 ∧ f' 5 = Value.pointer (some ⟨b29174, 0, none⟩) ∧ f' 7 = Value.int .i64 (IntKind.i64.wrap (1 + ((IntKind.i64.wrap n1).tmod 8))) ∧ f' 8 = Value.pointer (some ⟨v29254, 0, none⟩) ∧ f' 10 = Value.pointer (some ⟨v29296, 0, none⟩) ∧ f' 12 = Value.int .i64 (i29428)) s') ?_ ?_
              · refine W_block (W_while (fun s' f' w' => (un2 fun (i29349 : Int) (l29350 : (List (List Int))) => ∃ (s29435 : PHeap) , PHeap.le s29293 s29435 ∧ St w0 s29435 (Res.box b29174 42 [Value.int .u8 (two5.a0), Value.int .u8 (two5.a1)] :: Res.box v29254 63 [v29255] :: Res.box v29296 63 [v29297] :: Res.arr encRaw 49 v29255 v29256 :: Res.rows (encInt .i64) 3 v29256 d29250.d :: Res.arr encRaw 49 v29297 v29298 :: Res.rows (encInt .i64) 3 v29298 l29350 :: H) w' ∧ f' 1 = v3 ∧ f' 5 = Value.pointer (some ⟨b29174, 0, none⟩) ∧ f' 7 = Value.int .i64 (IntKind.i64.wrap (1 + ((IntKind.i64.wrap n1).tmod 8))) ∧ f' 8 = Value.pointer (some ⟨v29254, 0, none⟩) ∧ f' 10 = Value.pointer (some ⟨v29296, 0, none⟩) ∧ f' 12 = Value.int .i64 (i29349)) s') hB29431 ?_ ?_)
                · have hS29437 := ((hS29295).f2).f2
                  have hS29438 := ((hS29437).f5).f5
                  have hS29439 := (hS29438).f4
                  have hS29440 := (hS29439).f5
                  have hS29441 := (hS29440).f6
                  exact ⟨s29293, (PHeap.le_refl _), hS29441, p29205, p29206, rfl, rfl, rfl, rfl⟩
                · intro t29449 c29443 f29444 w29445 hI29446 hm29447 hres29448
                  obtain ⟨i29349, l29350⟩ := t29449
                  replace hm29447 := un2_eq hm29447
                  obtain ⟨s29450, l29451, hS29452, p29453, p29454, p29455, p29456, p29457, p29458⟩ := hI29446
                  refine W_seq ?_
                  refine W_seq ?_
                  refine W_region ?_
                  refine WL_step rfl rfl (Exec.move (v := Value.int .i64 (i29349)) rfl p29458 ?_)
                  refine WL_step rfl rfl (Exec.geq rfl rfl rfl ?_)
                  refine WL_nil (at_normal ?_)
                  rcases ite_some hm29447 with ⟨hc29459, hm29447⟩ | ⟨hc29459, hm29447⟩
                  · refine W_cond_t rfl hc29459 ?_
                    refine W_skip (at_normal ?_)
                    refine W_seq ?_
                    refine W_block ?_
                    refine W_seq ?_
                    refine W_region ?_
                    refine WL_step rfl rfl (Exec.move (v := Value.pointer (some ⟨v29296, 0, none⟩)) rfl p29457 ?_)
                    refine WL_step rfl rfl (Exec.move (v := v3) rfl p29453 ?_)
                    refine WL_step rfl rfl (Exec.move (v := Value.int .i64 (i29349)) rfl p29458 ?_)
                    obtain ⟨x29477, q29478, hm29447⟩ := bind_some hm29447
                    refine WL_step rfl rfl (Exec.index_rep S22 rfl rfl rfl (a4.mono (PHeap.le.trans (PHeap.le.trans (PHeap.le.trans l29202 l29252) l29294) l29451)) q29478 ?_)
                    intro b29479 o29480 a29481
                    refine WL_step rfl rfl (Exec.load_at (E := encBound) hS29452 A32 rfl rfl rfl a29481 ?_)
                    intro v29482 q29483
                    obtain rfl := encBound_val.1 q29483
                    obtain ⟨t29484, q29485, hm29447⟩ := bind_some hm29447
                    obtain ⟨y29486, l29487⟩ := t29484
                    replace hm29447 := un2_eq hm29447
                    have hS29488 := ((hS29452).f6).f6
                    have hS29489 := (hS29488).f4
                    refine WL_step rfl rfl (Exec.call rfl rfl Try.func14 rfl N14 (args_cons rfl (args_cons rfl args_nil)) ((stn_Network_Add_sim q29485 hS29489 ).mono ?_))
                    rintro _ w29490 ⟨_, rfl, ⟨s29491, l29492, hS29493, rfl⟩⟩
                    refine ⟨_, rfl, ?_⟩
                    refine WL_step rfl rfl (Exec.err_neq_nil (T := 30) Try.underlying26 rfl rfl rfl ?_)
                    refine WL_nil (at_normal ?_)
                    rcases ite_some hm29447 with ⟨hc29494, hm29447⟩ | ⟨hc29494, hm29447⟩
                    · refine W_cond_t rfl hc29494 ?_
                      refine W_seq ?_
                      refine W_region ?_
                      refine WL_step rfl rfl (Exec.assign (v := Value.bool (false)) rfl rfl ?_)
                      refine WL_nil (at_normal ?_)
                      refine W_ret (ib_ret (at_ret (at_ret (ib_ret (at_ret (at_ret ?_))))))
                      have e29495 := Option.some.inj hm29447
                      subst c29443
                      have hq29496 := hr29432 _ (hres29448 (by intro _ h; cases h))
                      have e29497 := Option.some.inj hq29496
                      subst r
                      refine ⟨_, ret1 rfl, ?_⟩
                      have hS29498 := (hS29493).drop
                      have hS29499 := ((hS29498).drop).drop
                      have hS29500 := (hS29499).drop
                      have hS29501 := (hS29500).drop
                      have hS29502 := ((hS29501).drop).drop
                      exact ⟨s29491, (PHeap.le.trans (PHeap.le.trans (PHeap.le.trans (PHeap.le.trans l29202 l29252) l29294) l29451) l29492), hS29502, rfl⟩
                    · refine W_cond_f rfl hc29494 ?_
                      replace hc29494 := not_true hc29494
                      refine W_skip (ib_normal (at_normal ?_))
                      refine W_region ?_
                      refine WL_step rfl rfl (Exec.move (v := Value.int .i64 (i29349)) rfl p29458 ?_)
                      refine WL_step rfl rfl (Exec.sub rfl rfl rfl ?_)
                      refine WL_step rfl rfl (Exec.assign (v := Value.int .i64 (IntKind.i64.wrap (i29349 - 1))) rfl rfl ?_)
                      refine WL_nil (at_normal ?_)
                      have e29503 := Option.some.inj hm29447
                      subst c29443
                      have hS29504 := ((hS29493).f2).f2
                      have hS29505 := ((hS29504).f6).f6
                      have hS29506 := (hS29505).f4
                      have hS29507 := (hS29506).f6
                      have hS29508 := (hS29507).f6
                      refine ⟨_, rfl, ?_⟩; exact ⟨s29491, (PHeap.le.trans l29451 l29492), hS29508, p29453, p29454, p29455, p29456, p29457, rfl⟩
                  · refine W_cond_f rfl hc29459 ?_
                    replace hc29459 := not_true hc29459
                    refine W_exit (at_exit (at_exit (ib_here (at_normal ?_))))
                    have e29509 := Option.some.inj hm29447
                    subst c29443
                    have hS29510 := ((hS29452).f6).f6
                    have hS29511 := ((hS29510).f6).f6
                    have hS29512 := (hS29511).f6
                    have hS29513 := (hS29512).f6
                    have hS29514 := (hS29513).f6
                    refine ⟨_, .inr (hres29448 (by intro _ h; cases h)), ?_⟩; exact ⟨s29450, l29451, hS29514, p29453, p29454, p29455, p29456, p29457, p29458⟩
              · rintro f29515 w29516 ⟨t29517, hc29518, hM29519⟩
                have hm := hc29518.elim (hn29433 _) (hb29434 _)
                clear hc29518
                obtain ⟨i29428, l29429⟩ := t29517
                replace hm := un2_eq hm
                obtain ⟨s29520, l29521, hS29522, p29523, p29524, p29525, p29526, p29527, p29528⟩ := hM29519
                refine (at_normal ?_)
                refine W_seq ?_
                obtain ⟨u29652, q29653, hm⟩ := bind_some hm
                refine W_drawn (n0 := 12) hmix (by kernel_rfl) [RP.eq (Value.pointer (some ⟨b29174, 0, none⟩)), RP.eq (Value.int .u8 (two5.a0)), RP.eq (Value.int .i64 (IntKind.i64.wrap two5.a0)), RP.eq (Value.int .i64 (IntKind.i64.wrap (1 + ((IntKind.i64.wrap n1).tmod 8)))), RP.eq (Value.int .i64 ((IntKind.i64.wrap two5.a0).tmod (IntKind.i64.wrap (1 + ((IntKind.i64.wrap n1).tmod 8))))), RP.eq (Value.pointer (some ⟨b29174, 1, none⟩)), RP.eq (Value.int .u8 (two5.a1)), RP.eq (Value.int .i64 (IntKind.i64.wrap two5.a1)), RP.eq (Value.int .i64 (IntKind.i64.wrap (1 + ((IntKind.i64.wrap n1).tmod 8)))), RP.eq (Value.int .i64 ((IntKind.i64.wrap two5.a1).tmod (IntKind.i64.wrap (1 + ((IntKind.i64.wrap n1).tmod 8))))), RP.eq (Value.int .i64 ((IntKind.i64.wrap two5.a0).tmod (IntKind.i64.wrap (1 + ((IntKind.i64.wrap n1).tmod 8))))), RP.eq (Value.int .i64 ((IntKind.i64.wrap two5.a1).tmod (IntKind.i64.wrap (1 + ((IntKind.i64.wrap n1).tmod 8)))))] hS29522 (HeadAll.cons ?_ (HeadAll.cons ?_ (HeadAll.cons ?_ (HeadAll.cons ?_ (HeadAll.cons ?_ (HeadAll.cons ?_ (HeadAll.cons ?_ (HeadAll.cons ?_ (HeadAll.cons ?_ (HeadAll.cons ?_ (HeadAll.cons ?_ (HeadAll.cons ?_ (HeadAll.nil))))))))))))) ?_
                · intro g29654 s29655 w29656 l29657 hS29658 fr29659 pre29660
                  refine head_run rfl (Exec.index_parr Try.underlying42 A5 rfl (Eq.trans (fr29659 5 rfl) p29524) rfl (by decide) rfl ?_)
                  exact head_done hS29658 rfl
                · intro g29661 s29662 w29663 l29664 hS29665 fr29666 pre29667
                  have p29668 : g29661 63 = (Value.pointer (some ⟨b29174, 0, none⟩)) := pre29667 0 _ rfl rfl
                  refine head_run rfl (Exec.load_box (hS29665) A5 rfl p29668 rfl ?_)
                  exact head_done hS29665 rfl
                · intro g29669 s29670 w29671 l29672 hS29673 fr29674 pre29675
                  have p29676 : g29669 64 = (Value.int .u8 (two5.a0)) := pre29675 0 _ rfl rfl
                  refine head_run rfl (Exec.convert_int (by rw [Try.underlying5]; rfl) Try.underlying3 rfl p29676 ?_)
                  exact head_done hS29673 rfl
                · intro g29677 s29678 w29679 l29680 hS29681 fr29682 pre29683
                  refine head_run rfl (Exec.move (v := Value.int .i64 (IntKind.i64.wrap (1 + ((IntKind.i64.wrap n1).tmod 8)))) rfl (Eq.trans (fr29682 7 rfl) p29525) ?_)
                  exact head_done hS29681 rfl
                · intro g29684 s29685 w29686 l29687 hS29688 fr29689 pre29690
                  have p29691 : g29684 65 = (Value.int .i64 (IntKind.i64.wrap two5.a0)) := pre29690 0 _ rfl rfl
                  have p29692 : g29684 66 = (Value.int .i64 (IntKind.i64.wrap (1 + ((IntKind.i64.wrap n1).tmod 8)))) := pre29690 1 _ rfl rfl
                  refine head_run rfl (Exec.rem rfl p29691 p29692 (by simpa using must_some q29653) ?_)
                  exact head_done hS29688 rfl
                · intro g29693 s29694 w29695 l29696 hS29697 fr29698 pre29699
                  refine head_run rfl (Exec.index_parr Try.underlying42 A5 rfl (Eq.trans (fr29698 5 rfl) p29524) rfl (by decide) rfl ?_)
                  exact head_done hS29697 rfl
                · intro g29700 s29701 w29702 l29703 hS29704 fr29705 pre29706
                  have p29707 : g29700 68 = (Value.pointer (some ⟨b29174, 1, none⟩)) := pre29706 0 _ rfl rfl
                  refine head_run rfl (Exec.load_box (hS29704) A5 rfl p29707 rfl ?_)
                  exact head_done hS29704 rfl
                · intro g29708 s29709 w29710 l29711 hS29712 fr29713 pre29714
                  have p29715 : g29708 69 = (Value.int .u8 (two5.a1)) := pre29714 0 _ rfl rfl
                  refine head_run rfl (Exec.convert_int (by rw [Try.underlying5]; rfl) Try.underlying3 rfl p29715 ?_)
                  exact head_done hS29712 rfl
                · intro g29716 s29717 w29718 l29719 hS29720 fr29721 pre29722
                  refine head_run rfl (Exec.move (v := Value.int .i64 (IntKind.i64.wrap (1 + ((IntKind.i64.wrap n1).tmod 8)))) rfl (Eq.trans (fr29721 7 rfl) p29525) ?_)
                  exact head_done hS29720 rfl
                · intro g29723 s29724 w29725 l29726 hS29727 fr29728 pre29729
                  have p29730 : g29723 70 = (Value.int .i64 (IntKind.i64.wrap two5.a1)) := pre29729 0 _ rfl rfl
                  have p29731 : g29723 71 = (Value.int .i64 (IntKind.i64.wrap (1 + ((IntKind.i64.wrap n1).tmod 8)))) := pre29729 1 _ rfl rfl
                  refine head_run rfl (Exec.rem rfl p29730 p29731 (by simpa using must_some q29653) ?_)
                  exact head_done hS29727 rfl
                · intro g29732 s29733 w29734 l29735 hS29736 fr29737 pre29738
                  have p29739 : g29732 67 = (Value.int .i64 ((IntKind.i64.wrap two5.a0).tmod (IntKind.i64.wrap (1 + ((IntKind.i64.wrap n1).tmod 8))))) := pre29738 0 _ rfl rfl
                  refine head_run rfl (Exec.assign (v := Value.int .i64 ((IntKind.i64.wrap two5.a0).tmod (IntKind.i64.wrap (1 + ((IntKind.i64.wrap n1).tmod 8))))) rfl p29739 ?_)
                  exact head_done hS29736 rfl
                · intro g29740 s29741 w29742 l29743 hS29744 fr29745 pre29746
                  have p29747 : g29740 72 = (Value.int .i64 ((IntKind.i64.wrap two5.a1).tmod (IntKind.i64.wrap (1 + ((IntKind.i64.wrap n1).tmod 8))))) := pre29746 0 _ rfl rfl
                  refine head_run rfl (Exec.assign (v := Value.int .i64 ((IntKind.i64.wrap two5.a1).tmod (IntKind.i64.wrap (1 + ((IntKind.i64.wrap n1).tmod 8))))) rfl p29747 ?_)
                  exact head_done hS29744 rfl
                · intro g29748 s29749 w29750 l29751 hS29752 fr29753 hR29754
                  have p29755 : g29748 63 = (Value.pointer (some ⟨b29174, 0, none⟩)) := hR29754 0 rfl
                  have p29756 : g29748 64 = (Value.int .u8 (two5.a0)) := hR29754 1 rfl
                  have p29757 : g29748 65 = (Value.int .i64 (IntKind.i64.wrap two5.a0)) := hR29754 2 rfl
                  have p29758 : g29748 66 = (Value.int .i64 (IntKind.i64.wrap (1 + ((IntKind.i64.wrap n1).tmod 8)))) := hR29754 3 rfl
                  have p29759 : g29748 67 = (Value.int .i64 ((IntKind.i64.wrap two5.a0).tmod (IntKind.i64.wrap (1 + ((IntKind.i64.wrap n1).tmod 8))))) := hR29754 4 rfl
                  have p29760 : g29748 68 = (Value.pointer (some ⟨b29174, 1, none⟩)) := hR29754 5 rfl
                  have p29761 : g29748 69 = (Value.int .u8 (two5.a1)) := hR29754 6 rfl
                  have p29762 : g29748 70 = (Value.int .i64 (IntKind.i64.wrap two5.a1)) := hR29754 7 rfl
                  have p29763 : g29748 71 = (Value.int .i64 (IntKind.i64.wrap (1 + ((IntKind.i64.wrap n1).tmod 8)))) := hR29754 8 rfl
                  have p29764 : g29748 72 = (Value.int .i64 ((IntKind.i64.wrap two5.a1).tmod (IntKind.i64.wrap (1 + ((IntKind.i64.wrap n1).tmod 8))))) := hR29754 9 rfl
                  have p29765 : g29748 13 = (Value.int .i64 ((IntKind.i64.wrap two5.a0).tmod (IntKind.i64.wrap (1 + ((IntKind.i64.wrap n1).tmod 8))))) := hR29754 10 rfl
                  have p29766 : g29748 14 = (Value.int .i64 ((IntKind.i64.wrap two5.a1).tmod (IntKind.i64.wrap (1 + ((IntKind.i64.wrap n1).tmod 8))))) := hR29754 11 rfl
                  refine WL_nil (at_normal ?_)
                  refine W_seq ?_
                  refine W_region ?_
                  refine WL_step rfl rfl (Exec.move (v := Value.pointer (some ⟨v29254, 0, none⟩)) rfl (Eq.trans (fr29753 8 rfl) p29526) ?_)
                  refine WL_step rfl rfl (Exec.move (v := Value.int .i64 ((IntKind.i64.wrap two5.a0).tmod (IntKind.i64.wrap (1 + ((IntKind.i64.wrap n1).tmod 8))))) rfl p29765 ?_)
                  refine WL_step rfl rfl (Exec.move (v := Value.int .i64 ((IntKind.i64.wrap two5.a1).tmod (IntKind.i64.wrap (1 + ((IntKind.i64.wrap n1).tmod 8))))) rfl p29766 ?_)
                  obtain ⟨t29777, q29778, hm⟩ := bind_some hm
                  obtain ⟨y29779, y29780⟩ := t29777
                  replace hm := un2_eq hm
                  have hS29781 := ((hS29752).f4).f4
                  have hS29782 := (hS29781).f3
                  refine WL_step rfl rfl (Exec.call rfl rfl Try.func15 rfl N15 (args_cons rfl (args_cons rfl (args_cons rfl args_nil))) ((stn_Network_Distance_sim q29778 hS29782 ).mono ?_))
                  rintro _ w29783 ⟨_, rfl, ⟨s29784, l29785, hS29786, rfl⟩⟩
                  refine ⟨_, rfl, ?_⟩
                  refine WL_step rfl rfl (Exec.move (v := Value.tuple #[Value.int .i64 (y29779), errV 30 (y29780)]) rfl rfl ?_)
                  refine WL_step rfl rfl (Exec.extract (v := Value.int .i64 (y29779)) rfl rfl rfl ?_)
                  refine WL_step rfl rfl (Exec.extract (v := errV 30 (y29780)) rfl rfl rfl ?_)
                  refine WL_step rfl rfl (Exec.assign (v := Value.int .i64 (y29779)) rfl rfl ?_)
                  refine WL_step rfl rfl (Exec.assign (v := errV 30 (y29780)) rfl rfl ?_)
                  refine WL_nil (at_normal ?_)
                  refine W_seq ?_
                  refine W_seq ?_
                  refine W_region ?_
                  refine WL_step rfl rfl (Exec.move (v := errV 30 (y29780)) rfl rfl ?_)
                  refine WL_step rfl rfl (Exec.err_neq_nil (T := 30) Try.underlying26 rfl rfl rfl ?_)
                  refine WL_nil (at_normal ?_)
                  rcases ite_some hm with ⟨hc29787, hm⟩ | ⟨hc29787, hm⟩
                  · refine W_cond_t rfl hc29787 ?_
                    refine W_seq ?_
                    refine W_region ?_
                    refine WL_step rfl rfl (Exec.assign (v := Value.bool (false)) rfl rfl ?_)
                    refine WL_nil (at_normal ?_)
                    refine W_ret (at_ret ?_)
                    have e29789 := Option.some.inj hm
                    subst r
                    refine ⟨_, ret1 rfl, ?_⟩
                    have hS29790 := (hS29786).drop
                    have hS29791 := ((hS29790).drop).drop
                    have hS29792 := (hS29791).drop
                    have hS29793 := (hS29792).drop
                    have hS29794 := ((hS29793).drop).drop
                    exact ⟨s29784, (PHeap.le.trans (PHeap.le.trans (PHeap.le.trans (PHeap.le.trans (PHeap.le.trans l29202 l29252) l29294) l29521) l29751) l29785), hS29794, rfl⟩
                  · refine W_cond_f rfl hc29787 ?_
                    replace hc29787 := not_true hc29787
                    refine W_skip (at_normal ?_)
                    refine W_seq ?_
                    refine W_seq ?_
                    obtain ⟨t29809, ht29810, hm⟩ := bind_some hm
                    refine W_mid (M := fun f' w' => (un2 fun (z29807 : Bool) (l29808 : (List (List Int))) => ∃ (s29811 : PHeap) , PHeap.le s29784 s29811 ∧ St w0 s29811 (Res.box v29254 63 [v29255] :: Res.box v29296 63 [v29297] :: Res.arr encRaw 49 v29255 v29256 :: Res.rows (encInt .i64) 3 v29256 d29250.d :: Res.arr encRaw 49 v29297 v29298 :: Res.rows (encInt .i64) 3 v29298 l29808 :: H) w' ∧ f' 7 = Value.int .i64 (IntKind.i64.wrap (1 + ((IntKind.i64.wrap n1).tmod 8))) ∧ f' 8 = Value.pointer (some ⟨v29254, 0, none⟩) ∧ f' 10 = Value.pointer (some ⟨v29296, 0, none⟩) ∧ f' 96 = Value.bool (z29807)) t29809) ?_ ?_
                    · refine W_region ?_
                      refine WL_step rfl rfl (Exec.move (v := Value.int .i64 (y29779)) rfl rfl ?_)
                      refine WL_step rfl rfl (Exec.leq rfl rfl rfl ?_)
                      refine WL_step rfl rfl (Exec.move (v := Value.bool (decide (y29779 ≤ 1099511627776))) rfl rfl ?_)
                      rcases ite_some ht29810 with ⟨hc29812, ht29810⟩ | ⟨hc29812, ht29810⟩
                      · refine WL_run rfl (yield_of rfl (congrArg Value.bool hc29812)) rfl (Exec.move (v := Value.int .i64 (y29779)) rfl rfl ?_)
                        refine WL_run rfl (yield_of rfl (congrArg Value.bool hc29812)) rfl (Exec.geq rfl rfl rfl ?_)
                        refine WL_step rfl rfl (Exec.pick_t (v := Value.bool (decide ((-1099511627776) ≤ y29779))) rfl (congrArg Value.bool hc29812) rfl ?_)
                        refine WL_step rfl rfl (Exec.move (v := Value.bool (decide ((-1099511627776) ≤ y29779))) rfl rfl ?_)
                        rcases ite_some ht29810 with ⟨hc29813, ht29810⟩ | ⟨hc29813, ht29810⟩
                        · refine WL_run rfl (yield_of rfl (congrArg Value.bool hc29813)) rfl (Exec.move (v := Value.pointer (some ⟨v29296, 0, none⟩)) rfl (Eq.trans (fr29753 10 rfl) p29527) ?_)
                          refine WL_run rfl (yield_of rfl (congrArg Value.bool hc29813)) rfl (Exec.move (v := Value.int .i64 ((IntKind.i64.wrap two5.a0).tmod (IntKind.i64.wrap (1 + ((IntKind.i64.wrap n1).tmod 8))))) rfl p29765 ?_)
                          refine WL_run rfl (yield_of rfl (congrArg Value.bool hc29813)) rfl (Exec.move (v := Value.int .i64 ((IntKind.i64.wrap two5.a1).tmod (IntKind.i64.wrap (1 + ((IntKind.i64.wrap n1).tmod 8))))) rfl p29766 ?_)
                          refine WL_run rfl (yield_of rfl (congrArg Value.bool hc29813)) rfl (Exec.move (v := Value.int .i64 (y29779)) rfl rfl ?_)
                          refine WL_run rfl (yield_of rfl (congrArg Value.bool hc29813)) rfl (Exec.build rfl (parts_cons (c := [Value.int .i64 ((IntKind.i64.wrap two5.a0).tmod (IntKind.i64.wrap (1 + ((IntKind.i64.wrap n1).tmod 8))))]) (cells_of rfl rfl) (parts_cons (c := [Value.int .i64 ((IntKind.i64.wrap two5.a1).tmod (IntKind.i64.wrap (1 + ((IntKind.i64.wrap n1).tmod 8))))]) (cells_of rfl rfl) (parts_cons (c := [Value.int .i64 (y29779)]) (cells_of rfl rfl) parts_nil))) (v := Value.agg #[Value.int .i64 ((IntKind.i64.wrap two5.a0).tmod (IntKind.i64.wrap (1 + ((IntKind.i64.wrap n1).tmod 8)))), Value.int .i64 ((IntKind.i64.wrap two5.a1).tmod (IntKind.i64.wrap (1 + ((IntKind.i64.wrap n1).tmod 8)))), Value.int .i64 (y29779)]) (fun _ => by kernel_rfl) ?_)
                          obtain ⟨t29814, q29815, ht29810⟩ := bind_some ht29810
                          obtain ⟨y29816, l29817⟩ := t29814
                          replace ht29810 := un2_eq ht29810
                          have hS29818 := ((hS29786).f6).f6
                          have hS29819 := (hS29818).f6
                          refine WL_run rfl (yield_of rfl (congrArg Value.bool hc29813)) rfl (Exec.call rfl rfl Try.func14 rfl N14 (args_cons rfl (args_cons rfl args_nil)) ((stn_Network_Add_sim q29815 hS29819 ).mono ?_))
                          rintro _ w29820 ⟨_, rfl, ⟨s29821, l29822, hS29823, rfl⟩⟩
                          refine ⟨_, rfl, ?_⟩
                          refine WL_run rfl (yield_of rfl (congrArg Value.bool hc29813)) rfl (Exec.err_neq_nil (T := 30) Try.underlying26 rfl rfl rfl ?_)
                          refine WL_step rfl rfl (Exec.pick_t (v := Value.bool (y29816.isSome)) rfl (congrArg Value.bool hc29813) rfl ?_)
                          refine WL_nil (at_normal ?_)
                          have e29824 := Option.some.inj ht29810
                          subst t29809
                          have hS29825 := ((hS29823).f6).drop
                          have hS29826 := ((hS29825).f2).f2
                          have hS29827 := ((hS29826).f5).f5
                          have hS29828 := (hS29827).f4
                          have hS29829 := (hS29828).f5
                          exact ⟨s29821, l29822, hS29829, (Eq.trans (fr29753 7 rfl) p29525), (Eq.trans (fr29753 8 rfl) p29526), (Eq.trans (fr29753 10 rfl) p29527), rfl⟩
                        · replace hc29813 := not_true hc29813
                          refine WL_pass rfl (yield_of rfl (congrArg Value.bool hc29813)) rfl rfl ?_
                          refine WL_pass rfl (yield_of rfl (congrArg Value.bool hc29813)) rfl rfl ?_
                          refine WL_pass rfl (yield_of rfl (congrArg Value.bool hc29813)) rfl rfl ?_
                          refine WL_pass rfl (yield_of rfl (congrArg Value.bool hc29813)) rfl rfl ?_
                          refine WL_pass rfl (yield_of rfl (congrArg Value.bool hc29813)) rfl rfl ?_
                          refine WL_pass rfl (yield_of rfl (congrArg Value.bool hc29813)) rfl rfl ?_
                          refine WL_pass rfl (yield_of rfl (congrArg Value.bool hc29813)) rfl rfl ?_
                          refine WL_step rfl rfl (Exec.pick_f (v := Value.bool (false)) rfl (congrArg Value.bool hc29813) rfl ?_)
                          refine WL_nil (at_normal ?_)
                          have e29830 := Option.some.inj ht29810
                          subst t29809
                          have hS29831 := ((hS29786).f3).drop
                          have hS29832 := ((hS29831).f5).f5
                          have hS29833 := ((hS29832).f4).f4
                          have hS29834 := (hS29833).f5
                          have hS29835 := (hS29834).f5
                          exact ⟨s29784, (PHeap.le_refl _), hS29835, (Eq.trans (fr29753 7 rfl) p29525), (Eq.trans (fr29753 8 rfl) p29526), (Eq.trans (fr29753 10 rfl) p29527), rfl⟩
                      · replace hc29812 := not_true hc29812
                        refine WL_pass rfl (yield_of rfl (congrArg Value.bool hc29812)) rfl rfl ?_
                        refine WL_pass rfl (yield_of rfl (congrArg Value.bool hc29812)) rfl rfl ?_
                        refine WL_step rfl rfl (Exec.pick_f (v := Value.bool (false)) rfl (congrArg Value.bool hc29812) rfl ?_)
                        refine WL_step rfl rfl (Exec.move (v := Value.bool (false)) rfl rfl ?_)
                        refine WL_pass rfl (yield_of rfl rfl) rfl rfl ?_
                        refine WL_pass rfl (yield_of rfl rfl) rfl rfl ?_
                        refine WL_pass rfl (yield_of rfl rfl) rfl rfl ?_
                        refine WL_pass rfl (yield_of rfl rfl) rfl rfl ?_
                        refine WL_pass rfl (yield_of rfl rfl) rfl rfl ?_
                        refine WL_pass rfl (yield_of rfl rfl) rfl rfl ?_
                        refine WL_pass rfl (yield_of rfl rfl) rfl rfl ?_
                        refine WL_step rfl rfl (Exec.pick_f (v := Value.bool (false)) rfl rfl rfl ?_)
                        refine WL_nil (at_normal ?_)
                        have e29836 := Option.some.inj ht29810
                        subst t29809
                        have hS29837 := ((hS29786).f3).drop
                        have hS29838 := ((hS29837).f5).f5
                        have hS29839 := ((hS29838).f4).f4
                        have hS29840 := (hS29839).f5
                        have hS29841 := (hS29840).f5
                        exact ⟨s29784, (PHeap.le_refl _), hS29841, (Eq.trans (fr29753 7 rfl) p29525), (Eq.trans (fr29753 8 rfl) p29526), (Eq.trans (fr29753 10 rfl) p29527), rfl⟩
                    · intro f29842 w29843 hM29844
                      obtain ⟨z29807, l29808⟩ := t29809
                      replace hm := un2_eq hm
                      obtain ⟨s29845, l29846, hS29847, p29848, p29849, p29850, p29851⟩ := hM29844
                      refine (at_normal ?_)
                      rcases ite_some hm with ⟨hc29852, hm⟩ | ⟨hc29852, hm⟩
                      · refine W_cond_t p29851 hc29852 ?_
                        refine W_seq ?_
                        refine W_region ?_
                        refine WL_step rfl rfl (Exec.assign (v := Value.bool (false)) rfl rfl ?_)
                        refine WL_nil (at_normal ?_)
                        refine W_ret (at_ret ?_)
                        have e29854 := Option.some.inj hm
                        subst r
                        refine ⟨_, ret1 rfl, ?_⟩
                        have hS29855 := (hS29847).drop
                        have hS29856 := (hS29855).drop
                        have hS29857 := ((hS29856).drop).drop
                        have hS29858 := ((hS29857).drop).drop
                        exact ⟨s29845, (PHeap.le.trans (PHeap.le.trans (PHeap.le.trans (PHeap.le.trans (PHeap.le.trans (PHeap.le.trans l29202 l29252) l29294) l29521) l29751) l29785) l29846), hS29858, rfl⟩
                      · refine W_cond_f p29851 hc29852 ?_
                        replace hc29852 := not_true hc29852
                        refine W_skip (at_normal ?_)
                        refine W_seq ?_
                        refine W_seq ?_
                        refine W_region ?_
                        refine WL_step rfl rfl (Exec.move (v := Value.int .i64 (IntKind.i64.wrap (1 + ((IntKind.i64.wrap n1).tmod 8)))) rfl p29848 ?_)
                        refine WL_step rfl rfl (Exec.move (v := Value.int .i64 (0)) rfl rfl ?_)
                        refine WL_nil (at_normal ?_)
                        obtain ⟨u29859, q29860, hm⟩ := bind_some hm
                        obtain ⟨c30454, hB30455, hr30456, hn30457, hb30458⟩ := ctl_some hm
                        refine W_mid (M := fun f' w' => ∃ s', (c30454 = .next s' ∨ c30454 = .brk s') ∧ (fun (_ : Unit) => ∃ (s30460 : PHeap) , PHeap.le s29845 s30460 ∧ St w0 s30460 (Res.box v29254 63 [v29255] :: Res.box v29296 63 [v29297] :: Res.arr encRaw 49 v29255 v29256 :: Res.rows (encInt .i64) 3 v29256 d29250.d :: Res.arr encRaw 49 v29297 v29298 :: Res.rows (encInt .i64) 3 v29298 l29808 :: H) w' ∧ f' 7 = Value.int .i64 (IntKind.i64.wrap (1 + ((IntKind.i64.wrap n1).tmod 8))) ∧ f' 8 = Value.pointer (some ⟨v29254, 0, none⟩) ∧ f' 10 = Value.pointer (some ⟨v29296, 0, none⟩) ∧ f' 97 = Value.int .i64 (IntKind.i64.wrap (1 + ((IntKind.i64.wrap n1).tmod 8)))) s') ?_ ?_
                        · refine W_block (W_forC (fun k' s' f' w' => (fun (_ : Unit) => ∃ (s30459 : PHeap) , PHeap.le s29845 s30459 ∧ St w0 s30459 (Res.box v29254 63 [v29255] :: Res.box v29296 63 [v29297] :: Res.arr encRaw 49 v29255 v29256 :: Res.rows (encInt .i64) 3 v29256 d29250.d :: Res.arr encRaw 49 v29297 v29298 :: Res.rows (encInt .i64) 3 v29298 l29808 :: H) w' ∧ f' 7 = Value.int .i64 (IntKind.i64.wrap (1 + ((IntKind.i64.wrap n1).tmod 8))) ∧ f' 8 = Value.pointer (some ⟨v29254, 0, none⟩) ∧ f' 10 = Value.pointer (some ⟨v29296, 0, none⟩) ∧ f' 97 = Value.int .i64 (IntKind.i64.wrap (1 + ((IntKind.i64.wrap n1).tmod 8))) ∧ f' 98 = Value.int .i64 (k' : Int)) s') hB30455 ?_ ?_ ?_)
                          · have hS30461 := ((hS29847).f5).f5
                            have hS30462 := ((hS30461).f5).f5
                            have hS30463 := (hS30462).f5
                            have hS30464 := (hS30463).f5
                            exact ⟨s29845, (PHeap.le_refl _), hS30464, p29848, p29849, p29850, rfl, rfl⟩
                          · intro i29861 t30472 c30466 f30467 w30468 hi30473 hI30469 hm30470 hres30471
                            obtain ⟨s30474, l30475, hS30476, p30477, p30478, p30479, p30480, x30481⟩ := hI30469
                            refine W_seq ?_
                            refine W_region ?_
                            refine WL_step rfl rfl (Exec.lss rfl x30481 p30480 ?_)
                            refine WL_nil (at_normal ?_)
                            refine W_seq ?_
                            refine W_true (congrArg Value.bool (decide_eq_true (by omega))) ?_
                            refine W_skip (at_normal ?_)
                            refine W_seq ?_
                            refine W_block ?_
                            refine W_seq ?_
                            refine W_region ?_
                            refine WL_step rfl rfl (Exec.move (v := Value.int .i64 ((i29861 : Int))) rfl x30481 ?_)
                            refine WL_step rfl rfl (Exec.assign (v := Value.int .i64 ((i29861 : Int))) rfl rfl ?_)
                            refine WL_nil (at_normal ?_)
                            refine W_seq ?_
                            refine W_region ?_
                            refine WL_step rfl rfl (Exec.move (v := Value.int .i64 (IntKind.i64.wrap (1 + ((IntKind.i64.wrap n1).tmod 8)))) rfl p30477 ?_)
                            refine WL_step rfl rfl (Exec.move (v := Value.int .i64 (0)) rfl rfl ?_)
                            refine WL_nil (at_normal ?_)
                            obtain ⟨u30482, q30483, hm30470⟩ := bind_some hm30470
                            obtain ⟨c30633, hB30634, hr30635, hn30636, hb30637⟩ := ctl_some hm30470
                            refine W_mid (M := fun f' w' => ∃ s', (c30633 = .next s' ∨ c30633 = .brk s') ∧ (fun (_ : Unit) => ∃ (s30639 : PHeap) , PHeap.le s30474 s30639 ∧ St w0 s30639 (Res.box v29254 63 [v29255] :: Res.box v29296 63 [v29297] :: Res.arr encRaw 49 v29255 v29256 :: Res.rows (encInt .i64) 3 v29256 d29250.d :: Res.arr encRaw 49 v29297 v29298 :: Res.rows (encInt .i64) 3 v29298 l29808 :: H) w' ∧ f' 7 = Value.int .i64 (IntKind.i64.wrap (1 + ((IntKind.i64.wrap n1).tmod 8))) ∧ f' 8 = Value.pointer (some ⟨v29254, 0, none⟩) ∧ f' 10 = Value.pointer (some ⟨v29296, 0, none⟩) ∧ f' 16 = Value.int .i64 ((i29861 : Int)) ∧ f' 97 = Value.int .i64 (IntKind.i64.wrap (1 + ((IntKind.i64.wrap n1).tmod 8))) ∧ f' 98 = Value.int .i64 ((i29861 : Int)) ∧ f' 101 = Value.int .i64 (IntKind.i64.wrap (1 + ((IntKind.i64.wrap n1).tmod 8)))) s') ?_ ?_
                            · refine W_block (W_forC (fun k' s' f' w' => (fun (_ : Unit) => ∃ (s30638 : PHeap) , PHeap.le s30474 s30638 ∧ St w0 s30638 (Res.box v29254 63 [v29255] :: Res.box v29296 63 [v29297] :: Res.arr encRaw 49 v29255 v29256 :: Res.rows (encInt .i64) 3 v29256 d29250.d :: Res.arr encRaw 49 v29297 v29298 :: Res.rows (encInt .i64) 3 v29298 l29808 :: H) w' ∧ f' 7 = Value.int .i64 (IntKind.i64.wrap (1 + ((IntKind.i64.wrap n1).tmod 8))) ∧ f' 8 = Value.pointer (some ⟨v29254, 0, none⟩) ∧ f' 10 = Value.pointer (some ⟨v29296, 0, none⟩) ∧ f' 16 = Value.int .i64 ((i29861 : Int)) ∧ f' 97 = Value.int .i64 (IntKind.i64.wrap (1 + ((IntKind.i64.wrap n1).tmod 8))) ∧ f' 98 = Value.int .i64 ((i29861 : Int)) ∧ f' 101 = Value.int .i64 (IntKind.i64.wrap (1 + ((IntKind.i64.wrap n1).tmod 8))) ∧ f' 102 = Value.int .i64 (k' : Int)) s') hB30634 ?_ ?_ ?_)
                              · have hS30640 := ((hS30476).f5).f5
                                have hS30641 := ((hS30640).f5).f5
                                have hS30642 := (hS30641).f5
                                have hS30643 := (hS30642).f5
                                exact ⟨s30474, (PHeap.le_refl _), hS30643, p30477, p30478, p30479, rfl, p30480, x30481, rfl, rfl⟩
                              · intro i30484 t30651 c30645 f30646 w30647 hi30652 hI30648 hm30649 hres30650
                                obtain ⟨s30653, l30654, hS30655, p30656, p30657, p30658, p30659, p30660, p30661, p30662, x30663⟩ := hI30648
                                refine W_seq ?_
                                refine W_region ?_
                                refine WL_step rfl rfl (Exec.lss rfl x30663 p30662 ?_)
                                refine WL_nil (at_normal ?_)
                                refine W_seq ?_
                                refine W_true (congrArg Value.bool (decide_eq_true (by omega))) ?_
                                refine W_skip (at_normal ?_)
                                refine W_seq ?_
                                refine W_block ?_
                                refine W_seq ?_
                                refine W_region ?_
                                refine WL_step rfl rfl (Exec.move (v := Value.int .i64 ((i30484 : Int))) rfl x30663 ?_)
                                refine WL_step rfl rfl (Exec.assign (v := Value.int .i64 ((i30484 : Int))) rfl rfl ?_)
                                refine WL_nil (at_normal ?_)
                                refine W_seq ?_
                                refine W_region ?_
                                refine WL_step rfl rfl (Exec.move (v := Value.pointer (some ⟨v29254, 0, none⟩)) rfl p30657 ?_)
                                refine WL_step rfl rfl (Exec.move (v := Value.int .i64 ((i29861 : Int))) rfl p30659 ?_)
                                refine WL_step rfl rfl (Exec.move (v := Value.int .i64 ((i30484 : Int))) rfl rfl ?_)
                                obtain ⟨t30674, q30675, hm30649⟩ := bind_some hm30649
                                obtain ⟨y30676, y30677⟩ := t30674
                                replace hm30649 := un2_eq hm30649
                                have hS30678 := ((hS30655).f3).f3
                                have hS30679 := (hS30678).f2
                                refine WL_step rfl rfl (Exec.call rfl rfl Try.func15 rfl N15 (args_cons rfl (args_cons rfl (args_cons rfl args_nil))) ((stn_Network_Distance_sim q30675 hS30679 ).mono ?_))
                                rintro _ w30680 ⟨_, rfl, ⟨s30681, l30682, hS30683, rfl⟩⟩
                                refine ⟨_, rfl, ?_⟩
                                refine WL_step rfl rfl (Exec.move (v := Value.tuple #[Value.int .i64 (y30676), errV 30 (y30677)]) rfl rfl ?_)
                                refine WL_step rfl rfl (Exec.extract (v := Value.int .i64 (y30676)) rfl rfl rfl ?_)
                                refine WL_step rfl rfl (Exec.extract (v := errV 30 (y30677)) rfl rfl rfl ?_)
                                refine WL_step rfl rfl (Exec.assign (v := Value.int .i64 (y30676)) rfl rfl ?_)
                                refine WL_step rfl rfl (Exec.assign (v := errV 30 (y30677)) rfl rfl ?_)
                                refine WL_nil (at_normal ?_)
                                refine W_seq ?_
                                refine W_region ?_
                                refine WL_step rfl rfl (Exec.move (v := Value.pointer (some ⟨v29296, 0, none⟩)) rfl p30658 ?_)
                                refine WL_step rfl rfl (Exec.move (v := Value.int .i64 ((i29861 : Int))) rfl p30659 ?_)
                                refine WL_step rfl rfl (Exec.move (v := Value.int .i64 ((i30484 : Int))) rfl rfl ?_)
                                obtain ⟨t30694, q30695, hm30649⟩ := bind_some hm30649
                                obtain ⟨y30696, y30697⟩ := t30694
                                replace hm30649 := un2_eq hm30649
                                have hS30698 := ((hS30683).f5).f5
                                have hS30699 := (hS30698).f5
                                refine WL_step rfl rfl (Exec.call rfl rfl Try.func15 rfl N15 (args_cons rfl (args_cons rfl (args_cons rfl args_nil))) ((stn_Network_Distance_sim q30695 hS30699 ).mono ?_))
                                rintro _ w30700 ⟨_, rfl, ⟨s30701, l30702, hS30703, rfl⟩⟩
                                refine ⟨_, rfl, ?_⟩
                                refine WL_step rfl rfl (Exec.move (v := Value.tuple #[Value.int .i64 (y30696), errV 30 (y30697)]) rfl rfl ?_)
                                refine WL_step rfl rfl (Exec.extract (v := Value.int .i64 (y30696)) rfl rfl rfl ?_)
                                refine WL_step rfl rfl (Exec.extract (v := errV 30 (y30697)) rfl rfl rfl ?_)
                                refine WL_step rfl rfl (Exec.assign (v := Value.int .i64 (y30696)) rfl rfl ?_)
                                refine WL_step rfl rfl (Exec.assign (v := errV 30 (y30697)) rfl rfl ?_)
                                refine WL_nil (at_normal ?_)
                                refine W_seq ?_
                                refine W_mid (M := fun f' w' => ∃ (s30706 : PHeap) , PHeap.le s30701 s30706 ∧ St w0 s30706 (Res.box v29254 63 [v29255] :: Res.box v29296 63 [v29297] :: Res.arr encRaw 49 v29255 v29256 :: Res.rows (encInt .i64) 3 v29256 d29250.d :: Res.arr encRaw 49 v29297 v29298 :: Res.rows (encInt .i64) 3 v29298 l29808 :: H) w' ∧ f' 7 = Value.int .i64 (IntKind.i64.wrap (1 + ((IntKind.i64.wrap n1).tmod 8))) ∧ f' 8 = Value.pointer (some ⟨v29254, 0, none⟩) ∧ f' 10 = Value.pointer (some ⟨v29296, 0, none⟩) ∧ f' 16 = Value.int .i64 ((i29861 : Int)) ∧ f' 97 = Value.int .i64 (IntKind.i64.wrap (1 + ((IntKind.i64.wrap n1).tmod 8))) ∧ f' 98 = Value.int .i64 ((i29861 : Int)) ∧ f' 101 = Value.int .i64 (IntKind.i64.wrap (1 + ((IntKind.i64.wrap n1).tmod 8))) ∧ f' 102 = Value.int .i64 ((i30484 : Int)) ∧ f' 129 = Value.bool ((y30677.isSome || (y30697.isSome || !decide (y30676 = y30696))))) ?_ ?_
                                · refine W_region ?_
                                  refine WL_step rfl rfl (Exec.move (v := errV 30 (y30677)) rfl rfl ?_)
                                  refine WL_step rfl rfl (Exec.err_neq_nil (T := 30) Try.underlying26 rfl rfl rfl ?_)
                                  refine WL_step rfl rfl (Exec.move (v := Value.bool (y30677.isSome)) rfl rfl ?_)
                                  by_cases hc30707 : y30677.isSome = true
                                  · refine WL_pass rfl (yield_of rfl (congrArg Value.bool hc30707)) rfl rfl ?_
                                    refine WL_pass rfl (yield_of rfl (congrArg Value.bool hc30707)) rfl rfl ?_
                                    refine WL_step rfl rfl (Exec.pick_t (v := Value.bool (true)) rfl (congrArg Value.bool hc30707) rfl ?_)
                                    refine WL_step rfl rfl (Exec.move (v := Value.bool (true)) rfl rfl ?_)
                                    refine WL_pass rfl (yield_of rfl rfl) rfl rfl ?_
                                    refine WL_pass rfl (yield_of rfl rfl) rfl rfl ?_
                                    refine WL_pass rfl (yield_of rfl rfl) rfl rfl ?_
                                    refine WL_step rfl rfl (Exec.pick_t (v := Value.bool (true)) rfl rfl rfl ?_)
                                    refine WL_nil (at_normal ?_)
                                    have hS30708 := ((hS30703).f2).f2
                                    have hS30709 := ((hS30708).f5).f5
                                    have hS30710 := (hS30709).f4
                                    have hS30711 := (hS30710).f5
                                    exact ⟨s30701, (PHeap.le_refl _), hS30711, p30656, p30657, p30658, p30659, p30660, p30661, p30662, x30663, (congrArg Value.bool (or_t hc30707)).symm⟩
                                  · replace hc30707 := not_true hc30707
                                    refine WL_run rfl (yield_of rfl (congrArg Value.bool hc30707)) rfl (Exec.move (v := errV 30 (y30697)) rfl rfl ?_)
                                    refine WL_run rfl (yield_of rfl (congrArg Value.bool hc30707)) rfl (Exec.err_neq_nil (T := 30) Try.underlying26 rfl rfl rfl ?_)
                                    refine WL_step rfl rfl (Exec.pick_f (v := Value.bool (y30697.isSome)) rfl (congrArg Value.bool hc30707) rfl ?_)
                                    refine WL_step rfl rfl (Exec.move (v := Value.bool (y30697.isSome)) rfl rfl ?_)
                                    by_cases hc30712 : y30697.isSome = true
                                    · refine WL_pass rfl (yield_of rfl (congrArg Value.bool hc30712)) rfl rfl ?_
                                      refine WL_pass rfl (yield_of rfl (congrArg Value.bool hc30712)) rfl rfl ?_
                                      refine WL_pass rfl (yield_of rfl (congrArg Value.bool hc30712)) rfl rfl ?_
                                      refine WL_step rfl rfl (Exec.pick_t (v := Value.bool (true)) rfl (congrArg Value.bool hc30712) rfl ?_)
                                      refine WL_nil (at_normal ?_)
                                      have hS30713 := ((hS30703).f2).f2
                                      have hS30714 := ((hS30713).f5).f5
                                      have hS30715 := (hS30714).f4
                                      have hS30716 := (hS30715).f5
                                      exact ⟨s30701, (PHeap.le_refl _), hS30716, p30656, p30657, p30658, p30659, p30660, p30661, p30662, x30663, (congrArg Value.bool (Eq.trans (or_f hc30707) (or_t hc30712))).symm⟩
                                    · replace hc30712 := not_true hc30712
                                      refine WL_run rfl (yield_of rfl (congrArg Value.bool hc30712)) rfl (Exec.move (v := Value.int .i64 (y30676)) rfl rfl ?_)
                                      refine WL_run rfl (yield_of rfl (congrArg Value.bool hc30712)) rfl (Exec.move (v := Value.int .i64 (y30696)) rfl rfl ?_)
                                      refine WL_run rfl (yield_of rfl (congrArg Value.bool hc30712)) rfl (Exec.neq rfl rfl rfl ?_)
                                      refine WL_step rfl rfl (Exec.pick_f (v := Value.bool (!decide (y30676 = y30696))) rfl (congrArg Value.bool hc30712) rfl ?_)
                                      refine WL_nil (at_normal ?_)
                                      have hS30717 := ((hS30703).f2).f2
                                      have hS30718 := ((hS30717).f5).f5
                                      have hS30719 := (hS30718).f4
                                      have hS30720 := (hS30719).f5
                                      exact ⟨s30701, (PHeap.le_refl _), hS30720, p30656, p30657, p30658, p30659, p30660, p30661, p30662, x30663, (congrArg Value.bool (Eq.trans (or_f hc30707) (or_f hc30712))).symm⟩
                                · intro f30721 w30722 hM30723
                                  obtain ⟨s30724, l30725, hS30726, p30727, p30728, p30729, p30730, p30731, p30732, p30733, p30734, p30735⟩ := hM30723
                                  refine (at_normal ?_)
                                  rcases ite_some hm30649 with ⟨hc30736, hm30649⟩ | ⟨hc30736, hm30649⟩
                                  · refine W_cond_t p30735 hc30736 ?_
                                    refine W_seq ?_
                                    refine W_region ?_
                                    refine WL_step rfl rfl (Exec.assign (v := Value.bool (false)) rfl rfl ?_)
                                    refine WL_nil (at_normal ?_)
                                    refine W_ret (ib_ret (at_ret (at_ret (ib_ret (at_ret (ib_ret (at_ret (at_ret (ib_ret (at_ret (at_ret ?_)))))))))))
                                    have e30737 := Option.some.inj hm30649
                                    subst c30645
                                    have hq30738 := hr30635 _ (hres30650 (by intro _ h; cases h))
                                    have e30739 := Option.some.inj hq30738
                                    subst c30466
                                    have hq30740 := hr30456 _ (hres30471 (by intro _ h; cases h))
                                    have e30741 := Option.some.inj hq30740
                                    subst r
                                    refine ⟨_, ret1 rfl, ?_⟩
                                    have hS30742 := (hS30726).drop
                                    have hS30743 := (hS30742).drop
                                    have hS30744 := ((hS30743).drop).drop
                                    have hS30745 := ((hS30744).drop).drop
                                    exact ⟨s30724, (PHeap.le.trans (PHeap.le.trans (PHeap.le.trans (PHeap.le.trans (PHeap.le.trans (PHeap.le.trans (PHeap.le.trans (PHeap.le.trans (PHeap.le.trans (PHeap.le.trans (PHeap.le.trans l29202 l29252) l29294) l29521) l29751) l29785) l29846) l30475) l30654) l30682) l30702) l30725), hS30745, rfl⟩
                                  · refine W_cond_f p30735 hc30736 ?_
                                    replace hc30736 := not_true hc30736
                                    refine W_skip (ib_normal (at_normal ?_))
                                    refine W_region ?_
                                    refine WL_step rfl rfl (Exec.add rfl p30734 rfl ?_)
                                    refine WL_step rfl rfl (Exec.move (v := Value.int .i64 (IntKind.i64.wrap ((i30484 : Int) + 1))) rfl rfl ?_)
                                    refine WL_nil (at_normal ?_)
                                    have e30746 := Option.some.inj hm30649
                                    subst c30645
                                    have hS30747 := ((hS30726).f5).f5
                                    have hS30748 := ((hS30747).f5).f5
                                    have hS30749 := (hS30748).f5
                                    have hS30750 := (hS30749).f5
                                    refine ⟨_, rfl, ?_⟩; exact ⟨s30724, (PHeap.le.trans (PHeap.le.trans (PHeap.le.trans l30654 l30682) l30702) l30725), hS30750, p30727, p30728, p30729, p30730, p30731, p30732, p30733, (Eq.trans rfl (wrap_up hi30652 (by have h := must_some q30483; simp at h; simp only [maxLen]; omega)))⟩
                              · intro t30751 f30752 w30753 hI30754 hres30755
                                obtain ⟨s30756, l30757, hS30758, p30759, p30760, p30761, p30762, p30763, p30764, p30765, x30766⟩ := hI30754
                                refine W_seq ?_
                                refine W_region ?_
                                refine WL_step rfl rfl (Exec.lss rfl x30766 p30765 ?_)
                                refine WL_nil (at_normal ?_)
                                refine W_seq ?_
                                refine W_false (congrArg Value.bool (decide_eq_false (by omega))) ?_
                                refine W_exit (at_exit (at_exit (ib_here (at_normal ?_))))
                                have hS30767 := ((hS30758).f5).f5
                                have hS30768 := ((hS30767).f5).f5
                                have hS30769 := (hS30768).f5
                                have hS30770 := (hS30769).f5
                                refine ⟨_, .inl hres30755, ?_⟩; exact ⟨s30756, l30757, hS30770, p30759, p30760, p30761, p30762, p30763, p30764, p30765⟩
                            · rintro f30771 w30772 ⟨t30773, hc30774, hM30775⟩
                              have hm30470 := hc30774.elim (hn30636 _) (hb30637 _)
                              clear hc30774
                              obtain ⟨s30776, l30777, hS30778, p30779, p30780, p30781, p30782, p30783, p30784, p30785⟩ := hM30775
                              refine (ib_normal (at_normal ?_))
                              refine W_region ?_
                              refine WL_step rfl rfl (Exec.add rfl p30784 rfl ?_)
                              refine WL_step rfl rfl (Exec.move (v := Value.int .i64 (IntKind.i64.wrap ((i29861 : Int) + 1))) rfl rfl ?_)
                              refine WL_nil (at_normal ?_)
                              have e30786 := Option.some.inj hm30470
                              subst c30466
                              have hS30787 := ((hS30778).f5).f5
                              have hS30788 := ((hS30787).f5).f5
                              have hS30789 := (hS30788).f5
                              have hS30790 := (hS30789).f5
                              refine ⟨_, rfl, ?_⟩; exact ⟨s30776, (PHeap.le.trans l30475 l30777), hS30790, p30779, p30780, p30781, p30783, (Eq.trans rfl (wrap_up hi30473 (by have h := must_some q29860; simp at h; simp only [maxLen]; omega)))⟩
                          · intro t30791 f30792 w30793 hI30794 hres30795
                            obtain ⟨s30796, l30797, hS30798, p30799, p30800, p30801, p30802, x30803⟩ := hI30794
                            refine W_seq ?_
                            refine W_region ?_
                            refine WL_step rfl rfl (Exec.lss rfl x30803 p30802 ?_)
                            refine WL_nil (at_normal ?_)
                            refine W_seq ?_
                            refine W_false (congrArg Value.bool (decide_eq_false (by omega))) ?_
                            refine W_exit (at_exit (at_exit (ib_here (at_normal ?_))))
                            have hS30804 := ((hS30798).f5).f5
                            have hS30805 := ((hS30804).f5).f5
                            have hS30806 := (hS30805).f5
                            have hS30807 := (hS30806).f5
                            refine ⟨_, .inl hres30795, ?_⟩; exact ⟨s30796, l30797, hS30807, p30799, p30800, p30801, p30802⟩
                        · rintro f30808 w30809 ⟨t30810, hc30811, hM30812⟩
                          have hm := hc30811.elim (hn30457 _) (hb30458 _)
                          clear hc30811
                          obtain ⟨s30813, l30814, hS30815, p30816, p30817, p30818, p30819⟩ := hM30812
                          refine (at_normal ?_)
                          refine W_seq ?_
                          refine W_region ?_
                          refine WL_step rfl rfl (Exec.assign (v := Value.bool (true)) rfl rfl ?_)
                          refine WL_nil (at_normal ?_)
                          refine W_ret ?_
                          have e30821 := Option.some.inj hm
                          subst r
                          refine ⟨_, ret1 rfl, ?_⟩
                          have hS30822 := (hS30815).drop
                          have hS30823 := (hS30822).drop
                          have hS30824 := ((hS30823).drop).drop
                          have hS30825 := ((hS30824).drop).drop
                          exact ⟨s30813, (PHeap.le.trans (PHeap.le.trans (PHeap.le.trans (PHeap.le.trans (PHeap.le.trans (PHeap.le.trans (PHeap.le.trans l29202 l29252) l29294) l29521) l29751) l29785) l29846) l30814), hS30825, rfl⟩
          · replace hm := optC_none hm
            refine WL_step rfl rfl (Exec.move (v := Value.tuple #[Value.pointer none, errV 30 (y29289)]) rfl rfl ?_)
            refine WL_step rfl rfl (Exec.extract (v := Value.pointer none) rfl rfl rfl ?_)
            refine WL_step rfl rfl (Exec.extract (v := errV 30 (y29289)) rfl rfl rfl ?_)
            refine WL_step rfl rfl (Exec.assign (v := Value.pointer none) rfl rfl ?_)
            refine WL_step rfl rfl (Exec.assign (v := errV 30 (y29289)) rfl rfl ?_)
            refine WL_nil (at_normal ?_)
            refine W_seq ?_
            refine W_seq ?_
            refine W_region ?_
            refine WL_step rfl rfl (Exec.move (v := errV 30 (y29289)) rfl rfl ?_)
            refine WL_step rfl rfl (Exec.err_neq_nil (T := 30) Try.underlying26 rfl rfl rfl ?_)
            refine WL_nil (at_normal ?_)
            rcases ite_some hm with ⟨hc30826, hm⟩ | ⟨hc30826, hm⟩
            · refine W_cond_t rfl hc30826 ?_
              refine W_seq ?_
              refine W_region ?_
              refine WL_step rfl rfl (Exec.assign (v := Value.bool (false)) rfl rfl ?_)
              refine WL_nil (at_normal ?_)
              refine W_ret (at_ret ?_)
              have e30828 := Option.some.inj hm
              subst r
              refine ⟨_, ret1 rfl, ?_⟩
              have hS30829 := (hS29302).drop
              have hS30830 := ((hS30829).drop).drop
              have hS30831 := (hS30830).drop
              exact ⟨s29300, (PHeap.le.trans (PHeap.le.trans l29202 l29252) l29301), hS30831, rfl⟩
            · refine W_cond_f rfl hc30826 ?_
              replace hc30826 := not_true hc30826
              refine W_skip (at_normal ?_)
              refine W_seq ?_
              refine W_seq ?_
              refine W_region ?_
              refine WL_step rfl rfl (Exec.move (v := v3) rfl p29205 ?_)
              refine WL_step rfl rfl (Exec.len_rep S22 rfl rfl (a4.mono (PHeap.le.trans (PHeap.le.trans l29202 l29252) l29301)) ?_)
              refine WL_step rfl rfl (Exec.sub rfl rfl rfl ?_)
              refine WL_step rfl rfl (Exec.assign (v := Value.int .i64 (IntKind.i64.wrap ((bounds2.length : Int) - 1))) rfl rfl ?_)
              refine WL_nil (at_normal ?_)
              obtain ⟨c30910, hB30911, hr30912, hn30913, hb30914⟩ := ctl_some hm
              refine W_mid (M := fun f' w' => ∃ s', (c30910 = .next s' ∨ c30910 = .brk s') ∧ (fun (i30909 : Int) => ∃ (s30916 : PHeap) , PHeap.le s29300 s30916 ∧ St w0 s30916 (Res.box b29174 42 [Value.int .u8 (two5.a0), Value.int .u8 (two5.a1)] :: Res.box v29254 63 [v29255] :: Res.arr encRaw 49 v29255 v29256 :: Res.rows (encInt .i64) 3 v29256 d29250.d :: H) w' ∧ f' 1 = v3 ∧ f' 5 = Value.pointer (some ⟨b29174, 0, none⟩) ∧ f' 7 = Value.int .i64 (IntKind.i64.wrap (1 + ((IntKind.i64.wrap n1).tmod 8))) ∧ f' 8 = Value.pointer (some ⟨v29254, 0, none⟩) ∧ f' 10 = Value.pointer none ∧ f' 12 = Value.int .i64 (i30909)) s') ?_ ?_
              · refine W_block (W_while (fun s' f' w' => (fun (i30857 : Int) => ∃ (s30915 : PHeap) , PHeap.le s29300 s30915 ∧ St w0 s30915 (Res.box b29174 42 [Value.int .u8 (two5.a0), Value.int .u8 (two5.a1)] :: Res.box v29254 63 [v29255] :: Res.arr encRaw 49 v29255 v29256 :: Res.rows (encInt .i64) 3 v29256 d29250.d :: H) w' ∧ f' 1 = v3 ∧ f' 5 = Value.pointer (some ⟨b29174, 0, none⟩) ∧ f' 7 = Value.int .i64 (IntKind.i64.wrap (1 + ((IntKind.i64.wrap n1).tmod 8))) ∧ f' 8 = Value.pointer (some ⟨v29254, 0, none⟩) ∧ f' 10 = Value.pointer none ∧ f' 12 = Value.int .i64 (i30857)) s') hB30911 ?_ ?_)
                · have hS30917 := ((hS29302).f2).f2
                  have hS30918 := (hS30917).f2
                  have hS30919 := (hS30918).f3
                  exact ⟨s29300, (PHeap.le_refl _), hS30919, p29205, p29206, rfl, rfl, rfl, rfl⟩
                · intro i30857 c30921 f30922 w30923 hI30924 hm30925 hres30926
                  obtain ⟨s30927, l30928, hS30929, p30930, p30931, p30932, p30933, p30934, p30935⟩ := hI30924
                  refine W_seq ?_
                  refine W_seq ?_
                  refine W_region ?_
                  refine WL_step rfl rfl (Exec.move (v := Value.int .i64 (i30857)) rfl p30935 ?_)
                  refine WL_step rfl rfl (Exec.geq rfl rfl rfl ?_)
                  refine WL_nil (at_normal ?_)
                  rcases ite_some hm30925 with ⟨hc30936, hm30925⟩ | ⟨hc30936, hm30925⟩
                  · refine W_cond_t rfl hc30936 ?_
                    refine W_skip (at_normal ?_)
                    refine W_seq ?_
                    refine W_block ?_
                    refine W_seq ?_
                    refine W_region ?_
                    refine WL_step rfl rfl (Exec.move (v := Value.pointer none) rfl p30934 ?_)
                    refine WL_step rfl rfl (Exec.move (v := v3) rfl p30930 ?_)
                    refine WL_step rfl rfl (Exec.move (v := Value.int .i64 (i30857)) rfl p30935 ?_)
                    obtain ⟨x30948, q30949, hm30925⟩ := bind_some hm30925
                    refine WL_step rfl rfl (Exec.index_rep S22 rfl rfl rfl (a4.mono (PHeap.le.trans (PHeap.le.trans (PHeap.le.trans l29202 l29252) l29301) l30928)) q30949 ?_)
                    intro b30950 o30951 a30952
                    refine WL_step rfl rfl (Exec.load_at (E := encBound) hS30929 A32 rfl rfl rfl a30952 ?_)
                    intro v30953 q30954
                    obtain rfl := encBound_val.1 q30954
                    refine WL_step rfl rfl (Exec.call rfl rfl Try.func14 rfl N14 (args_cons rfl (args_cons rfl args_nil)) ((stn_Network_Add_nil_sim (stn_Network_Add_nil_tot x30948) hS30929 ).mono ?_))
                    rintro _ w30955 ⟨_, rfl, ⟨s30956, l30957, hS30958, rfl⟩⟩
                    refine ⟨_, rfl, ?_⟩
                    refine WL_step rfl rfl (Exec.err_neq_nil (T := 30) Try.underlying26 rfl rfl rfl ?_)
                    refine WL_nil (at_normal ?_)
                    rcases ite_some hm30925 with ⟨hc30959, hm30925⟩ | ⟨hc30959, hm30925⟩
                    · refine W_cond_t rfl hc30959 ?_
                      refine W_seq ?_
                      refine W_region ?_
                      refine WL_step rfl rfl (Exec.assign (v := Value.bool (false)) rfl rfl ?_)
                      refine WL_nil (at_normal ?_)
                      refine W_ret (ib_ret (at_ret (at_ret (ib_ret (at_ret (at_ret ?_))))))
                      have e30960 := Option.some.inj hm30925
                      subst c30921
                      have hq30961 := hr30912 _ (hres30926 (by intro _ h; cases h))
                      have e30962 := Option.some.inj hq30961
                      subst r
                      refine ⟨_, ret1 rfl, ?_⟩
                      have hS30963 := (hS30958).drop
                      have hS30964 := (hS30963).drop
                      have hS30965 := ((hS30964).drop).drop
                      exact ⟨s30956, (PHeap.le.trans (PHeap.le.trans (PHeap.le.trans (PHeap.le.trans l29202 l29252) l29301) l30928) l30957), hS30965, rfl⟩
                    · refine W_cond_f rfl hc30959 ?_
                      replace hc30959 := not_true hc30959
                      refine W_skip (ib_normal (at_normal ?_))
                      refine W_region ?_
                      refine WL_step rfl rfl (Exec.move (v := Value.int .i64 (i30857)) rfl p30935 ?_)
                      refine WL_step rfl rfl (Exec.sub rfl rfl rfl ?_)
                      refine WL_step rfl rfl (Exec.assign (v := Value.int .i64 (IntKind.i64.wrap (i30857 - 1))) rfl rfl ?_)
                      refine WL_nil (at_normal ?_)
                      have e30966 := Option.some.inj hm30925
                      subst c30921
                      have hS30967 := ((hS30958).f3).f3
                      have hS30968 := (hS30967).f3
                      have hS30969 := (hS30968).f3
                      refine ⟨_, rfl, ?_⟩; exact ⟨s30956, (PHeap.le.trans l30928 l30957), hS30969, p30930, p30931, p30932, p30933, p30934, rfl⟩
                  · refine W_cond_f rfl hc30936 ?_
                    replace hc30936 := not_true hc30936
                    refine W_exit (at_exit (at_exit (ib_here (at_normal ?_))))
                    have e30970 := Option.some.inj hm30925
                    subst c30921
                    have hS30971 := ((hS30929).f3).f3
                    have hS30972 := (hS30971).f3
                    have hS30973 := (hS30972).f3
                    refine ⟨_, .inr (hres30926 (by intro _ h; cases h)), ?_⟩; exact ⟨s30927, l30928, hS30973, p30930, p30931, p30932, p30933, p30934, p30935⟩
              · rintro f30974 w30975 ⟨i30909, hc30976, hM30977⟩
                have hm := hc30976.elim (hn30913 _) (hb30914 _)
                clear hc30976
                obtain ⟨s30978, l30979, hS30980, p30981, p30982, p30983, p30984, p30985, p30986⟩ := hM30977
                refine (at_normal ?_)
                refine W_seq ?_
                obtain ⟨u31110, q31111, hm⟩ := bind_some hm
                refine W_drawn (n0 := 12) hmix (by kernel_rfl) [RP.eq (Value.pointer (some ⟨b29174, 0, none⟩)), RP.eq (Value.int .u8 (two5.a0)), RP.eq (Value.int .i64 (IntKind.i64.wrap two5.a0)), RP.eq (Value.int .i64 (IntKind.i64.wrap (1 + ((IntKind.i64.wrap n1).tmod 8)))), RP.eq (Value.int .i64 ((IntKind.i64.wrap two5.a0).tmod (IntKind.i64.wrap (1 + ((IntKind.i64.wrap n1).tmod 8))))), RP.eq (Value.pointer (some ⟨b29174, 1, none⟩)), RP.eq (Value.int .u8 (two5.a1)), RP.eq (Value.int .i64 (IntKind.i64.wrap two5.a1)), RP.eq (Value.int .i64 (IntKind.i64.wrap (1 + ((IntKind.i64.wrap n1).tmod 8)))), RP.eq (Value.int .i64 ((IntKind.i64.wrap two5.a1).tmod (IntKind.i64.wrap (1 + ((IntKind.i64.wrap n1).tmod 8))))), RP.eq (Value.int .i64 ((IntKind.i64.wrap two5.a0).tmod (IntKind.i64.wrap (1 + ((IntKind.i64.wrap n1).tmod 8))))), RP.eq (Value.int .i64 ((IntKind.i64.wrap two5.a1).tmod (IntKind.i64.wrap (1 + ((IntKind.i64.wrap n1).tmod 8)))))] hS30980 (HeadAll.cons ?_ (HeadAll.cons ?_ (HeadAll.cons ?_ (HeadAll.cons ?_ (HeadAll.cons ?_ (HeadAll.cons ?_ (HeadAll.cons ?_ (HeadAll.cons ?_ (HeadAll.cons ?_ (HeadAll.cons ?_ (HeadAll.cons ?_ (HeadAll.cons ?_ (HeadAll.nil))))))))))))) ?_
                · intro g31112 s31113 w31114 l31115 hS31116 fr31117 pre31118
                  refine head_run rfl (Exec.index_parr Try.underlying42 A5 rfl (Eq.trans (fr31117 5 rfl) p30982) rfl (by decide) rfl ?_)
                  exact head_done hS31116 rfl
                · intro g31119 s31120 w31121 l31122 hS31123 fr31124 pre31125
                  have p31126 : g31119 63 = (Value.pointer (some ⟨b29174, 0, none⟩)) := pre31125 0 _ rfl rfl
                  refine head_run rfl (Exec.load_box (hS31123) A5 rfl p31126 rfl ?_)
                  exact head_done hS31123 rfl
                · intro g31127 s31128 w31129 l31130 hS31131 fr31132 pre31133
                  have p31134 : g31127 64 = (Value.int .u8 (two5.a0)) := pre31133 0 _ rfl rfl
                  refine head_run rfl (Exec.convert_int (by rw [Try.underlying5]; rfl) Try.underlying3 rfl p31134 ?_)
                  exact head_done hS31131 rfl
                · intro g31135 s31136 w31137 l31138 hS31139 fr31140 pre31141
                  refine head_run rfl (Exec.move (v := Value.int .i64 (IntKind.i64.wrap (1 + ((IntKind.i64.wrap n1).tmod 8)))) rfl (Eq.trans (fr31140 7 rfl) p30983) ?_)
                  exact head_done hS31139 rfl
                · intro g31142 s31143 w31144 l31145 hS31146 fr31147 pre31148
                  have p31149 : g31142 65 = (Value.int .i64 (IntKind.i64.wrap two5.a0)) := pre31148 0 _ rfl rfl
                  have p31150 : g31142 66 = (Value.int .i64 (IntKind.i64.wrap (1 + ((IntKind.i64.wrap n1).tmod 8)))) := pre31148 1 _ rfl rfl
                  refine head_run rfl (Exec.rem rfl p31149 p31150 (by simpa using must_some q31111) ?_)
                  exact head_done hS31146 rfl
                · intro g31151 s31152 w31153 l31154 hS31155 fr31156 pre31157
                  refine head_run rfl (Exec.index_parr Try.underlying42 A5 rfl (Eq.trans (fr31156 5 rfl) p30982) rfl (by decide) rfl ?_)
                  exact head_done hS31155 rfl
                · intro g31158 s31159 w31160 l31161 hS31162 fr31163 pre31164
                  have p31165 : g31158 68 = (Value.pointer (some ⟨b29174, 1, none⟩)) := pre31164 0 _ rfl rfl
                  refine head_run rfl (Exec.load_box (hS31162) A5 rfl p31165 rfl ?_)
                  exact head_done hS31162 rfl
                · intro g31166 s31167 w31168 l31169 hS31170 fr31171 pre31172
                  have p31173 : g31166 69 = (Value.int .u8 (two5.a1)) := pre31172 0 _ rfl rfl
                  refine head_run rfl (Exec.convert_int (by rw [Try.underlying5]; rfl) Try.underlying3 rfl p31173 ?_)
                  exact head_done hS31170 rfl
                · intro g31174 s31175 w31176 l31177 hS31178 fr31179 pre31180
                  refine head_run rfl (Exec.move (v := Value.int .i64 (IntKind.i64.wrap (1 + ((IntKind.i64.wrap n1).tmod 8)))) rfl (Eq.trans (fr31179 7 rfl) p30983) ?_)
                  exact head_done hS31178 rfl
                · intro g31181 s31182 w31183 l31184 hS31185 fr31186 pre31187
                  have p31188 : g31181 70 = (Value.int .i64 (IntKind.i64.wrap two5.a1)) := pre31187 0 _ rfl rfl
                  have p31189 : g31181 71 = (Value.int .i64 (IntKind.i64.wrap (1 + ((IntKind.i64.wrap n1).tmod 8)))) := pre31187 1 _ rfl rfl
                  refine head_run rfl (Exec.rem rfl p31188 p31189 (by simpa using must_some q31111) ?_)
                  exact head_done hS31185 rfl
                · intro g31190 s31191 w31192 l31193 hS31194 fr31195 pre31196
                  have p31197 : g31190 67 = (Value.int .i64 ((IntKind.i64.wrap two5.a0).tmod (IntKind.i64.wrap (1 + ((IntKind.i64.wrap n1).tmod 8))))) := pre31196 0 _ rfl rfl
                  refine head_run rfl (Exec.assign (v := Value.int .i64 ((IntKind.i64.wrap two5.a0).tmod (IntKind.i64.wrap (1 + ((IntKind.i64.wrap n1).tmod 8))))) rfl p31197 ?_)
                  exact head_done hS31194 rfl
                · intro g31198 s31199 w31200 l31201 hS31202 fr31203 pre31204
                  have p31205 : g31198 72 = (Value.int .i64 ((IntKind.i64.wrap two5.a1).tmod (IntKind.i64.wrap (1 + ((IntKind.i64.wrap n1).tmod 8))))) := pre31204 0 _ rfl rfl
                  refine head_run rfl (Exec.assign (v := Value.int .i64 ((IntKind.i64.wrap two5.a1).tmod (IntKind.i64.wrap (1 + ((IntKind.i64.wrap n1).tmod 8))))) rfl p31205 ?_)
                  exact head_done hS31202 rfl
                · intro g31206 s31207 w31208 l31209 hS31210 fr31211 hR31212
                  have p31213 : g31206 63 = (Value.pointer (some ⟨b29174, 0, none⟩)) := hR31212 0 rfl
                  have p31214 : g31206 64 = (Value.int .u8 (two5.a0)) := hR31212 1 rfl
                  have p31215 : g31206 65 = (Value.int .i64 (IntKind.i64.wrap two5.a0)) := hR31212 2 rfl
                  have p31216 : g31206 66 = (Value.int .i64 (IntKind.i64.wrap (1 + ((IntKind.i64.wrap n1).tmod 8)))) := hR31212 3 rfl
                  have p31217 : g31206 67 = (Value.int .i64 ((IntKind.i64.wrap two5.a0).tmod (IntKind.i64.wrap (1 + ((IntKind.i64.wrap n1).tmod 8))))) := hR31212 4 rfl
                  have p31218 : g31206 68 = (Value.pointer (some ⟨b29174, 1, none⟩)) := hR31212 5 rfl
                  have p31219 : g31206 69 = (Value.int .u8 (two5.a1)) := hR31212 6 rfl
                  have p31220 : g31206 70 = (Value.int .i64 (IntKind.i64.wrap two5.a1)) := hR31212 7 rfl
                  have p31221 : g31206 71 = (Value.int .i64 (IntKind.i64.wrap (1 + ((IntKind.i64.wrap n1).tmod 8)))) := hR31212 8 rfl
                  have p31222 : g31206 72 = (Value.int .i64 ((IntKind.i64.wrap two5.a1).tmod (IntKind.i64.wrap (1 + ((IntKind.i64.wrap n1).tmod 8))))) := hR31212 9 rfl
                  have p31223 : g31206 13 = (Value.int .i64 ((IntKind.i64.wrap two5.a0).tmod (IntKind.i64.wrap (1 + ((IntKind.i64.wrap n1).tmod 8))))) := hR31212 10 rfl
                  have p31224 : g31206 14 = (Value.int .i64 ((IntKind.i64.wrap two5.a1).tmod (IntKind.i64.wrap (1 + ((IntKind.i64.wrap n1).tmod 8))))) := hR31212 11 rfl
                  refine WL_nil (at_normal ?_)
                  refine W_seq ?_
                  refine W_region ?_
                  refine WL_step rfl rfl (Exec.move (v := Value.pointer (some ⟨v29254, 0, none⟩)) rfl (Eq.trans (fr31211 8 rfl) p30984) ?_)
                  refine WL_step rfl rfl (Exec.move (v := Value.int .i64 ((IntKind.i64.wrap two5.a0).tmod (IntKind.i64.wrap (1 + ((IntKind.i64.wrap n1).tmod 8))))) rfl p31223 ?_)
                  refine WL_step rfl rfl (Exec.move (v := Value.int .i64 ((IntKind.i64.wrap two5.a1).tmod (IntKind.i64.wrap (1 + ((IntKind.i64.wrap n1).tmod 8))))) rfl p31224 ?_)
                  obtain ⟨t31235, q31236, hm⟩ := bind_some hm
                  obtain ⟨y31237, y31238⟩ := t31235
                  replace hm := un2_eq hm
                  have hS31239 := ((hS31210).f3).f3
                  have hS31240 := (hS31239).f3
                  refine WL_step rfl rfl (Exec.call rfl rfl Try.func15 rfl N15 (args_cons rfl (args_cons rfl (args_cons rfl args_nil))) ((stn_Network_Distance_sim q31236 hS31240 ).mono ?_))
                  rintro _ w31241 ⟨_, rfl, ⟨s31242, l31243, hS31244, rfl⟩⟩
                  refine ⟨_, rfl, ?_⟩
                  refine WL_step rfl rfl (Exec.move (v := Value.tuple #[Value.int .i64 (y31237), errV 30 (y31238)]) rfl rfl ?_)
                  refine WL_step rfl rfl (Exec.extract (v := Value.int .i64 (y31237)) rfl rfl rfl ?_)
                  refine WL_step rfl rfl (Exec.extract (v := errV 30 (y31238)) rfl rfl rfl ?_)
                  refine WL_step rfl rfl (Exec.assign (v := Value.int .i64 (y31237)) rfl rfl ?_)
                  refine WL_step rfl rfl (Exec.assign (v := errV 30 (y31238)) rfl rfl ?_)
                  refine WL_nil (at_normal ?_)
                  refine W_seq ?_
                  refine W_seq ?_
                  refine W_region ?_
                  refine WL_step rfl rfl (Exec.move (v := errV 30 (y31238)) rfl rfl ?_)
                  refine WL_step rfl rfl (Exec.err_neq_nil (T := 30) Try.underlying26 rfl rfl rfl ?_)
                  refine WL_nil (at_normal ?_)
                  rcases ite_some hm with ⟨hc31245, hm⟩ | ⟨hc31245, hm⟩
                  · refine W_cond_t rfl hc31245 ?_
                    refine W_seq ?_
                    refine W_region ?_
                    refine WL_step rfl rfl (Exec.assign (v := Value.bool (false)) rfl rfl ?_)
                    refine WL_nil (at_normal ?_)
                    refine W_ret (at_ret ?_)
                    have e31247 := Option.some.inj hm
                    subst r
                    refine ⟨_, ret1 rfl, ?_⟩
                    have hS31248 := (hS31244).drop
                    have hS31249 := ((hS31248).drop).drop
                    have hS31250 := (hS31249).drop
                    exact ⟨s31242, (PHeap.le.trans (PHeap.le.trans (PHeap.le.trans (PHeap.le.trans (PHeap.le.trans l29202 l29252) l29301) l30979) l31209) l31243), hS31250, rfl⟩
                  · refine W_cond_f rfl hc31245 ?_
                    replace hc31245 := not_true hc31245
                    refine W_skip (at_normal ?_)
                    refine W_seq ?_
                    refine W_seq ?_
                    refine W_mid (M := fun f' w' => ∃ (s31257 : PHeap) , PHeap.le s31242 s31257 ∧ St w0 s31257 (Res.box v29254 63 [v29255] :: Res.arr encRaw 49 v29255 v29256 :: Res.rows (encInt .i64) 3 v29256 d29250.d :: H) w' ∧ f' 7 = Value.int .i64 (IntKind.i64.wrap (1 + ((IntKind.i64.wrap n1).tmod 8))) ∧ f' 8 = Value.pointer (some ⟨v29254, 0, none⟩) ∧ f' 10 = Value.pointer none ∧ f' 96 = Value.bool (((decide (y31237 ≤ 1099511627776)) && ((decide ((-1099511627776) ≤ y31237)) && (stn_Network_Add_nil_t (⟨(IntKind.i64.wrap two5.a0).tmod (IntKind.i64.wrap (1 + ((IntKind.i64.wrap n1).tmod 8))), (IntKind.i64.wrap two5.a1).tmod (IntKind.i64.wrap (1 + ((IntKind.i64.wrap n1).tmod 8))), y31237⟩ : Bound)).isSome)))) ?_ ?_
                    · refine W_region ?_
                      refine WL_step rfl rfl (Exec.move (v := Value.int .i64 (y31237)) rfl rfl ?_)
                      refine WL_step rfl rfl (Exec.leq rfl rfl rfl ?_)
                      refine WL_step rfl rfl (Exec.move (v := Value.bool (decide (y31237 ≤ 1099511627776))) rfl rfl ?_)
                      by_cases hc31258 : (decide (y31237 ≤ 1099511627776)) = true
                      · refine WL_run rfl (yield_of rfl (congrArg Value.bool hc31258)) rfl (Exec.move (v := Value.int .i64 (y31237)) rfl rfl ?_)
                        refine WL_run rfl (yield_of rfl (congrArg Value.bool hc31258)) rfl (Exec.geq rfl rfl rfl ?_)
                        refine WL_step rfl rfl (Exec.pick_t (v := Value.bool (decide ((-1099511627776) ≤ y31237))) rfl (congrArg Value.bool hc31258) rfl ?_)
                        refine WL_step rfl rfl (Exec.move (v := Value.bool (decide ((-1099511627776) ≤ y31237))) rfl rfl ?_)
                        by_cases hc31259 : (decide ((-1099511627776) ≤ y31237)) = true
                        · refine WL_run rfl (yield_of rfl (congrArg Value.bool hc31259)) rfl (Exec.move (v := Value.pointer none) rfl (Eq.trans (fr31211 10 rfl) p30985) ?_)
                          refine WL_run rfl (yield_of rfl (congrArg Value.bool hc31259)) rfl (Exec.move (v := Value.int .i64 ((IntKind.i64.wrap two5.a0).tmod (IntKind.i64.wrap (1 + ((IntKind.i64.wrap n1).tmod 8))))) rfl p31223 ?_)
                          refine WL_run rfl (yield_of rfl (congrArg Value.bool hc31259)) rfl (Exec.move (v := Value.int .i64 ((IntKind.i64.wrap two5.a1).tmod (IntKind.i64.wrap (1 + ((IntKind.i64.wrap n1).tmod 8))))) rfl p31224 ?_)
                          refine WL_run rfl (yield_of rfl (congrArg Value.bool hc31259)) rfl (Exec.move (v := Value.int .i64 (y31237)) rfl rfl ?_)
                          refine WL_run rfl (yield_of rfl (congrArg Value.bool hc31259)) rfl (Exec.build rfl (parts_cons (c := [Value.int .i64 ((IntKind.i64.wrap two5.a0).tmod (IntKind.i64.wrap (1 + ((IntKind.i64.wrap n1).tmod 8))))]) (cells_of rfl rfl) (parts_cons (c := [Value.int .i64 ((IntKind.i64.wrap two5.a1).tmod (IntKind.i64.wrap (1 + ((IntKind.i64.wrap n1).tmod 8))))]) (cells_of rfl rfl) (parts_cons (c := [Value.int .i64 (y31237)]) (cells_of rfl rfl) parts_nil))) (v := Value.agg #[Value.int .i64 ((IntKind.i64.wrap two5.a0).tmod (IntKind.i64.wrap (1 + ((IntKind.i64.wrap n1).tmod 8)))), Value.int .i64 ((IntKind.i64.wrap two5.a1).tmod (IntKind.i64.wrap (1 + ((IntKind.i64.wrap n1).tmod 8)))), Value.int .i64 (y31237)]) (fun _ => by kernel_rfl) ?_)
                          refine WL_run rfl (yield_of rfl (congrArg Value.bool hc31259)) rfl (Exec.call rfl rfl Try.func14 rfl N14 (args_cons rfl (args_cons rfl args_nil)) ((stn_Network_Add_nil_sim (stn_Network_Add_nil_tot (⟨(IntKind.i64.wrap two5.a0).tmod (IntKind.i64.wrap (1 + ((IntKind.i64.wrap n1).tmod 8))), (IntKind.i64.wrap two5.a1).tmod (IntKind.i64.wrap (1 + ((IntKind.i64.wrap n1).tmod 8))), y31237⟩ : Bound)) hS31244 ).mono ?_))
                          rintro _ w31260 ⟨_, rfl, ⟨s31261, l31262, hS31263, rfl⟩⟩
                          refine ⟨_, rfl, ?_⟩
                          refine WL_run rfl (yield_of rfl (congrArg Value.bool hc31259)) rfl (Exec.err_neq_nil (T := 30) Try.underlying26 rfl rfl rfl ?_)
                          refine WL_step rfl rfl (Exec.pick_t (v := Value.bool ((stn_Network_Add_nil_t (⟨(IntKind.i64.wrap two5.a0).tmod (IntKind.i64.wrap (1 + ((IntKind.i64.wrap n1).tmod 8))), (IntKind.i64.wrap two5.a1).tmod (IntKind.i64.wrap (1 + ((IntKind.i64.wrap n1).tmod 8))), y31237⟩ : Bound)).isSome)) rfl (congrArg Value.bool hc31259) rfl ?_)
                          refine WL_nil (at_normal ?_)
                          have hS31264 := ((hS31263).f3).drop
                          have hS31265 := ((hS31264).f2).f2
                          have hS31266 := (hS31265).f2
                          exact ⟨s31261, l31262, hS31266, (Eq.trans (fr31211 7 rfl) p30983), (Eq.trans (fr31211 8 rfl) p30984), (Eq.trans (fr31211 10 rfl) p30985), (congrArg Value.bool (Eq.trans (and_t hc31258) (and_t hc31259))).symm⟩
                        · replace hc31259 := not_true hc31259
                          refine WL_pass rfl (yield_of rfl (congrArg Value.bool hc31259)) rfl rfl ?_
                          refine WL_pass rfl (yield_of rfl (congrArg Value.bool hc31259)) rfl rfl ?_
                          refine WL_pass rfl (yield_of rfl (congrArg Value.bool hc31259)) rfl rfl ?_
                          refine WL_pass rfl (yield_of rfl (congrArg Value.bool hc31259)) rfl rfl ?_
                          refine WL_pass rfl (yield_of rfl (congrArg Value.bool hc31259)) rfl rfl ?_
                          refine WL_pass rfl (yield_of rfl (congrArg Value.bool hc31259)) rfl rfl ?_
                          refine WL_pass rfl (yield_of rfl (congrArg Value.bool hc31259)) rfl rfl ?_
                          refine WL_step rfl rfl (Exec.pick_f (v := Value.bool (false)) rfl (congrArg Value.bool hc31259) rfl ?_)
                          refine WL_nil (at_normal ?_)
                          have hS31267 := ((hS31244).f3).drop
                          have hS31268 := ((hS31267).f2).f2
                          have hS31269 := (hS31268).f2
                          exact ⟨s31242, (PHeap.le_refl _), hS31269, (Eq.trans (fr31211 7 rfl) p30983), (Eq.trans (fr31211 8 rfl) p30984), (Eq.trans (fr31211 10 rfl) p30985), (congrArg Value.bool (Eq.trans (and_t hc31258) (and_f hc31259))).symm⟩
                      · replace hc31258 := not_true hc31258
                        refine WL_pass rfl (yield_of rfl (congrArg Value.bool hc31258)) rfl rfl ?_
                        refine WL_pass rfl (yield_of rfl (congrArg Value.bool hc31258)) rfl rfl ?_
                        refine WL_step rfl rfl (Exec.pick_f (v := Value.bool (false)) rfl (congrArg Value.bool hc31258) rfl ?_)
                        refine WL_step rfl rfl (Exec.move (v := Value.bool (false)) rfl rfl ?_)
                        refine WL_pass rfl (yield_of rfl rfl) rfl rfl ?_
                        refine WL_pass rfl (yield_of rfl rfl) rfl rfl ?_
                        refine WL_pass rfl (yield_of rfl rfl) rfl rfl ?_
                        refine WL_pass rfl (yield_of rfl rfl) rfl rfl ?_
                        refine WL_pass rfl (yield_of rfl rfl) rfl rfl ?_
                        refine WL_pass rfl (yield_of rfl rfl) rfl rfl ?_
                        refine WL_pass rfl (yield_of rfl rfl) rfl rfl ?_
                        refine WL_step rfl rfl (Exec.pick_f (v := Value.bool (false)) rfl rfl rfl ?_)
                        refine WL_nil (at_normal ?_)
                        have hS31270 := ((hS31244).f3).drop
                        have hS31271 := ((hS31270).f2).f2
                        have hS31272 := (hS31271).f2
                        exact ⟨s31242, (PHeap.le_refl _), hS31272, (Eq.trans (fr31211 7 rfl) p30983), (Eq.trans (fr31211 8 rfl) p30984), (Eq.trans (fr31211 10 rfl) p30985), (congrArg Value.bool (and_f hc31258)).symm⟩
                    · intro f31273 w31274 hM31275
                      obtain ⟨s31276, l31277, hS31278, p31279, p31280, p31281, p31282⟩ := hM31275
                      refine (at_normal ?_)
                      rcases ite_some hm with ⟨hc31283, hm⟩ | ⟨hc31283, hm⟩
                      · refine W_cond_t p31282 hc31283 ?_
                        refine W_seq ?_
                        refine W_region ?_
                        refine WL_step rfl rfl (Exec.assign (v := Value.bool (false)) rfl rfl ?_)
                        refine WL_nil (at_normal ?_)
                        refine W_ret (at_ret ?_)
                        have e31285 := Option.some.inj hm
                        subst r
                        refine ⟨_, ret1 rfl, ?_⟩
                        have hS31286 := (hS31278).drop
                        have hS31287 := ((hS31286).drop).drop
                        exact ⟨s31276, (PHeap.le.trans (PHeap.le.trans (PHeap.le.trans (PHeap.le.trans (PHeap.le.trans (PHeap.le.trans l29202 l29252) l29301) l30979) l31209) l31243) l31277), hS31287, rfl⟩
                      · refine W_cond_f p31282 hc31283 ?_
                        replace hc31283 := not_true hc31283
                        refine W_skip (at_normal ?_)
                        refine W_seq ?_
                        refine W_seq ?_
                        refine W_region ?_
                        refine WL_step rfl rfl (Exec.move (v := Value.int .i64 (IntKind.i64.wrap (1 + ((IntKind.i64.wrap n1).tmod 8)))) rfl p31279 ?_)
                        refine WL_step rfl rfl (Exec.move (v := Value.int .i64 (0)) rfl rfl ?_)
                        refine WL_nil (at_normal ?_)
                        obtain ⟨u31288, q31289, hm⟩ := bind_some hm
                        obtain ⟨c31763, hB31764, hr31765, hn31766, hb31767⟩ := ctl_some hm
                        refine W_mid (M := fun f' w' => ∃ s', (c31763 = .next s' ∨ c31763 = .brk s') ∧ (fun (_ : Unit) => ∃ (s31769 : PHeap) , PHeap.le s31276 s31769 ∧ St w0 s31769 (Res.box v29254 63 [v29255] :: Res.arr encRaw 49 v29255 v29256 :: Res.rows (encInt .i64) 3 v29256 d29250.d :: H) w' ∧ f' 7 = Value.int .i64 (IntKind.i64.wrap (1 + ((IntKind.i64.wrap n1).tmod 8))) ∧ f' 8 = Value.pointer (some ⟨v29254, 0, none⟩) ∧ f' 10 = Value.pointer none ∧ f' 97 = Value.int .i64 (IntKind.i64.wrap (1 + ((IntKind.i64.wrap n1).tmod 8)))) s') ?_ ?_
                        · refine W_block (W_forC (fun k' s' f' w' => (fun (_ : Unit) => ∃ (s31768 : PHeap) , PHeap.le s31276 s31768 ∧ St w0 s31768 (Res.box v29254 63 [v29255] :: Res.arr encRaw 49 v29255 v29256 :: Res.rows (encInt .i64) 3 v29256 d29250.d :: H) w' ∧ f' 7 = Value.int .i64 (IntKind.i64.wrap (1 + ((IntKind.i64.wrap n1).tmod 8))) ∧ f' 8 = Value.pointer (some ⟨v29254, 0, none⟩) ∧ f' 10 = Value.pointer none ∧ f' 97 = Value.int .i64 (IntKind.i64.wrap (1 + ((IntKind.i64.wrap n1).tmod 8))) ∧ f' 98 = Value.int .i64 (k' : Int)) s') hB31764 ?_ ?_ ?_)
                          · have hS31770 := ((hS31278).f2).f2
                            have hS31771 := (hS31770).f2
                            exact ⟨s31276, (PHeap.le_refl _), hS31771, p31279, p31280, p31281, rfl, rfl⟩
                          · intro i31290 t31779 c31773 f31774 w31775 hi31780 hI31776 hm31777 hres31778
                            obtain ⟨s31781, l31782, hS31783, p31784, p31785, p31786, p31787, x31788⟩ := hI31776
                            refine W_seq ?_
                            refine W_region ?_
                            refine WL_step rfl rfl (Exec.lss rfl x31788 p31787 ?_)
                            refine WL_nil (at_normal ?_)
                            refine W_seq ?_
                            refine W_true (congrArg Value.bool (decide_eq_true (by omega))) ?_
                            refine W_skip (at_normal ?_)
                            refine W_seq ?_
                            refine W_block ?_
                            refine W_seq ?_
                            refine W_region ?_
                            refine WL_step rfl rfl (Exec.move (v := Value.int .i64 ((i31290 : Int))) rfl x31788 ?_)
                            refine WL_step rfl rfl (Exec.assign (v := Value.int .i64 ((i31290 : Int))) rfl rfl ?_)
                            refine WL_nil (at_normal ?_)
                            refine W_seq ?_
                            refine W_region ?_
                            refine WL_step rfl rfl (Exec.move (v := Value.int .i64 (IntKind.i64.wrap (1 + ((IntKind.i64.wrap n1).tmod 8)))) rfl p31784 ?_)
                            refine WL_step rfl rfl (Exec.move (v := Value.int .i64 (0)) rfl rfl ?_)
                            refine WL_nil (at_normal ?_)
                            obtain ⟨u31789, q31790, hm31777⟩ := bind_some hm31777
                            obtain ⟨c31904, hB31905, hr31906, hn31907, hb31908⟩ := ctl_some hm31777
                            refine W_mid (M := fun f' w' => ∃ s', (c31904 = .next s' ∨ c31904 = .brk s') ∧ (fun (_ : Unit) => ∃ (s31910 : PHeap) , PHeap.le s31781 s31910 ∧ St w0 s31910 (Res.box v29254 63 [v29255] :: Res.arr encRaw 49 v29255 v29256 :: Res.rows (encInt .i64) 3 v29256 d29250.d :: H) w' ∧ f' 7 = Value.int .i64 (IntKind.i64.wrap (1 + ((IntKind.i64.wrap n1).tmod 8))) ∧ f' 8 = Value.pointer (some ⟨v29254, 0, none⟩) ∧ f' 10 = Value.pointer none ∧ f' 16 = Value.int .i64 ((i31290 : Int)) ∧ f' 97 = Value.int .i64 (IntKind.i64.wrap (1 + ((IntKind.i64.wrap n1).tmod 8))) ∧ f' 98 = Value.int .i64 ((i31290 : Int)) ∧ f' 101 = Value.int .i64 (IntKind.i64.wrap (1 + ((IntKind.i64.wrap n1).tmod 8)))) s') ?_ ?_
                            · refine W_block (W_forC (fun k' s' f' w' => (fun (_ : Unit) => ∃ (s31909 : PHeap) , PHeap.le s31781 s31909 ∧ St w0 s31909 (Res.box v29254 63 [v29255] :: Res.arr encRaw 49 v29255 v29256 :: Res.rows (encInt .i64) 3 v29256 d29250.d :: H) w' ∧ f' 7 = Value.int .i64 (IntKind.i64.wrap (1 + ((IntKind.i64.wrap n1).tmod 8))) ∧ f' 8 = Value.pointer (some ⟨v29254, 0, none⟩) ∧ f' 10 = Value.pointer none ∧ f' 16 = Value.int .i64 ((i31290 : Int)) ∧ f' 97 = Value.int .i64 (IntKind.i64.wrap (1 + ((IntKind.i64.wrap n1).tmod 8))) ∧ f' 98 = Value.int .i64 ((i31290 : Int)) ∧ f' 101 = Value.int .i64 (IntKind.i64.wrap (1 + ((IntKind.i64.wrap n1).tmod 8))) ∧ f' 102 = Value.int .i64 (k' : Int)) s') hB31905 ?_ ?_ ?_)
                              · have hS31911 := ((hS31783).f2).f2
                                have hS31912 := (hS31911).f2
                                exact ⟨s31781, (PHeap.le_refl _), hS31912, p31784, p31785, p31786, rfl, p31787, x31788, rfl, rfl⟩
                              · intro i31791 t31920 c31914 f31915 w31916 hi31921 hI31917 hm31918 hres31919
                                obtain ⟨s31922, l31923, hS31924, p31925, p31926, p31927, p31928, p31929, p31930, p31931, x31932⟩ := hI31917
                                refine W_seq ?_
                                refine W_region ?_
                                refine WL_step rfl rfl (Exec.lss rfl x31932 p31931 ?_)
                                refine WL_nil (at_normal ?_)
                                refine W_seq ?_
                                refine W_true (congrArg Value.bool (decide_eq_true (by omega))) ?_
                                refine W_skip (at_normal ?_)
                                refine W_seq ?_
                                refine W_block ?_
                                refine W_seq ?_
                                refine W_region ?_
                                refine WL_step rfl rfl (Exec.move (v := Value.int .i64 ((i31791 : Int))) rfl x31932 ?_)
                                refine WL_step rfl rfl (Exec.assign (v := Value.int .i64 ((i31791 : Int))) rfl rfl ?_)
                                refine WL_nil (at_normal ?_)
                                refine W_seq ?_
                                refine W_region ?_
                                refine WL_step rfl rfl (Exec.move (v := Value.pointer (some ⟨v29254, 0, none⟩)) rfl p31926 ?_)
                                refine WL_step rfl rfl (Exec.move (v := Value.int .i64 ((i31290 : Int))) rfl p31928 ?_)
                                refine WL_step rfl rfl (Exec.move (v := Value.int .i64 ((i31791 : Int))) rfl rfl ?_)
                                obtain ⟨t31943, q31944, hm31918⟩ := bind_some hm31918
                                obtain ⟨y31945, y31946⟩ := t31943
                                replace hm31918 := un2_eq hm31918
                                have hS31947 := ((hS31924).f2).f2
                                have hS31948 := (hS31947).f2
                                refine WL_step rfl rfl (Exec.call rfl rfl Try.func15 rfl N15 (args_cons rfl (args_cons rfl (args_cons rfl args_nil))) ((stn_Network_Distance_sim q31944 hS31948 ).mono ?_))
                                rintro _ w31949 ⟨_, rfl, ⟨s31950, l31951, hS31952, rfl⟩⟩
                                refine ⟨_, rfl, ?_⟩
                                refine WL_step rfl rfl (Exec.move (v := Value.tuple #[Value.int .i64 (y31945), errV 30 (y31946)]) rfl rfl ?_)
                                refine WL_step rfl rfl (Exec.extract (v := Value.int .i64 (y31945)) rfl rfl rfl ?_)
                                refine WL_step rfl rfl (Exec.extract (v := errV 30 (y31946)) rfl rfl rfl ?_)
                                refine WL_step rfl rfl (Exec.assign (v := Value.int .i64 (y31945)) rfl rfl ?_)
                                refine WL_step rfl rfl (Exec.assign (v := errV 30 (y31946)) rfl rfl ?_)
                                refine WL_nil (at_normal ?_)
                                refine W_seq ?_
                                refine W_region ?_
                                refine WL_step rfl rfl (Exec.move (v := Value.pointer none) rfl p31927 ?_)
                                refine WL_step rfl rfl (Exec.move (v := Value.int .i64 ((i31290 : Int))) rfl p31928 ?_)
                                refine WL_step rfl rfl (Exec.move (v := Value.int .i64 ((i31791 : Int))) rfl rfl ?_)
                                refine WL_step rfl rfl (Exec.call rfl rfl Try.func15 rfl N15 (args_cons rfl (args_cons rfl (args_cons rfl args_nil))) ((stn_Network_Distance_nil_sim (stn_Network_Distance_nil_tot (i31290 : Int) (i31791 : Int)) hS31952 ).mono ?_))
                                rintro _ w31957 ⟨_, rfl, ⟨s31958, l31959, hS31960, rfl⟩⟩
                                refine ⟨_, rfl, ?_⟩
                                refine WL_step rfl rfl (Exec.move (v := Value.tuple #[Value.int .i64 ((stn_Network_Distance_nil_t (i31290 : Int) (i31791 : Int)).1), errV 30 ((stn_Network_Distance_nil_t (i31290 : Int) (i31791 : Int)).2)]) rfl rfl ?_)
                                refine WL_step rfl rfl (Exec.extract (v := Value.int .i64 ((stn_Network_Distance_nil_t (i31290 : Int) (i31791 : Int)).1)) rfl rfl rfl ?_)
                                refine WL_step rfl rfl (Exec.extract (v := errV 30 ((stn_Network_Distance_nil_t (i31290 : Int) (i31791 : Int)).2)) rfl rfl rfl ?_)
                                refine WL_step rfl rfl (Exec.assign (v := Value.int .i64 ((stn_Network_Distance_nil_t (i31290 : Int) (i31791 : Int)).1)) rfl rfl ?_)
                                refine WL_step rfl rfl (Exec.assign (v := errV 30 ((stn_Network_Distance_nil_t (i31290 : Int) (i31791 : Int)).2)) rfl rfl ?_)
                                refine WL_nil (at_normal ?_)
                                refine W_seq ?_
                                refine W_mid (M := fun f' w' => ∃ (s31963 : PHeap) , PHeap.le s31958 s31963 ∧ St w0 s31963 (Res.box v29254 63 [v29255] :: Res.arr encRaw 49 v29255 v29256 :: Res.rows (encInt .i64) 3 v29256 d29250.d :: H) w' ∧ f' 7 = Value.int .i64 (IntKind.i64.wrap (1 + ((IntKind.i64.wrap n1).tmod 8))) ∧ f' 8 = Value.pointer (some ⟨v29254, 0, none⟩) ∧ f' 10 = Value.pointer none ∧ f' 16 = Value.int .i64 ((i31290 : Int)) ∧ f' 97 = Value.int .i64 (IntKind.i64.wrap (1 + ((IntKind.i64.wrap n1).tmod 8))) ∧ f' 98 = Value.int .i64 ((i31290 : Int)) ∧ f' 101 = Value.int .i64 (IntKind.i64.wrap (1 + ((IntKind.i64.wrap n1).tmod 8))) ∧ f' 102 = Value.int .i64 ((i31791 : Int)) ∧ f' 129 = Value.bool ((y31946.isSome || ((((stn_Network_Distance_nil_t (i31290 : Int) (i31791 : Int)).2).isSome) || !decide (y31945 = ((stn_Network_Distance_nil_t (i31290 : Int) (i31791 : Int)).1)))))) ?_ ?_
                                · refine W_region ?_
                                  refine WL_step rfl rfl (Exec.move (v := errV 30 (y31946)) rfl rfl ?_)
                                  refine WL_step rfl rfl (Exec.err_neq_nil (T := 30) Try.underlying26 rfl rfl rfl ?_)
                                  refine WL_step rfl rfl (Exec.move (v := Value.bool (y31946.isSome)) rfl rfl ?_)
                                  by_cases hc31964 : y31946.isSome = true
                                  · refine WL_pass rfl (yield_of rfl (congrArg Value.bool hc31964)) rfl rfl ?_
                                    refine WL_pass rfl (yield_of rfl (congrArg Value.bool hc31964)) rfl rfl ?_
                                    refine WL_step rfl rfl (Exec.pick_t (v := Value.bool (true)) rfl (congrArg Value.bool hc31964) rfl ?_)
                                    refine WL_step rfl rfl (Exec.move (v := Value.bool (true)) rfl rfl ?_)
                                    refine WL_pass rfl (yield_of rfl rfl) rfl rfl ?_
                                    refine WL_pass rfl (yield_of rfl rfl) rfl rfl ?_
                                    refine WL_pass rfl (yield_of rfl rfl) rfl rfl ?_
                                    refine WL_step rfl rfl (Exec.pick_t (v := Value.bool (true)) rfl rfl rfl ?_)
                                    refine WL_nil (at_normal ?_)
                                    have hS31965 := ((hS31960).f2).f2
                                    have hS31966 := (hS31965).f2
                                    exact ⟨s31958, (PHeap.le_refl _), hS31966, p31925, p31926, p31927, p31928, p31929, p31930, p31931, x31932, (congrArg Value.bool (or_t hc31964)).symm⟩
                                  · replace hc31964 := not_true hc31964
                                    refine WL_run rfl (yield_of rfl (congrArg Value.bool hc31964)) rfl (Exec.move (v := errV 30 ((stn_Network_Distance_nil_t (i31290 : Int) (i31791 : Int)).2)) rfl rfl ?_)
                                    refine WL_run rfl (yield_of rfl (congrArg Value.bool hc31964)) rfl (Exec.err_neq_nil (T := 30) Try.underlying26 rfl rfl rfl ?_)
                                    refine WL_step rfl rfl (Exec.pick_f (v := Value.bool (((stn_Network_Distance_nil_t (i31290 : Int) (i31791 : Int)).2).isSome)) rfl (congrArg Value.bool hc31964) rfl ?_)
                                    refine WL_step rfl rfl (Exec.move (v := Value.bool (((stn_Network_Distance_nil_t (i31290 : Int) (i31791 : Int)).2).isSome)) rfl rfl ?_)
                                    by_cases hc31967 : (((stn_Network_Distance_nil_t (i31290 : Int) (i31791 : Int)).2).isSome) = true
                                    · refine WL_pass rfl (yield_of rfl (congrArg Value.bool hc31967)) rfl rfl ?_
                                      refine WL_pass rfl (yield_of rfl (congrArg Value.bool hc31967)) rfl rfl ?_
                                      refine WL_pass rfl (yield_of rfl (congrArg Value.bool hc31967)) rfl rfl ?_
                                      refine WL_step rfl rfl (Exec.pick_t (v := Value.bool (true)) rfl (congrArg Value.bool hc31967) rfl ?_)
                                      refine WL_nil (at_normal ?_)
                                      have hS31968 := ((hS31960).f2).f2
                                      have hS31969 := (hS31968).f2
                                      exact ⟨s31958, (PHeap.le_refl _), hS31969, p31925, p31926, p31927, p31928, p31929, p31930, p31931, x31932, (congrArg Value.bool (Eq.trans (or_f hc31964) (or_t hc31967))).symm⟩
                                    · replace hc31967 := not_true hc31967
                                      refine WL_run rfl (yield_of rfl (congrArg Value.bool hc31967)) rfl (Exec.move (v := Value.int .i64 (y31945)) rfl rfl ?_)
                                      refine WL_run rfl (yield_of rfl (congrArg Value.bool hc31967)) rfl (Exec.move (v := Value.int .i64 ((stn_Network_Distance_nil_t (i31290 : Int) (i31791 : Int)).1)) rfl rfl ?_)
                                      refine WL_run rfl (yield_of rfl (congrArg Value.bool hc31967)) rfl (Exec.neq rfl rfl rfl ?_)
                                      refine WL_step rfl rfl (Exec.pick_f (v := Value.bool (!decide (y31945 = ((stn_Network_Distance_nil_t (i31290 : Int) (i31791 : Int)).1)))) rfl (congrArg Value.bool hc31967) rfl ?_)
                                      refine WL_nil (at_normal ?_)
                                      have hS31970 := ((hS31960).f2).f2
                                      have hS31971 := (hS31970).f2
                                      exact ⟨s31958, (PHeap.le_refl _), hS31971, p31925, p31926, p31927, p31928, p31929, p31930, p31931, x31932, (congrArg Value.bool (Eq.trans (or_f hc31964) (or_f hc31967))).symm⟩
                                · intro f31972 w31973 hM31974
                                  obtain ⟨s31975, l31976, hS31977, p31978, p31979, p31980, p31981, p31982, p31983, p31984, p31985, p31986⟩ := hM31974
                                  refine (at_normal ?_)
                                  rcases ite_some hm31918 with ⟨hc31987, hm31918⟩ | ⟨hc31987, hm31918⟩
                                  · refine W_cond_t p31986 hc31987 ?_
                                    refine W_seq ?_
                                    refine W_region ?_
                                    refine WL_step rfl rfl (Exec.assign (v := Value.bool (false)) rfl rfl ?_)
                                    refine WL_nil (at_normal ?_)
                                    refine W_ret (ib_ret (at_ret (at_ret (ib_ret (at_ret (ib_ret (at_ret (at_ret (ib_ret (at_ret (at_ret ?_)))))))))))
                                    have e31988 := Option.some.inj hm31918
                                    subst c31914
                                    have hq31989 := hr31906 _ (hres31919 (by intro _ h; cases h))
                                    have e31990 := Option.some.inj hq31989
                                    subst c31773
                                    have hq31991 := hr31765 _ (hres31778 (by intro _ h; cases h))
                                    have e31992 := Option.some.inj hq31991
                                    subst r
                                    refine ⟨_, ret1 rfl, ?_⟩
                                    have hS31993 := (hS31977).drop
                                    have hS31994 := ((hS31993).drop).drop
                                    exact ⟨s31975, (PHeap.le.trans (PHeap.le.trans (PHeap.le.trans (PHeap.le.trans (PHeap.le.trans (PHeap.le.trans (PHeap.le.trans (PHeap.le.trans (PHeap.le.trans (PHeap.le.trans (PHeap.le.trans l29202 l29252) l29301) l30979) l31209) l31243) l31277) l31782) l31923) l31951) l31959) l31976), hS31994, rfl⟩
                                  · refine W_cond_f p31986 hc31987 ?_
                                    replace hc31987 := not_true hc31987
                                    refine W_skip (ib_normal (at_normal ?_))
                                    refine W_region ?_
                                    refine WL_step rfl rfl (Exec.add rfl p31985 rfl ?_)
                                    refine WL_step rfl rfl (Exec.move (v := Value.int .i64 (IntKind.i64.wrap ((i31791 : Int) + 1))) rfl rfl ?_)
                                    refine WL_nil (at_normal ?_)
                                    have e31995 := Option.some.inj hm31918
                                    subst c31914
                                    have hS31996 := ((hS31977).f2).f2
                                    have hS31997 := (hS31996).f2
                                    refine ⟨_, rfl, ?_⟩; exact ⟨s31975, (PHeap.le.trans (PHeap.le.trans (PHeap.le.trans l31923 l31951) l31959) l31976), hS31997, p31978, p31979, p31980, p31981, p31982, p31983, p31984, (Eq.trans rfl (wrap_up hi31921 (by have h := must_some q31790; simp at h; simp only [maxLen]; omega)))⟩
                              · intro t31998 f31999 w32000 hI32001 hres32002
                                obtain ⟨s32003, l32004, hS32005, p32006, p32007, p32008, p32009, p32010, p32011, p32012, x32013⟩ := hI32001
                                refine W_seq ?_
                                refine W_region ?_
                                refine WL_step rfl rfl (Exec.lss rfl x32013 p32012 ?_)
                                refine WL_nil (at_normal ?_)
                                refine W_seq ?_
                                refine W_false (congrArg Value.bool (decide_eq_false (by omega))) ?_
                                refine W_exit (at_exit (at_exit (ib_here (at_normal ?_))))
                                have hS32014 := ((hS32005).f2).f2
                                have hS32015 := (hS32014).f2
                                refine ⟨_, .inl hres32002, ?_⟩; exact ⟨s32003, l32004, hS32015, p32006, p32007, p32008, p32009, p32010, p32011, p32012⟩
                            · rintro f32016 w32017 ⟨t32018, hc32019, hM32020⟩
                              have hm31777 := hc32019.elim (hn31907 _) (hb31908 _)
                              clear hc32019
                              obtain ⟨s32021, l32022, hS32023, p32024, p32025, p32026, p32027, p32028, p32029, p32030⟩ := hM32020
                              refine (ib_normal (at_normal ?_))
                              refine W_region ?_
                              refine WL_step rfl rfl (Exec.add rfl p32029 rfl ?_)
                              refine WL_step rfl rfl (Exec.move (v := Value.int .i64 (IntKind.i64.wrap ((i31290 : Int) + 1))) rfl rfl ?_)
                              refine WL_nil (at_normal ?_)
                              have e32031 := Option.some.inj hm31777
                              subst c31773
                              have hS32032 := ((hS32023).f2).f2
                              have hS32033 := (hS32032).f2
                              refine ⟨_, rfl, ?_⟩; exact ⟨s32021, (PHeap.le.trans l31782 l32022), hS32033, p32024, p32025, p32026, p32028, (Eq.trans rfl (wrap_up hi31780 (by have h := must_some q31289; simp at h; simp only [maxLen]; omega)))⟩
                          · intro t32034 f32035 w32036 hI32037 hres32038
                            obtain ⟨s32039, l32040, hS32041, p32042, p32043, p32044, p32045, x32046⟩ := hI32037
                            refine W_seq ?_
                            refine W_region ?_
                            refine WL_step rfl rfl (Exec.lss rfl x32046 p32045 ?_)
                            refine WL_nil (at_normal ?_)
                            refine W_seq ?_
                            refine W_false (congrArg Value.bool (decide_eq_false (by omega))) ?_
                            refine W_exit (at_exit (at_exit (ib_here (at_normal ?_))))
                            have hS32047 := ((hS32041).f2).f2
                            have hS32048 := (hS32047).f2
                            refine ⟨_, .inl hres32038, ?_⟩; exact ⟨s32039, l32040, hS32048, p32042, p32043, p32044, p32045⟩
                        · rintro f32049 w32050 ⟨t32051, hc32052, hM32053⟩
                          have hm := hc32052.elim (hn31766 _) (hb31767 _)
                          clear hc32052
                          obtain ⟨s32054, l32055, hS32056, p32057, p32058, p32059, p32060⟩ := hM32053
                          refine (at_normal ?_)
                          refine W_seq ?_
                          refine W_region ?_
                          refine WL_step rfl rfl (Exec.assign (v := Value.bool (true)) rfl rfl ?_)
                          refine WL_nil (at_normal ?_)
                          refine W_ret ?_
                          have e32062 := Option.some.inj hm
                          subst r
                          refine ⟨_, ret1 rfl, ?_⟩
                          have hS32063 := (hS32056).drop
                          have hS32064 := ((hS32063).drop).drop
                          exact ⟨s32054, (PHeap.le.trans (PHeap.le.trans (PHeap.le.trans (PHeap.le.trans (PHeap.le.trans (PHeap.le.trans (PHeap.le.trans l29202 l29252) l29301) l30979) l31209) l31243) l31277) l32055), hS32064, rfl⟩
      · replace hm := optC_none hm
        refine WL_step rfl rfl (Exec.move (v := Value.tuple #[Value.pointer none, Value.bool (y29247)]) rfl rfl ?_)
        refine WL_step rfl rfl (Exec.extract (v := Value.pointer none) rfl rfl rfl ?_)
        refine WL_step rfl rfl (Exec.extract (v := Value.bool (y29247)) rfl rfl rfl ?_)
        refine WL_step rfl rfl (Exec.assign (v := Value.pointer none) rfl rfl ?_)
        refine WL_step rfl rfl (Exec.assign (v := Value.bool (y29247)) rfl rfl ?_)
        refine WL_nil (at_normal ?_)
        refine W_seq ?_
        refine W_seq ?_
        refine W_region ?_
        refine WL_step rfl rfl (Exec.move (v := Value.bool (y29247)) rfl rfl ?_)
        refine WL_step rfl rfl (Exec.not rfl rfl ?_)
        refine WL_nil (at_normal ?_)
        rcases ite_some hm with ⟨hc32065, hm⟩ | ⟨hc32065, hm⟩
        · refine W_cond_t rfl hc32065 ?_
          refine W_seq ?_
          refine W_region ?_
          refine WL_step rfl rfl (Exec.assign (v := Value.bool (true)) rfl rfl ?_)
          refine WL_nil (at_normal ?_)
          refine W_ret (at_ret ?_)
          have e32067 := Option.some.inj hm
          subst r
          refine ⟨_, ret1 rfl, ?_⟩
          have hS32068 := (hS29260).drop
          exact ⟨s29258, (PHeap.le.trans l29202 l29259), hS32068, rfl⟩
        · refine W_cond_f rfl hc32065 ?_
          replace hc32065 := not_true hc32065
          refine W_skip (at_normal ?_)
          refine W_seq ?_
          refine W_region ?_
          refine WL_step rfl rfl (Exec.move (v := Value.int .i64 (IntKind.i64.wrap (1 + ((IntKind.i64.wrap n1).tmod 8)))) rfl rfl ?_)
          obtain ⟨t32087, q32088, hm⟩ := bind_some hm
          obtain ⟨pd32089, y32090⟩ := t32087
          replace hm := un2_eq hm
          refine WL_step rfl rfl (Exec.call rfl rfl Try.func10 rfl N10 (args_cons rfl args_nil) ((stn_New_sim q32088 hS29260 ).mono ?_))
          rintro _ w32091 ⟨_, rfl, hp32092⟩
          refine ⟨_, rfl, ?_⟩
          rcases hp32092 with ⟨d32093, rfl, s32094, v32097, v32098, v32099, l32095, hS32096, rfl⟩ | ⟨rfl, s32101, l32102, hS32103, rfl⟩
          · replace hm := optC_some hm
            refine WL_step rfl rfl (Exec.move (v := Value.tuple #[Value.pointer (some ⟨v32097, 0, none⟩), errV 30 (y32090)]) rfl rfl ?_)
            refine WL_step rfl rfl (Exec.extract (v := Value.pointer (some ⟨v32097, 0, none⟩)) rfl rfl rfl ?_)
            refine WL_step rfl rfl (Exec.extract (v := errV 30 (y32090)) rfl rfl rfl ?_)
            refine WL_step rfl rfl (Exec.assign (v := Value.pointer (some ⟨v32097, 0, none⟩)) rfl rfl ?_)
            refine WL_step rfl rfl (Exec.assign (v := errV 30 (y32090)) rfl rfl ?_)
            refine WL_nil (at_normal ?_)
            refine W_seq ?_
            refine W_seq ?_
            refine W_region ?_
            refine WL_step rfl rfl (Exec.move (v := errV 30 (y32090)) rfl rfl ?_)
            refine WL_step rfl rfl (Exec.err_neq_nil (T := 30) Try.underlying26 rfl rfl rfl ?_)
            refine WL_nil (at_normal ?_)
            rcases ite_some hm with ⟨hc32105, hm⟩ | ⟨hc32105, hm⟩
            · refine W_cond_t rfl hc32105 ?_
              refine W_seq ?_
              refine W_region ?_
              refine WL_step rfl rfl (Exec.assign (v := Value.bool (false)) rfl rfl ?_)
              refine WL_nil (at_normal ?_)
              refine W_ret (at_ret ?_)
              have e32107 := Option.some.inj hm
              subst r
              refine ⟨_, ret1 rfl, ?_⟩
              have hS32108 := (hS32096).drop
              have hS32109 := ((hS32108).drop).drop
              have hS32110 := (hS32109).drop
              exact ⟨s32094, (PHeap.le.trans (PHeap.le.trans l29202 l29259) l32095), hS32110, rfl⟩
            · refine W_cond_f rfl hc32105 ?_
              replace hc32105 := not_true hc32105
              refine W_skip (at_normal ?_)
              refine W_seq ?_
              refine W_seq ?_
              refine W_region ?_
              refine WL_step rfl rfl (Exec.move (v := v3) rfl p29205 ?_)
              refine WL_step rfl rfl (Exec.len_rep S22 rfl rfl (a4.mono (PHeap.le.trans (PHeap.le.trans l29202 l29259) l32095)) ?_)
              refine WL_step rfl rfl (Exec.sub rfl rfl rfl ?_)
              refine WL_step rfl rfl (Exec.assign (v := Value.int .i64 (IntKind.i64.wrap ((bounds2.length : Int) - 1))) rfl rfl ?_)
              refine WL_nil (at_normal ?_)
              obtain ⟨c32229, hB32230, hr32231, hn32232, hb32233⟩ := ctl_some hm
              refine W_mid (M := fun f' w' => ∃ s', (c32229 = .next s' ∨ c32229 = .brk s') ∧ (un2 fun (i32227 : Int) (l32228 : (List (List Int))) => ∃ (s32235 : PHeap) , PHeap.le s32094 s32235 ∧ St w0 s32235 (Res.box b29174 42 [Value.int .u8 (two5.a0), Value.int .u8 (two5.a1)] :: Res.box v32097 63 [v32098] :: Res.arr encRaw 49 v32098 v32099 :: Res.rows (encInt .i64) 3 v32099 l32228 :: H) w' ∧ f' 1 = v3 ∧ f' 5 = Value.pointer (some ⟨b29174, 0, none⟩) ∧ f' 7 = Value.int .i64 (IntKind.i64.wrap (1 + ((IntKind.i64.wrap n1).tmod 8))) ∧ f' 8 = Value.pointer none ∧ f' 10 = Value.pointer (some ⟨v32097, 0, none⟩) ∧ f' 12 = Value.int .i64 (i32227)) s') ?_ ?_
              · refine W_block (W_while (fun s' f' w' => (un2 fun (i32148 : Int) (l32149 : (List (List Int))) => ∃ (s32234 : PHeap) , PHeap.le s32094 s32234 ∧ St w0 s32234 (Res.box b29174 42 [Value.int .u8 (two5.a0), Value.int .u8 (two5.a1)] :: Res.box v32097 63 [v32098] :: Res.arr encRaw 49 v32098 v32099 :: Res.rows (encInt .i64) 3 v32099 l32149 :: H) w' ∧ f' 1 = v3 ∧ f' 5 = Value.pointer (some ⟨b29174, 0, none⟩) ∧ f' 7 = Value.int .i64 (IntKind.i64.wrap (1 + ((IntKind.i64.wrap n1).tmod 8))) ∧ f' 8 = Value.pointer none ∧ f' 10 = Value.pointer (some ⟨v32097, 0, none⟩) ∧ f' 12 = Value.int .i64 (i32148)) s') hB32230 ?_ ?_)
                · have hS32236 := ((hS32096).f2).f2
                  have hS32237 := (hS32236).f2
                  have hS32238 := (hS32237).f3
                  exact ⟨s32094, (PHeap.le_refl _), hS32238, p29205, p29206, rfl, rfl, rfl, rfl⟩
                · intro t32246 c32240 f32241 w32242 hI32243 hm32244 hres32245
                  obtain ⟨i32148, l32149⟩ := t32246
                  replace hm32244 := un2_eq hm32244
                  obtain ⟨s32247, l32248, hS32249, p32250, p32251, p32252, p32253, p32254, p32255⟩ := hI32243
                  refine W_seq ?_
                  refine W_seq ?_
                  refine W_region ?_
                  refine WL_step rfl rfl (Exec.move (v := Value.int .i64 (i32148)) rfl p32255 ?_)
                  refine WL_step rfl rfl (Exec.geq rfl rfl rfl ?_)
                  refine WL_nil (at_normal ?_)
                  rcases ite_some hm32244 with ⟨hc32256, hm32244⟩ | ⟨hc32256, hm32244⟩
                  · refine W_cond_t rfl hc32256 ?_
                    refine W_skip (at_normal ?_)
                    refine W_seq ?_
                    refine W_block ?_
                    refine W_seq ?_
                    refine W_region ?_
                    refine WL_step rfl rfl (Exec.move (v := Value.pointer (some ⟨v32097, 0, none⟩)) rfl p32254 ?_)
                    refine WL_step rfl rfl (Exec.move (v := v3) rfl p32250 ?_)
                    refine WL_step rfl rfl (Exec.move (v := Value.int .i64 (i32148)) rfl p32255 ?_)
                    obtain ⟨x32274, q32275, hm32244⟩ := bind_some hm32244
                    refine WL_step rfl rfl (Exec.index_rep S22 rfl rfl rfl (a4.mono (PHeap.le.trans (PHeap.le.trans (PHeap.le.trans l29202 l29259) l32095) l32248)) q32275 ?_)
                    intro b32276 o32277 a32278
                    refine WL_step rfl rfl (Exec.load_at (E := encBound) hS32249 A32 rfl rfl rfl a32278 ?_)
                    intro v32279 q32280
                    obtain rfl := encBound_val.1 q32280
                    obtain ⟨t32281, q32282, hm32244⟩ := bind_some hm32244
                    obtain ⟨y32283, l32284⟩ := t32281
                    replace hm32244 := un2_eq hm32244
                    have hS32285 := ((hS32249).f3).f3
                    have hS32286 := (hS32285).f3
                    refine WL_step rfl rfl (Exec.call rfl rfl Try.func14 rfl N14 (args_cons rfl (args_cons rfl args_nil)) ((stn_Network_Add_sim q32282 hS32286 ).mono ?_))
                    rintro _ w32287 ⟨_, rfl, ⟨s32288, l32289, hS32290, rfl⟩⟩
                    refine ⟨_, rfl, ?_⟩
                    refine WL_step rfl rfl (Exec.err_neq_nil (T := 30) Try.underlying26 rfl rfl rfl ?_)
                    refine WL_nil (at_normal ?_)
                    rcases ite_some hm32244 with ⟨hc32291, hm32244⟩ | ⟨hc32291, hm32244⟩
                    · refine W_cond_t rfl hc32291 ?_
                      refine W_seq ?_
                      refine W_region ?_
                      refine WL_step rfl rfl (Exec.assign (v := Value.bool (false)) rfl rfl ?_)
                      refine WL_nil (at_normal ?_)
                      refine W_ret (ib_ret (at_ret (at_ret (ib_ret (at_ret (at_ret ?_))))))
                      have e32292 := Option.some.inj hm32244
                      subst c32240
                      have hq32293 := hr32231 _ (hres32245 (by intro _ h; cases h))
                      have e32294 := Option.some.inj hq32293
                      subst r
                      refine ⟨_, ret1 rfl, ?_⟩
                      have hS32295 := (hS32290).drop
                      have hS32296 := ((hS32295).drop).drop
                      have hS32297 := (hS32296).drop
                      exact ⟨s32288, (PHeap.le.trans (PHeap.le.trans (PHeap.le.trans (PHeap.le.trans l29202 l29259) l32095) l32248) l32289), hS32297, rfl⟩
                    · refine W_cond_f rfl hc32291 ?_
                      replace hc32291 := not_true hc32291
                      refine W_skip (ib_normal (at_normal ?_))
                      refine W_region ?_
                      refine WL_step rfl rfl (Exec.move (v := Value.int .i64 (i32148)) rfl p32255 ?_)
                      refine WL_step rfl rfl (Exec.sub rfl rfl rfl ?_)
                      refine WL_step rfl rfl (Exec.assign (v := Value.int .i64 (IntKind.i64.wrap (i32148 - 1))) rfl rfl ?_)
                      refine WL_nil (at_normal ?_)
                      have e32298 := Option.some.inj hm32244
                      subst c32240
                      have hS32299 := ((hS32290).f2).f2
                      have hS32300 := (hS32299).f2
                      have hS32301 := (hS32300).f3
                      refine ⟨_, rfl, ?_⟩; exact ⟨s32288, (PHeap.le.trans l32248 l32289), hS32301, p32250, p32251, p32252, p32253, p32254, rfl⟩
                  · refine W_cond_f rfl hc32256 ?_
                    replace hc32256 := not_true hc32256
                    refine W_exit (at_exit (at_exit (ib_here (at_normal ?_))))
                    have e32302 := Option.some.inj hm32244
                    subst c32240
                    have hS32303 := ((hS32249).f3).f3
                    have hS32304 := (hS32303).f3
                    have hS32305 := (hS32304).f3
                    refine ⟨_, .inr (hres32245 (by intro _ h; cases h)), ?_⟩; exact ⟨s32247, l32248, hS32305, p32250, p32251, p32252, p32253, p32254, p32255⟩
              · rintro f32306 w32307 ⟨t32308, hc32309, hM32310⟩
                have hm := hc32309.elim (hn32232 _) (hb32233 _)
                clear hc32309
                obtain ⟨i32227, l32228⟩ := t32308
                replace hm := un2_eq hm
                obtain ⟨s32311, l32312, hS32313, p32314, p32315, p32316, p32317, p32318, p32319⟩ := hM32310
                refine (at_normal ?_)
                refine W_seq ?_
                obtain ⟨u32443, q32444, hm⟩ := bind_some hm
                refine W_drawn (n0 := 12) hmix (by kernel_rfl) [RP.eq (Value.pointer (some ⟨b29174, 0, none⟩)), RP.eq (Value.int .u8 (two5.a0)), RP.eq (Value.int .i64 (IntKind.i64.wrap two5.a0)), RP.eq (Value.int .i64 (IntKind.i64.wrap (1 + ((IntKind.i64.wrap n1).tmod 8)))), RP.eq (Value.int .i64 ((IntKind.i64.wrap two5.a0).tmod (IntKind.i64.wrap (1 + ((IntKind.i64.wrap n1).tmod 8))))), RP.eq (Value.pointer (some ⟨b29174, 1, none⟩)), RP.eq (Value.int .u8 (two5.a1)), RP.eq (Value.int .i64 (IntKind.i64.wrap two5.a1)), RP.eq (Value.int .i64 (IntKind.i64.wrap (1 + ((IntKind.i64.wrap n1).tmod 8)))), RP.eq (Value.int .i64 ((IntKind.i64.wrap two5.a1).tmod (IntKind.i64.wrap (1 + ((IntKind.i64.wrap n1).tmod 8))))), RP.eq (Value.int .i64 ((IntKind.i64.wrap two5.a0).tmod (IntKind.i64.wrap (1 + ((IntKind.i64.wrap n1).tmod 8))))), RP.eq (Value.int .i64 ((IntKind.i64.wrap two5.a1).tmod (IntKind.i64.wrap (1 + ((IntKind.i64.wrap n1).tmod 8)))))] hS32313 (HeadAll.cons ?_ (HeadAll.cons ?_ (HeadAll.cons ?_ (HeadAll.cons ?_ (HeadAll.cons ?_ (HeadAll.cons ?_ (HeadAll.cons ?_ (HeadAll.cons ?_ (HeadAll.cons ?_ (HeadAll.cons ?_ (HeadAll.cons ?_ (HeadAll.cons ?_ (HeadAll.nil))))))))))))) ?_
                · intro g32445 s32446 w32447 l32448 hS32449 fr32450 pre32451
                  refine head_run rfl (Exec.index_parr Try.underlying42 A5 rfl (Eq.trans (fr32450 5 rfl) p32315) rfl (by decide) rfl ?_)
                  exact head_done hS32449 rfl
                · intro g32452 s32453 w32454 l32455 hS32456 fr32457 pre32458
                  have p32459 : g32452 63 = (Value.pointer (some ⟨b29174, 0, none⟩)) := pre32458 0 _ rfl rfl
                  refine head_run rfl (Exec.load_box (hS32456) A5 rfl p32459 rfl ?_)
                  exact head_done hS32456 rfl
                · intro g32460 s32461 w32462 l32463 hS32464 fr32465 pre32466
                  have p32467 : g32460 64 = (Value.int .u8 (two5.a0)) := pre32466 0 _ rfl rfl
                  refine head_run rfl (Exec.convert_int (by rw [Try.underlying5]; rfl) Try.underlying3 rfl p32467 ?_)
                  exact head_done hS32464 rfl
                · intro g32468 s32469 w32470 l32471 hS32472 fr32473 pre32474
                  refine head_run rfl (Exec.move (v := Value.int .i64 (IntKind.i64.wrap (1 + ((IntKind.i64.wrap n1).tmod 8)))) rfl (Eq.trans (fr32473 7 rfl) p32316) ?_)
                  exact head_done hS32472 rfl
                · intro g32475 s32476 w32477 l32478 hS32479 fr32480 pre32481
                  have p32482 : g32475 65 = (Value.int .i64 (IntKind.i64.wrap two5.a0)) := pre32481 0 _ rfl rfl
                  have p32483 : g32475 66 = (Value.int .i64 (IntKind.i64.wrap (1 + ((IntKind.i64.wrap n1).tmod 8)))) := pre32481 1 _ rfl rfl
                  refine head_run rfl (Exec.rem rfl p32482 p32483 (by simpa using must_some q32444) ?_)
                  exact head_done hS32479 rfl
                · intro g32484 s32485 w32486 l32487 hS32488 fr32489 pre32490
                  refine head_run rfl (Exec.index_parr Try.underlying42 A5 rfl (Eq.trans (fr32489 5 rfl) p32315) rfl (by decide) rfl ?_)
                  exact head_done hS32488 rfl
                · intro g32491 s32492 w32493 l32494 hS32495 fr32496 pre32497
                  have p32498 : g32491 68 = (Value.pointer (some ⟨b29174, 1, none⟩)) := pre32497 0 _ rfl rfl
                  refine head_run rfl (Exec.load_box (hS32495) A5 rfl p32498 rfl ?_)
                  exact head_done hS32495 rfl
                · intro g32499 s32500 w32501 l32502 hS32503 fr32504 pre32505
                  have p32506 : g32499 69 = (Value.int .u8 (two5.a1)) := pre32505 0 _ rfl rfl
                  refine head_run rfl (Exec.convert_int (by rw [Try.underlying5]; rfl) Try.underlying3 rfl p32506 ?_)
                  exact head_done hS32503 rfl
                · intro g32507 s32508 w32509 l32510 hS32511 fr32512 pre32513
                  refine head_run rfl (Exec.move (v := Value.int .i64 (IntKind.i64.wrap (1 + ((IntKind.i64.wrap n1).tmod 8)))) rfl (Eq.trans (fr32512 7 rfl) p32316) ?_)
                  exact head_done hS32511 rfl
                · intro g32514 s32515 w32516 l32517 hS32518 fr32519 pre32520
                  have p32521 : g32514 70 = (Value.int .i64 (IntKind.i64.wrap two5.a1)) := pre32520 0 _ rfl rfl
                  have p32522 : g32514 71 = (Value.int .i64 (IntKind.i64.wrap (1 + ((IntKind.i64.wrap n1).tmod 8)))) := pre32520 1 _ rfl rfl
                  refine head_run rfl (Exec.rem rfl p32521 p32522 (by simpa using must_some q32444) ?_)
                  exact head_done hS32518 rfl
                · intro g32523 s32524 w32525 l32526 hS32527 fr32528 pre32529
                  have p32530 : g32523 67 = (Value.int .i64 ((IntKind.i64.wrap two5.a0).tmod (IntKind.i64.wrap (1 + ((IntKind.i64.wrap n1).tmod 8))))) := pre32529 0 _ rfl rfl
                  refine head_run rfl (Exec.assign (v := Value.int .i64 ((IntKind.i64.wrap two5.a0).tmod (IntKind.i64.wrap (1 + ((IntKind.i64.wrap n1).tmod 8))))) rfl p32530 ?_)
                  exact head_done hS32527 rfl
                · intro g32531 s32532 w32533 l32534 hS32535 fr32536 pre32537
                  have p32538 : g32531 72 = (Value.int .i64 ((IntKind.i64.wrap two5.a1).tmod (IntKind.i64.wrap (1 + ((IntKind.i64.wrap n1).tmod 8))))) := pre32537 0 _ rfl rfl
                  refine head_run rfl (Exec.assign (v := Value.int .i64 ((IntKind.i64.wrap two5.a1).tmod (IntKind.i64.wrap (1 + ((IntKind.i64.wrap n1).tmod 8))))) rfl p32538 ?_)
                  exact head_done hS32535 rfl
                · intro g32539 s32540 w32541 l32542 hS32543 fr32544 hR32545
                  have p32546 : g32539 63 = (Value.pointer (some ⟨b29174, 0, none⟩)) := hR32545 0 rfl
                  have p32547 : g32539 64 = (Value.int .u8 (two5.a0)) := hR32545 1 rfl
                  have p32548 : g32539 65 = (Value.int .i64 (IntKind.i64.wrap two5.a0)) := hR32545 2 rfl
                  have p32549 : g32539 66 = (Value.int .i64 (IntKind.i64.wrap (1 + ((IntKind.i64.wrap n1).tmod 8)))) := hR32545 3 rfl
                  have p32550 : g32539 67 = (Value.int .i64 ((IntKind.i64.wrap two5.a0).tmod (IntKind.i64.wrap (1 + ((IntKind.i64.wrap n1).tmod 8))))) := hR32545 4 rfl
                  have p32551 : g32539 68 = (Value.pointer (some ⟨b29174, 1, none⟩)) := hR32545 5 rfl
                  have p32552 : g32539 69 = (Value.int .u8 (two5.a1)) := hR32545 6 rfl
                  have p32553 : g32539 70 = (Value.int .i64 (IntKind.i64.wrap two5.a1)) := hR32545 7 rfl
                  have p32554 : g32539 71 = (Value.int .i64 (IntKind.i64.wrap (1 + ((IntKind.i64.wrap n1).tmod 8)))) := hR32545 8 rfl
                  have p32555 : g32539 72 = (Value.int .i64 ((IntKind.i64.wrap two5.a1).tmod (IntKind.i64.wrap (1 + ((IntKind.i64.wrap n1).tmod 8))))) := hR32545 9 rfl
                  have p32556 : g32539 13 = (Value.int .i64 ((IntKind.i64.wrap two5.a0).tmod (IntKind.i64.wrap (1 + ((IntKind.i64.wrap n1).tmod 8))))) := hR32545 10 rfl
                  have p32557 : g32539 14 = (Value.int .i64 ((IntKind.i64.wrap two5.a1).tmod (IntKind.i64.wrap (1 + ((IntKind.i64.wrap n1).tmod 8))))) := hR32545 11 rfl
                  refine WL_nil (at_normal ?_)
                  refine W_seq ?_
                  refine W_region ?_
                  refine WL_step rfl rfl (Exec.move (v := Value.pointer none) rfl (Eq.trans (fr32544 8 rfl) p32317) ?_)
                  refine WL_step rfl rfl (Exec.move (v := Value.int .i64 ((IntKind.i64.wrap two5.a0).tmod (IntKind.i64.wrap (1 + ((IntKind.i64.wrap n1).tmod 8))))) rfl p32556 ?_)
                  refine WL_step rfl rfl (Exec.move (v := Value.int .i64 ((IntKind.i64.wrap two5.a1).tmod (IntKind.i64.wrap (1 + ((IntKind.i64.wrap n1).tmod 8))))) rfl p32557 ?_)
                  refine WL_step rfl rfl (Exec.call rfl rfl Try.func15 rfl N15 (args_cons rfl (args_cons rfl (args_cons rfl args_nil))) ((stn_Network_Distance_nil_sim (stn_Network_Distance_nil_tot ((IntKind.i64.wrap two5.a0).tmod (IntKind.i64.wrap (1 + ((IntKind.i64.wrap n1).tmod 8)))) ((IntKind.i64.wrap two5.a1).tmod (IntKind.i64.wrap (1 + ((IntKind.i64.wrap n1).tmod 8))))) hS32543 ).mono ?_))
                  rintro _ w32562 ⟨_, rfl, ⟨s32563, l32564, hS32565, rfl⟩⟩
                  refine ⟨_, rfl, ?_⟩
                  refine WL_step rfl rfl (Exec.move (v := Value.tuple #[Value.int .i64 ((stn_Network_Distance_nil_t ((IntKind.i64.wrap two5.a0).tmod (IntKind.i64.wrap (1 + ((IntKind.i64.wrap n1).tmod 8)))) ((IntKind.i64.wrap two5.a1).tmod (IntKind.i64.wrap (1 + ((IntKind.i64.wrap n1).tmod 8))))).1), errV 30 ((stn_Network_Distance_nil_t ((IntKind.i64.wrap two5.a0).tmod (IntKind.i64.wrap (1 + ((IntKind.i64.wrap n1).tmod 8)))) ((IntKind.i64.wrap two5.a1).tmod (IntKind.i64.wrap (1 + ((IntKind.i64.wrap n1).tmod 8))))).2)]) rfl rfl ?_)
                  refine WL_step rfl rfl (Exec.extract (v := Value.int .i64 ((stn_Network_Distance_nil_t ((IntKind.i64.wrap two5.a0).tmod (IntKind.i64.wrap (1 + ((IntKind.i64.wrap n1).tmod 8)))) ((IntKind.i64.wrap two5.a1).tmod (IntKind.i64.wrap (1 + ((IntKind.i64.wrap n1).tmod 8))))).1)) rfl rfl rfl ?_)
                  refine WL_step rfl rfl (Exec.extract (v := errV 30 ((stn_Network_Distance_nil_t ((IntKind.i64.wrap two5.a0).tmod (IntKind.i64.wrap (1 + ((IntKind.i64.wrap n1).tmod 8)))) ((IntKind.i64.wrap two5.a1).tmod (IntKind.i64.wrap (1 + ((IntKind.i64.wrap n1).tmod 8))))).2)) rfl rfl rfl ?_)
                  refine WL_step rfl rfl (Exec.assign (v := Value.int .i64 ((stn_Network_Distance_nil_t ((IntKind.i64.wrap two5.a0).tmod (IntKind.i64.wrap (1 + ((IntKind.i64.wrap n1).tmod 8)))) ((IntKind.i64.wrap two5.a1).tmod (IntKind.i64.wrap (1 + ((IntKind.i64.wrap n1).tmod 8))))).1)) rfl rfl ?_)
                  refine WL_step rfl rfl (Exec.assign (v := errV 30 ((stn_Network_Distance_nil_t ((IntKind.i64.wrap two5.a0).tmod (IntKind.i64.wrap (1 + ((IntKind.i64.wrap n1).tmod 8)))) ((IntKind.i64.wrap two5.a1).tmod (IntKind.i64.wrap (1 + ((IntKind.i64.wrap n1).tmod 8))))).2)) rfl rfl ?_)
                  refine WL_nil (at_normal ?_)
                  refine W_seq ?_
                  refine W_seq ?_
                  refine W_region ?_
                  refine WL_step rfl rfl (Exec.move (v := errV 30 ((stn_Network_Distance_nil_t ((IntKind.i64.wrap two5.a0).tmod (IntKind.i64.wrap (1 + ((IntKind.i64.wrap n1).tmod 8)))) ((IntKind.i64.wrap two5.a1).tmod (IntKind.i64.wrap (1 + ((IntKind.i64.wrap n1).tmod 8))))).2)) rfl rfl ?_)
                  refine WL_step rfl rfl (Exec.err_neq_nil (T := 30) Try.underlying26 rfl rfl rfl ?_)
                  refine WL_nil (at_normal ?_)
                  rcases ite_some hm with ⟨hc32566, hm⟩ | ⟨hc32566, hm⟩
                  · refine W_cond_t rfl hc32566 ?_
                    refine W_seq ?_
                    refine W_region ?_
                    refine WL_step rfl rfl (Exec.assign (v := Value.bool (false)) rfl rfl ?_)
                    refine WL_nil (at_normal ?_)
                    refine W_ret (at_ret ?_)
                    have e32568 := Option.some.inj hm
                    subst r
                    refine ⟨_, ret1 rfl, ?_⟩
                    have hS32569 := (hS32565).drop
                    have hS32570 := (hS32569).drop
                    have hS32571 := ((hS32570).drop).drop
                    exact ⟨s32563, (PHeap.le.trans (PHeap.le.trans (PHeap.le.trans (PHeap.le.trans (PHeap.le.trans l29202 l29259) l32095) l32312) l32542) l32564), hS32571, rfl⟩
                  · refine W_cond_f rfl hc32566 ?_
                    replace hc32566 := not_true hc32566
                    refine W_skip (at_normal ?_)
                    refine W_seq ?_
                    refine W_seq ?_
                    obtain ⟨t32586, ht32587, hm⟩ := bind_some hm
                    refine W_mid (M := fun f' w' => (un2 fun (z32584 : Bool) (l32585 : (List (List Int))) => ∃ (s32588 : PHeap) , PHeap.le s32563 s32588 ∧ St w0 s32588 (Res.box v32097 63 [v32098] :: Res.arr encRaw 49 v32098 v32099 :: Res.rows (encInt .i64) 3 v32099 l32585 :: H) w' ∧ f' 7 = Value.int .i64 (IntKind.i64.wrap (1 + ((IntKind.i64.wrap n1).tmod 8))) ∧ f' 8 = Value.pointer none ∧ f' 10 = Value.pointer (some ⟨v32097, 0, none⟩) ∧ f' 96 = Value.bool (z32584)) t32586) ?_ ?_
                    · refine W_region ?_
                      refine WL_step rfl rfl (Exec.move (v := Value.int .i64 ((stn_Network_Distance_nil_t ((IntKind.i64.wrap two5.a0).tmod (IntKind.i64.wrap (1 + ((IntKind.i64.wrap n1).tmod 8)))) ((IntKind.i64.wrap two5.a1).tmod (IntKind.i64.wrap (1 + ((IntKind.i64.wrap n1).tmod 8))))).1)) rfl rfl ?_)
                      refine WL_step rfl rfl (Exec.leq rfl rfl rfl ?_)
                      refine WL_step rfl rfl (Exec.move (v := Value.bool (decide (((stn_Network_Distance_nil_t ((IntKind.i64.wrap two5.a0).tmod (IntKind.i64.wrap (1 + ((IntKind.i64.wrap n1).tmod 8)))) ((IntKind.i64.wrap two5.a1).tmod (IntKind.i64.wrap (1 + ((IntKind.i64.wrap n1).tmod 8))))).1) ≤ 1099511627776))) rfl rfl ?_)
                      rcases ite_some ht32587 with ⟨hc32589, ht32587⟩ | ⟨hc32589, ht32587⟩
                      · refine WL_run rfl (yield_of rfl (congrArg Value.bool hc32589)) rfl (Exec.move (v := Value.int .i64 ((stn_Network_Distance_nil_t ((IntKind.i64.wrap two5.a0).tmod (IntKind.i64.wrap (1 + ((IntKind.i64.wrap n1).tmod 8)))) ((IntKind.i64.wrap two5.a1).tmod (IntKind.i64.wrap (1 + ((IntKind.i64.wrap n1).tmod 8))))).1)) rfl rfl ?_)
                        refine WL_run rfl (yield_of rfl (congrArg Value.bool hc32589)) rfl (Exec.geq rfl rfl rfl ?_)
                        refine WL_step rfl rfl (Exec.pick_t (v := Value.bool (decide ((-1099511627776) ≤ ((stn_Network_Distance_nil_t ((IntKind.i64.wrap two5.a0).tmod (IntKind.i64.wrap (1 + ((IntKind.i64.wrap n1).tmod 8)))) ((IntKind.i64.wrap two5.a1).tmod (IntKind.i64.wrap (1 + ((IntKind.i64.wrap n1).tmod 8))))).1)))) rfl (congrArg Value.bool hc32589) rfl ?_)
                        refine WL_step rfl rfl (Exec.move (v := Value.bool (decide ((-1099511627776) ≤ ((stn_Network_Distance_nil_t ((IntKind.i64.wrap two5.a0).tmod (IntKind.i64.wrap (1 + ((IntKind.i64.wrap n1).tmod 8)))) ((IntKind.i64.wrap two5.a1).tmod (IntKind.i64.wrap (1 + ((IntKind.i64.wrap n1).tmod 8))))).1)))) rfl rfl ?_)
                        rcases ite_some ht32587 with ⟨hc32590, ht32587⟩ | ⟨hc32590, ht32587⟩
                        · refine WL_run rfl (yield_of rfl (congrArg Value.bool hc32590)) rfl (Exec.move (v := Value.pointer (some ⟨v32097, 0, none⟩)) rfl (Eq.trans (fr32544 10 rfl) p32318) ?_)
                          refine WL_run rfl (yield_of rfl (congrArg Value.bool hc32590)) rfl (Exec.move (v := Value.int .i64 ((IntKind.i64.wrap two5.a0).tmod (IntKind.i64.wrap (1 + ((IntKind.i64.wrap n1).tmod 8))))) rfl p32556 ?_)
                          refine WL_run rfl (yield_of rfl (congrArg Value.bool hc32590)) rfl (Exec.move (v := Value.int .i64 ((IntKind.i64.wrap two5.a1).tmod (IntKind.i64.wrap (1 + ((IntKind.i64.wrap n1).tmod 8))))) rfl p32557 ?_)
                          refine WL_run rfl (yield_of rfl (congrArg Value.bool hc32590)) rfl (Exec.move (v := Value.int .i64 ((stn_Network_Distance_nil_t ((IntKind.i64.wrap two5.a0).tmod (IntKind.i64.wrap (1 + ((IntKind.i64.wrap n1).tmod 8)))) ((IntKind.i64.wrap two5.a1).tmod (IntKind.i64.wrap (1 + ((IntKind.i64.wrap n1).tmod 8))))).1)) rfl rfl ?_)
                          refine WL_run rfl (yield_of rfl (congrArg Value.bool hc32590)) rfl (Exec.build rfl (parts_cons (c := [Value.int .i64 ((IntKind.i64.wrap two5.a0).tmod (IntKind.i64.wrap (1 + ((IntKind.i64.wrap n1).tmod 8))))]) (cells_of rfl rfl) (parts_cons (c := [Value.int .i64 ((IntKind.i64.wrap two5.a1).tmod (IntKind.i64.wrap (1 + ((IntKind.i64.wrap n1).tmod 8))))]) (cells_of rfl rfl) (parts_cons (c := [Value.int .i64 ((stn_Network_Distance_nil_t ((IntKind.i64.wrap two5.a0).tmod (IntKind.i64.wrap (1 + ((IntKind.i64.wrap n1).tmod 8)))) ((IntKind.i64.wrap two5.a1).tmod (IntKind.i64.wrap (1 + ((IntKind.i64.wrap n1).tmod 8))))).1)]) (cells_of rfl rfl) parts_nil))) (v := Value.agg #[Value.int .i64 ((IntKind.i64.wrap two5.a0).tmod (IntKind.i64.wrap (1 + ((IntKind.i64.wrap n1).tmod 8)))), Value.int .i64 ((IntKind.i64.wrap two5.a1).tmod (IntKind.i64.wrap (1 + ((IntKind.i64.wrap n1).tmod 8)))), Value.int .i64 ((stn_Network_Distance_nil_t ((IntKind.i64.wrap two5.a0).tmod (IntKind.i64.wrap (1 + ((IntKind.i64.wrap n1).tmod 8)))) ((IntKind.i64.wrap two5.a1).tmod (IntKind.i64.wrap (1 + ((IntKind.i64.wrap n1).tmod 8))))).1)]) (fun _ => by kernel_rfl) ?_)
                          obtain ⟨t32591, q32592, ht32587⟩ := bind_some ht32587
                          obtain ⟨y32593, l32594⟩ := t32591
                          replace ht32587 := un2_eq ht32587
                          have hS32595 := ((hS32565).f3).f3
                          have hS32596 := (hS32595).f3
                          refine WL_run rfl (yield_of rfl (congrArg Value.bool hc32590)) rfl (Exec.call rfl rfl Try.func14 rfl N14 (args_cons rfl (args_cons rfl args_nil)) ((stn_Network_Add_sim q32592 hS32596 ).mono ?_))
                          rintro _ w32597 ⟨_, rfl, ⟨s32598, l32599, hS32600, rfl⟩⟩
                          refine ⟨_, rfl, ?_⟩
                          refine WL_run rfl (yield_of rfl (congrArg Value.bool hc32590)) rfl (Exec.err_neq_nil (T := 30) Try.underlying26 rfl rfl rfl ?_)
                          refine WL_step rfl rfl (Exec.pick_t (v := Value.bool (y32593.isSome)) rfl (congrArg Value.bool hc32590) rfl ?_)
                          refine WL_nil (at_normal ?_)
                          have e32601 := Option.some.inj ht32587
                          subst t32586
                          have hS32602 := ((hS32600).f3).drop
                          have hS32603 := ((hS32602).f2).f2
                          have hS32604 := (hS32603).f2
                          exact ⟨s32598, l32599, hS32604, (Eq.trans (fr32544 7 rfl) p32316), (Eq.trans (fr32544 8 rfl) p32317), (Eq.trans (fr32544 10 rfl) p32318), rfl⟩
                        · replace hc32590 := not_true hc32590
                          refine WL_pass rfl (yield_of rfl (congrArg Value.bool hc32590)) rfl rfl ?_
                          refine WL_pass rfl (yield_of rfl (congrArg Value.bool hc32590)) rfl rfl ?_
                          refine WL_pass rfl (yield_of rfl (congrArg Value.bool hc32590)) rfl rfl ?_
                          refine WL_pass rfl (yield_of rfl (congrArg Value.bool hc32590)) rfl rfl ?_
                          refine WL_pass rfl (yield_of rfl (congrArg Value.bool hc32590)) rfl rfl ?_
                          refine WL_pass rfl (yield_of rfl (congrArg Value.bool hc32590)) rfl rfl ?_
                          refine WL_pass rfl (yield_of rfl (congrArg Value.bool hc32590)) rfl rfl ?_
                          refine WL_step rfl rfl (Exec.pick_f (v := Value.bool (false)) rfl (congrArg Value.bool hc32590) rfl ?_)
                          refine WL_nil (at_normal ?_)
                          have e32605 := Option.some.inj ht32587
                          subst t32586
                          have hS32606 := (hS32565).drop
                          have hS32607 := ((hS32606).f2).f2
                          have hS32608 := (hS32607).f2
                          exact ⟨s32563, (PHeap.le_refl _), hS32608, (Eq.trans (fr32544 7 rfl) p32316), (Eq.trans (fr32544 8 rfl) p32317), (Eq.trans (fr32544 10 rfl) p32318), rfl⟩
                      · replace hc32589 := not_true hc32589
                        refine WL_pass rfl (yield_of rfl (congrArg Value.bool hc32589)) rfl rfl ?_
                        refine WL_pass rfl (yield_of rfl (congrArg Value.bool hc32589)) rfl rfl ?_
                        refine WL_step rfl rfl (Exec.pick_f (v := Value.bool (false)) rfl (congrArg Value.bool hc32589) rfl ?_)
                        refine WL_step rfl rfl (Exec.move (v := Value.bool (false)) rfl rfl ?_)
                        refine WL_pass rfl (yield_of rfl rfl) rfl rfl ?_
                        refine WL_pass rfl (yield_of rfl rfl) rfl rfl ?_
                        refine WL_pass rfl (yield_of rfl rfl) rfl rfl ?_
                        refine WL_pass rfl (yield_of rfl rfl) rfl rfl ?_
                        refine WL_pass rfl (yield_of rfl rfl) rfl rfl ?_
                        refine WL_pass rfl (yield_of rfl rfl) rfl rfl ?_
                        refine WL_pass rfl (yield_of rfl rfl) rfl rfl ?_
                        refine WL_step rfl rfl (Exec.pick_f (v := Value.bool (false)) rfl rfl rfl ?_)
                        refine WL_nil (at_normal ?_)
                        have e32609 := Option.some.inj ht32587
                        subst t32586
                        have hS32610 := (hS32565).drop
                        have hS32611 := ((hS32610).f2).f2
                        have hS32612 := (hS32611).f2
                        exact ⟨s32563, (PHeap.le_refl _), hS32612, (Eq.trans (fr32544 7 rfl) p32316), (Eq.trans (fr32544 8 rfl) p32317), (Eq.trans (fr32544 10 rfl) p32318), rfl⟩
                    · intro f32613 w32614 hM32615
                      obtain ⟨z32584, l32585⟩ := t32586
                      replace hm := un2_eq hm
                      obtain ⟨s32616, l32617, hS32618, p32619, p32620, p32621, p32622⟩ := hM32615
                      refine (at_normal ?_)
                      rcases ite_some hm with ⟨hc32623, hm⟩ | ⟨hc32623, hm⟩
                      · refine W_cond_t p32622 hc32623 ?_
                        refine W_seq ?_
                        refine W_region ?_
                        refine WL_step rfl rfl (Exec.assign (v := Value.bool (false)) rfl rfl ?_)
                        refine WL_nil (at_normal ?_)
                        refine W_ret (at_ret ?_)
                        have e32625 := Option.some.inj hm
                        subst r
                        refine ⟨_, ret1 rfl, ?_⟩
                        have hS32626 := (hS32618).drop
                        have hS32627 := ((hS32626).drop).drop
                        exact ⟨s32616, (PHeap.le.trans (PHeap.le.trans (PHeap.le.trans (PHeap.le.trans (PHeap.le.trans (PHeap.le.trans l29202 l29259) l32095) l32312) l32542) l32564) l32617), hS32627, rfl⟩
                      · refine W_cond_f p32622 hc32623 ?_
                        replace hc32623 := not_true hc32623
                        refine W_skip (at_normal ?_)
                        refine W_seq ?_
                        refine W_seq ?_
                        refine W_region ?_
                        refine WL_step rfl rfl (Exec.move (v := Value.int .i64 (IntKind.i64.wrap (1 + ((IntKind.i64.wrap n1).tmod 8)))) rfl p32619 ?_)
                        refine WL_step rfl rfl (Exec.move (v := Value.int .i64 (0)) rfl rfl ?_)
                        refine WL_nil (at_normal ?_)
                        obtain ⟨u32628, q32629, hm⟩ := bind_some hm
                        obtain ⟨c33103, hB33104, hr33105, hn33106, hb33107⟩ := ctl_some hm
                        refine W_mid (M := fun f' w' => ∃ s', (c33103 = .next s' ∨ c33103 = .brk s') ∧ (fun (_ : Unit) => ∃ (s33109 : PHeap) , PHeap.le s32616 s33109 ∧ St w0 s33109 (Res.box v32097 63 [v32098] :: Res.arr encRaw 49 v32098 v32099 :: Res.rows (encInt .i64) 3 v32099 l32585 :: H) w' ∧ f' 7 = Value.int .i64 (IntKind.i64.wrap (1 + ((IntKind.i64.wrap n1).tmod 8))) ∧ f' 8 = Value.pointer none ∧ f' 10 = Value.pointer (some ⟨v32097, 0, none⟩) ∧ f' 97 = Value.int .i64 (IntKind.i64.wrap (1 + ((IntKind.i64.wrap n1).tmod 8)))) s') ?_ ?_
                        · refine W_block (W_forC (fun k' s' f' w' => (fun (_ : Unit) => ∃ (s33108 : PHeap) , PHeap.le s32616 s33108 ∧ St w0 s33108 (Res.box v32097 63 [v32098] :: Res.arr encRaw 49 v32098 v32099 :: Res.rows (encInt .i64) 3 v32099 l32585 :: H) w' ∧ f' 7 = Value.int .i64 (IntKind.i64.wrap (1 + ((IntKind.i64.wrap n1).tmod 8))) ∧ f' 8 = Value.pointer none ∧ f' 10 = Value.pointer (some ⟨v32097, 0, none⟩) ∧ f' 97 = Value.int .i64 (IntKind.i64.wrap (1 + ((IntKind.i64.wrap n1).tmod 8))) ∧ f' 98 = Value.int .i64 (k' : Int)) s') hB33104 ?_ ?_ ?_)
                          · have hS33110 := ((hS32618).f2).f2
                            have hS33111 := (hS33110).f2
                            exact ⟨s32616, (PHeap.le_refl _), hS33111, p32619, p32620, p32621, rfl, rfl⟩
                          · intro i32630 t33119 c33113 f33114 w33115 hi33120 hI33116 hm33117 hres33118
                            obtain ⟨s33121, l33122, hS33123, p33124, p33125, p33126, p33127, x33128⟩ := hI33116
                            refine W_seq ?_
                            refine W_region ?_
                            refine WL_step rfl rfl (Exec.lss rfl x33128 p33127 ?_)
                            refine WL_nil (at_normal ?_)
                            refine W_seq ?_
                            refine W_true (congrArg Value.bool (decide_eq_true (by omega))) ?_
                            refine W_skip (at_normal ?_)
                            refine W_seq ?_
                            refine W_block ?_
                            refine W_seq ?_
                            refine W_region ?_
                            refine WL_step rfl rfl (Exec.move (v := Value.int .i64 ((i32630 : Int))) rfl x33128 ?_)
                            refine WL_step rfl rfl (Exec.assign (v := Value.int .i64 ((i32630 : Int))) rfl rfl ?_)
                            refine WL_nil (at_normal ?_)
                            refine W_seq ?_
                            refine W_region ?_
                            refine WL_step rfl rfl (Exec.move (v := Value.int .i64 (IntKind.i64.wrap (1 + ((IntKind.i64.wrap n1).tmod 8)))) rfl p33124 ?_)
                            refine WL_step rfl rfl (Exec.move (v := Value.int .i64 (0)) rfl rfl ?_)
                            refine WL_nil (at_normal ?_)
                            obtain ⟨u33129, q33130, hm33117⟩ := bind_some hm33117
                            obtain ⟨c33244, hB33245, hr33246, hn33247, hb33248⟩ := ctl_some hm33117
                            refine W_mid (M := fun f' w' => ∃ s', (c33244 = .next s' ∨ c33244 = .brk s') ∧ (fun (_ : Unit) => ∃ (s33250 : PHeap) , PHeap.le s33121 s33250 ∧ St w0 s33250 (Res.box v32097 63 [v32098] :: Res.arr encRaw 49 v32098 v32099 :: Res.rows (encInt .i64) 3 v32099 l32585 :: H) w' ∧ f' 7 = Value.int .i64 (IntKind.i64.wrap (1 + ((IntKind.i64.wrap n1).tmod 8))) ∧ f' 8 = Value.pointer none ∧ f' 10 = Value.pointer (some ⟨v32097, 0, none⟩) ∧ f' 16 = Value.int .i64 ((i32630 : Int)) ∧ f' 97 = Value.int .i64 (IntKind.i64.wrap (1 + ((IntKind.i64.wrap n1).tmod 8))) ∧ f' 98 = Value.int .i64 ((i32630 : Int)) ∧ f' 101 = Value.int .i64 (IntKind.i64.wrap (1 + ((IntKind.i64.wrap n1).tmod 8)))) s') ?_ ?_
                            · refine W_block (W_forC (fun k' s' f' w' => (fun (_ : Unit) => ∃ (s33249 : PHeap) , PHeap.le s33121 s33249 ∧ St w0 s33249 (Res.box v32097 63 [v32098] :: Res.arr encRaw 49 v32098 v32099 :: Res.rows (encInt .i64) 3 v32099 l32585 :: H) w' ∧ f' 7 = Value.int .i64 (IntKind.i64.wrap (1 + ((IntKind.i64.wrap n1).tmod 8))) ∧ f' 8 = Value.pointer none ∧ f' 10 = Value.pointer (some ⟨v32097, 0, none⟩) ∧ f' 16 = Value.int .i64 ((i32630 : Int)) ∧ f' 97 = Value.int .i64 (IntKind.i64.wrap (1 + ((IntKind.i64.wrap n1).tmod 8))) ∧ f' 98 = Value.int .i64 ((i32630 : Int)) ∧ f' 101 = Value.int .i64 (IntKind.i64.wrap (1 + ((IntKind.i64.wrap n1).tmod 8))) ∧ f' 102 = Value.int .i64 (k' : Int)) s') hB33245 ?_ ?_ ?_)
                              · have hS33251 := ((hS33123).f2).f2
                                have hS33252 := (hS33251).f2
                                exact ⟨s33121, (PHeap.le_refl _), hS33252, p33124, p33125, p33126, rfl, p33127, x33128, rfl, rfl⟩
                              · intro i33131 t33260 c33254 f33255 w33256 hi33261 hI33257 hm33258 hres33259
                                obtain ⟨s33262, l33263, hS33264, p33265, p33266, p33267, p33268, p33269, p33270, p33271, x33272⟩ := hI33257
                                refine W_seq ?_
                                refine W_region ?_
                                refine WL_step rfl rfl (Exec.lss rfl x33272 p33271 ?_)
                                refine WL_nil (at_normal ?_)
                                refine W_seq ?_
                                refine W_true (congrArg Value.bool (decide_eq_true (by omega))) ?_
                                refine W_skip (at_normal ?_)
                                refine W_seq ?_
                                refine W_block ?_
                                refine W_seq ?_
                                refine W_region ?_
                                refine WL_step rfl rfl (Exec.move (v := Value.int .i64 ((i33131 : Int))) rfl x33272 ?_)
                                refine WL_step rfl rfl (Exec.assign (v := Value.int .i64 ((i33131 : Int))) rfl rfl ?_)
                                refine WL_nil (at_normal ?_)
                                refine W_seq ?_
                                refine W_region ?_
                                refine WL_step rfl rfl (Exec.move (v := Value.pointer none) rfl p33266 ?_)
                                refine WL_step rfl rfl (Exec.move (v := Value.int .i64 ((i32630 : Int))) rfl p33268 ?_)
                                refine WL_step rfl rfl (Exec.move (v := Value.int .i64 ((i33131 : Int))) rfl rfl ?_)
                                refine WL_step rfl rfl (Exec.call rfl rfl Try.func15 rfl N15 (args_cons rfl (args_cons rfl (args_cons rfl args_nil))) ((stn_Network_Distance_nil_sim (stn_Network_Distance_nil_tot (i32630 : Int) (i33131 : Int)) hS33264 ).mono ?_))
                                rintro _ w33277 ⟨_, rfl, ⟨s33278, l33279, hS33280, rfl⟩⟩
                                refine ⟨_, rfl, ?_⟩
                                refine WL_step rfl rfl (Exec.move (v := Value.tuple #[Value.int .i64 ((stn_Network_Distance_nil_t (i32630 : Int) (i33131 : Int)).1), errV 30 ((stn_Network_Distance_nil_t (i32630 : Int) (i33131 : Int)).2)]) rfl rfl ?_)
                                refine WL_step rfl rfl (Exec.extract (v := Value.int .i64 ((stn_Network_Distance_nil_t (i32630 : Int) (i33131 : Int)).1)) rfl rfl rfl ?_)
                                refine WL_step rfl rfl (Exec.extract (v := errV 30 ((stn_Network_Distance_nil_t (i32630 : Int) (i33131 : Int)).2)) rfl rfl rfl ?_)
                                refine WL_step rfl rfl (Exec.assign (v := Value.int .i64 ((stn_Network_Distance_nil_t (i32630 : Int) (i33131 : Int)).1)) rfl rfl ?_)
                                refine WL_step rfl rfl (Exec.assign (v := errV 30 ((stn_Network_Distance_nil_t (i32630 : Int) (i33131 : Int)).2)) rfl rfl ?_)
                                refine WL_nil (at_normal ?_)
                                refine W_seq ?_
                                refine W_region ?_
                                refine WL_step rfl rfl (Exec.move (v := Value.pointer (some ⟨v32097, 0, none⟩)) rfl p33267 ?_)
                                refine WL_step rfl rfl (Exec.move (v := Value.int .i64 ((i32630 : Int))) rfl p33268 ?_)
                                refine WL_step rfl rfl (Exec.move (v := Value.int .i64 ((i33131 : Int))) rfl rfl ?_)
                                obtain ⟨t33291, q33292, hm33258⟩ := bind_some hm33258
                                obtain ⟨y33293, y33294⟩ := t33291
                                replace hm33258 := un2_eq hm33258
                                have hS33295 := ((hS33280).f2).f2
                                have hS33296 := (hS33295).f2
                                refine WL_step rfl rfl (Exec.call rfl rfl Try.func15 rfl N15 (args_cons rfl (args_cons rfl (args_cons rfl args_nil))) ((stn_Network_Distance_sim q33292 hS33296 ).mono ?_))
                                rintro _ w33297 ⟨_, rfl, ⟨s33298, l33299, hS33300, rfl⟩⟩
                                refine ⟨_, rfl, ?_⟩
                                refine WL_step rfl rfl (Exec.move (v := Value.tuple #[Value.int .i64 (y33293), errV 30 (y33294)]) rfl rfl ?_)
                                refine WL_step rfl rfl (Exec.extract (v := Value.int .i64 (y33293)) rfl rfl rfl ?_)
                                refine WL_step rfl rfl (Exec.extract (v := errV 30 (y33294)) rfl rfl rfl ?_)
                                refine WL_step rfl rfl (Exec.assign (v := Value.int .i64 (y33293)) rfl rfl ?_)
                                refine WL_step rfl rfl (Exec.assign (v := errV 30 (y33294)) rfl rfl ?_)
                                refine WL_nil (at_normal ?_)
                                refine W_seq ?_
                                refine W_mid (M := fun f' w' => ∃ (s33303 : PHeap) , PHeap.le s33298 s33303 ∧ St w0 s33303 (Res.box v32097 63 [v32098] :: Res.arr encRaw 49 v32098 v32099 :: Res.rows (encInt .i64) 3 v32099 l32585 :: H) w' ∧ f' 7 = Value.int .i64 (IntKind.i64.wrap (1 + ((IntKind.i64.wrap n1).tmod 8))) ∧ f' 8 = Value.pointer none ∧ f' 10 = Value.pointer (some ⟨v32097, 0, none⟩) ∧ f' 16 = Value.int .i64 ((i32630 : Int)) ∧ f' 97 = Value.int .i64 (IntKind.i64.wrap (1 + ((IntKind.i64.wrap n1).tmod 8))) ∧ f' 98 = Value.int .i64 ((i32630 : Int)) ∧ f' 101 = Value.int .i64 (IntKind.i64.wrap (1 + ((IntKind.i64.wrap n1).tmod 8))) ∧ f' 102 = Value.int .i64 ((i33131 : Int)) ∧ f' 129 = Value.bool (((((stn_Network_Distance_nil_t (i32630 : Int) (i33131 : Int)).2).isSome) || (y33294.isSome || !decide (((stn_Network_Distance_nil_t (i32630 : Int) (i33131 : Int)).1) = y33293))))) ?_ ?_
                                · refine W_region ?_
                                  refine WL_step rfl rfl (Exec.move (v := errV 30 ((stn_Network_Distance_nil_t (i32630 : Int) (i33131 : Int)).2)) rfl rfl ?_)
                                  refine WL_step rfl rfl (Exec.err_neq_nil (T := 30) Try.underlying26 rfl rfl rfl ?_)
                                  refine WL_step rfl rfl (Exec.move (v := Value.bool (((stn_Network_Distance_nil_t (i32630 : Int) (i33131 : Int)).2).isSome)) rfl rfl ?_)
                                  by_cases hc33304 : (((stn_Network_Distance_nil_t (i32630 : Int) (i33131 : Int)).2).isSome) = true
                                  · refine WL_pass rfl (yield_of rfl (congrArg Value.bool hc33304)) rfl rfl ?_
                                    refine WL_pass rfl (yield_of rfl (congrArg Value.bool hc33304)) rfl rfl ?_
                                    refine WL_step rfl rfl (Exec.pick_t (v := Value.bool (true)) rfl (congrArg Value.bool hc33304) rfl ?_)
                                    refine WL_step rfl rfl (Exec.move (v := Value.bool (true)) rfl rfl ?_)
                                    refine WL_pass rfl (yield_of rfl rfl) rfl rfl ?_
                                    refine WL_pass rfl (yield_of rfl rfl) rfl rfl ?_
                                    refine WL_pass rfl (yield_of rfl rfl) rfl rfl ?_
                                    refine WL_step rfl rfl (Exec.pick_t (v := Value.bool (true)) rfl rfl rfl ?_)
                                    refine WL_nil (at_normal ?_)
                                    have hS33305 := ((hS33300).f2).f2
                                    have hS33306 := (hS33305).f2
                                    exact ⟨s33298, (PHeap.le_refl _), hS33306, p33265, p33266, p33267, p33268, p33269, p33270, p33271, x33272, (congrArg Value.bool (or_t hc33304)).symm⟩
                                  · replace hc33304 := not_true hc33304
                                    refine WL_run rfl (yield_of rfl (congrArg Value.bool hc33304)) rfl (Exec.move (v := errV 30 (y33294)) rfl rfl ?_)
                                    refine WL_run rfl (yield_of rfl (congrArg Value.bool hc33304)) rfl (Exec.err_neq_nil (T := 30) Try.underlying26 rfl rfl rfl ?_)
                                    refine WL_step rfl rfl (Exec.pick_f (v := Value.bool (y33294.isSome)) rfl (congrArg Value.bool hc33304) rfl ?_)
                                    refine WL_step rfl rfl (Exec.move (v := Value.bool (y33294.isSome)) rfl rfl ?_)
                                    by_cases hc33307 : y33294.isSome = true
                                    · refine WL_pass rfl (yield_of rfl (congrArg Value.bool hc33307)) rfl rfl ?_
                                      refine WL_pass rfl (yield_of rfl (congrArg Value.bool hc33307)) rfl rfl ?_
                                      refine WL_pass rfl (yield_of rfl (congrArg Value.bool hc33307)) rfl rfl ?_
                                      refine WL_step rfl rfl (Exec.pick_t (v := Value.bool (true)) rfl (congrArg Value.bool hc33307) rfl ?_)
                                      refine WL_nil (at_normal ?_)
                                      have hS33308 := ((hS33300).f2).f2
                                      have hS33309 := (hS33308).f2
                                      exact ⟨s33298, (PHeap.le_refl _), hS33309, p33265, p33266, p33267, p33268, p33269, p33270, p33271, x33272, (congrArg Value.bool (Eq.trans (or_f hc33304) (or_t hc33307))).symm⟩
                                    · replace hc33307 := not_true hc33307
                                      refine WL_run rfl (yield_of rfl (congrArg Value.bool hc33307)) rfl (Exec.move (v := Value.int .i64 ((stn_Network_Distance_nil_t (i32630 : Int) (i33131 : Int)).1)) rfl rfl ?_)
                                      refine WL_run rfl (yield_of rfl (congrArg Value.bool hc33307)) rfl (Exec.move (v := Value.int .i64 (y33293)) rfl rfl ?_)
                                      refine WL_run rfl (yield_of rfl (congrArg Value.bool hc33307)) rfl (Exec.neq rfl rfl rfl ?_)
                                      refine WL_step rfl rfl (Exec.pick_f (v := Value.bool (!decide (((stn_Network_Distance_nil_t (i32630 : Int) (i33131 : Int)).1) = y33293))) rfl (congrArg Value.bool hc33307) rfl ?_)
                                      refine WL_nil (at_normal ?_)
                                      have hS33310 := ((hS33300).f2).f2
                                      have hS33311 := (hS33310).f2
                                      exact ⟨s33298, (PHeap.le_refl _), hS33311, p33265, p33266, p33267, p33268, p33269, p33270, p33271, x33272, (congrArg Value.bool (Eq.trans (or_f hc33304) (or_f hc33307))).symm⟩
                                · intro f33312 w33313 hM33314
                                  obtain ⟨s33315, l33316, hS33317, p33318, p33319, p33320, p33321, p33322, p33323, p33324, p33325, p33326⟩ := hM33314
                                  refine (at_normal ?_)
                                  rcases ite_some hm33258 with ⟨hc33327, hm33258⟩ | ⟨hc33327, hm33258⟩
                                  · refine W_cond_t p33326 hc33327 ?_
                                    refine W_seq ?_
                                    refine W_region ?_
                                    refine WL_step rfl rfl (Exec.assign (v := Value.bool (false)) rfl rfl ?_)
                                    refine WL_nil (at_normal ?_)
                                    refine W_ret (ib_ret (at_ret (at_ret (ib_ret (at_ret (ib_ret (at_ret (at_ret (ib_ret (at_ret (at_ret ?_)))))))))))
                                    have e33328 := Option.some.inj hm33258
                                    subst c33254
                                    have hq33329 := hr33246 _ (hres33259 (by intro _ h; cases h))
                                    have e33330 := Option.some.inj hq33329
                                    subst c33113
                                    have hq33331 := hr33105 _ (hres33118 (by intro _ h; cases h))
                                    have e33332 := Option.some.inj hq33331
                                    subst r
                                    refine ⟨_, ret1 rfl, ?_⟩
                                    have hS33333 := (hS33317).drop
                                    have hS33334 := ((hS33333).drop).drop
                                    exact ⟨s33315, (PHeap.le.trans (PHeap.le.trans (PHeap.le.trans (PHeap.le.trans (PHeap.le.trans (PHeap.le.trans (PHeap.le.trans (PHeap.le.trans (PHeap.le.trans (PHeap.le.trans (PHeap.le.trans l29202 l29259) l32095) l32312) l32542) l32564) l32617) l33122) l33263) l33279) l33299) l33316), hS33334, rfl⟩
                                  · refine W_cond_f p33326 hc33327 ?_
                                    replace hc33327 := not_true hc33327
                                    refine W_skip (ib_normal (at_normal ?_))
                                    refine W_region ?_
                                    refine WL_step rfl rfl (Exec.add rfl p33325 rfl ?_)
                                    refine WL_step rfl rfl (Exec.move (v := Value.int .i64 (IntKind.i64.wrap ((i33131 : Int) + 1))) rfl rfl ?_)
                                    refine WL_nil (at_normal ?_)
                                    have e33335 := Option.some.inj hm33258
                                    subst c33254
                                    have hS33336 := ((hS33317).f2).f2
                                    have hS33337 := (hS33336).f2
                                    refine ⟨_, rfl, ?_⟩; exact ⟨s33315, (PHeap.le.trans (PHeap.le.trans (PHeap.le.trans l33263 l33279) l33299) l33316), hS33337, p33318, p33319, p33320, p33321, p33322, p33323, p33324, (Eq.trans rfl (wrap_up hi33261 (by have h := must_some q33130; simp at h; simp only [maxLen]; omega)))⟩
                              · intro t33338 f33339 w33340 hI33341 hres33342
                                obtain ⟨s33343, l33344, hS33345, p33346, p33347, p33348, p33349, p33350, p33351, p33352, x33353⟩ := hI33341
                                refine W_seq ?_
                                refine W_region ?_
                                refine WL_step rfl rfl (Exec.lss rfl x33353 p33352 ?_)
                                refine WL_nil (at_normal ?_)
                                refine W_seq ?_
                                refine W_false (congrArg Value.bool (decide_eq_false (by omega))) ?_
                                refine W_exit (at_exit (at_exit (ib_here (at_normal ?_))))
                                have hS33354 := ((hS33345).f2).f2
                                have hS33355 := (hS33354).f2
                                refine ⟨_, .inl hres33342, ?_⟩; exact ⟨s33343, l33344, hS33355, p33346, p33347, p33348, p33349, p33350, p33351, p33352⟩
                            · rintro f33356 w33357 ⟨t33358, hc33359, hM33360⟩
                              have hm33117 := hc33359.elim (hn33247 _) (hb33248 _)
                              clear hc33359
                              obtain ⟨s33361, l33362, hS33363, p33364, p33365, p33366, p33367, p33368, p33369, p33370⟩ := hM33360
                              refine (ib_normal (at_normal ?_))
                              refine W_region ?_
                              refine WL_step rfl rfl (Exec.add rfl p33369 rfl ?_)
                              refine WL_step rfl rfl (Exec.move (v := Value.int .i64 (IntKind.i64.wrap ((i32630 : Int) + 1))) rfl rfl ?_)
                              refine WL_nil (at_normal ?_)
                              have e33371 := Option.some.inj hm33117
                              subst c33113
                              have hS33372 := ((hS33363).f2).f2
                              have hS33373 := (hS33372).f2
                              refine ⟨_, rfl, ?_⟩; exact ⟨s33361, (PHeap.le.trans l33122 l33362), hS33373, p33364, p33365, p33366, p33368, (Eq.trans rfl (wrap_up hi33120 (by have h := must_some q32629; simp at h; simp only [maxLen]; omega)))⟩
                          · intro t33374 f33375 w33376 hI33377 hres33378
                            obtain ⟨s33379, l33380, hS33381, p33382, p33383, p33384, p33385, x33386⟩ := hI33377
                            refine W_seq ?_
                            refine W_region ?_
                            refine WL_step rfl rfl (Exec.lss rfl x33386 p33385 ?_)
                            refine WL_nil (at_normal ?_)
                            refine W_seq ?_
                            refine W_false (congrArg Value.bool (decide_eq_false (by omega))) ?_
                            refine W_exit (at_exit (at_exit (ib_here (at_normal ?_))))
                            have hS33387 := ((hS33381).f2).f2
                            have hS33388 := (hS33387).f2
                            refine ⟨_, .inl hres33378, ?_⟩; exact ⟨s33379, l33380, hS33388, p33382, p33383, p33384, p33385⟩
                        · rintro f33389 w33390 ⟨t33391, hc33392, hM33393⟩
                          have hm := hc33392.elim (hn33106 _) (hb33107 _)
                          clear hc33392
                          obtain ⟨s33394, l33395, hS33396, p33397, p33398, p33399, p33400⟩ := hM33393
                          refine (at_normal ?_)
                          refine W_seq ?_
                          refine W_region ?_
                          refine WL_step rfl rfl (Exec.assign (v := Value.bool (true)) rfl rfl ?_)
                          refine WL_nil (at_normal ?_)
                          refine W_ret ?_
                          have e33402 := Option.some.inj hm
                          subst r
                          refine ⟨_, ret1 rfl, ?_⟩
                          have hS33403 := (hS33396).drop
                          have hS33404 := ((hS33403).drop).drop
                          exact ⟨s33394, (PHeap.le.trans (PHeap.le.trans (PHeap.le.trans (PHeap.le.trans (PHeap.le.trans (PHeap.le.trans (PHeap.le.trans l29202 l29259) l32095) l32312) l32542) l32564) l32617) l33395), hS33404, rfl⟩
          · replace hm := optC_none hm
            refine WL_step rfl rfl (Exec.move (v := Value.tuple #[Value.pointer none, errV 30 (y32090)]) rfl rfl ?_)
            refine WL_step rfl rfl (Exec.extract (v := Value.pointer none) rfl rfl rfl ?_)
            refine WL_step rfl rfl (Exec.extract (v := errV 30 (y32090)) rfl rfl rfl ?_)
            refine WL_step rfl rfl (Exec.assign (v := Value.pointer none) rfl rfl ?_)
            refine WL_step rfl rfl (Exec.assign (v := errV 30 (y32090)) rfl rfl ?_)
            refine WL_nil (at_normal ?_)
            refine W_seq ?_
            refine W_seq ?_
            refine W_region ?_
            refine WL_step rfl rfl (Exec.move (v := errV 30 (y32090)) rfl rfl ?_)
            refine WL_step rfl rfl (Exec.err_neq_nil (T := 30) Try.underlying26 rfl rfl rfl ?_)
            refine WL_nil (at_normal ?_)
            rcases ite_some hm with ⟨hc33405, hm⟩ | ⟨hc33405, hm⟩
            · refine W_cond_t rfl hc33405 ?_
              refine W_seq ?_
              refine W_region ?_
              refine WL_step rfl rfl (Exec.assign (v := Value.bool (false)) rfl rfl ?_)
              refine WL_nil (at_normal ?_)
              refine W_ret (at_ret ?_)
              have e33407 := Option.some.inj hm
              subst r
              refine ⟨_, ret1 rfl, ?_⟩
              have hS33408 := (hS32103).drop
              exact ⟨s32101, (PHeap.le.trans (PHeap.le.trans l29202 l29259) l32102), hS33408, rfl⟩
            · refine W_cond_f rfl hc33405 ?_
              replace hc33405 := not_true hc33405
              refine W_skip (at_normal ?_)
              refine W_seq ?_
              refine W_seq ?_
              refine W_region ?_
              refine WL_step rfl rfl (Exec.move (v := v3) rfl p29205 ?_)
              refine WL_step rfl rfl (Exec.len_rep S22 rfl rfl (a4.mono (PHeap.le.trans (PHeap.le.trans l29202 l29259) l32102)) ?_)
              refine WL_step rfl rfl (Exec.sub rfl rfl rfl ?_)
              refine WL_step rfl rfl (Exec.assign (v := Value.int .i64 (IntKind.i64.wrap ((bounds2.length : Int) - 1))) rfl rfl ?_)
              refine WL_nil (at_normal ?_)
              obtain ⟨c33487, hB33488, hr33489, hn33490, hb33491⟩ := ctl_some hm
              refine W_mid (M := fun f' w' => ∃ s', (c33487 = .next s' ∨ c33487 = .brk s') ∧ (fun (i33486 : Int) => ∃ (s33493 : PHeap) , PHeap.le s32101 s33493 ∧ St w0 s33493 (Res.box b29174 42 [Value.int .u8 (two5.a0), Value.int .u8 (two5.a1)] :: H) w' ∧ f' 1 = v3 ∧ f' 5 = Value.pointer (some ⟨b29174, 0, none⟩) ∧ f' 7 = Value.int .i64 (IntKind.i64.wrap (1 + ((IntKind.i64.wrap n1).tmod 8))) ∧ f' 8 = Value.pointer none ∧ f' 10 = Value.pointer none ∧ f' 12 = Value.int .i64 (i33486)) s') ?_ ?_
              · refine W_block (W_while (fun s' f' w' => (fun (i33434 : Int) => ∃ (s33492 : PHeap) , PHeap.le s32101 s33492 ∧ St w0 s33492 (Res.box b29174 42 [Value.int .u8 (two5.a0), Value.int .u8 (two5.a1)] :: H) w' ∧ f' 1 = v3 ∧ f' 5 = Value.pointer (some ⟨b29174, 0, none⟩) ∧ f' 7 = Value.int .i64 (IntKind.i64.wrap (1 + ((IntKind.i64.wrap n1).tmod 8))) ∧ f' 8 = Value.pointer none ∧ f' 10 = Value.pointer none ∧ f' 12 = Value.int .i64 (i33434)) s') hB33488 ?_ ?_)
                · exact ⟨s32101, (PHeap.le_refl _), hS32103, p29205, p29206, rfl, rfl, rfl, rfl⟩
                · intro i33434 c33495 f33496 w33497 hI33498 hm33499 hres33500
                  obtain ⟨s33501, l33502, hS33503, p33504, p33505, p33506, p33507, p33508, p33509⟩ := hI33498
                  refine W_seq ?_
                  refine W_seq ?_
                  refine W_region ?_
                  refine WL_step rfl rfl (Exec.move (v := Value.int .i64 (i33434)) rfl p33509 ?_)
                  refine WL_step rfl rfl (Exec.geq rfl rfl rfl ?_)
                  refine WL_nil (at_normal ?_)
                  rcases ite_some hm33499 with ⟨hc33510, hm33499⟩ | ⟨hc33510, hm33499⟩
                  · refine W_cond_t rfl hc33510 ?_
                    refine W_skip (at_normal ?_)
                    refine W_seq ?_
                    refine W_block ?_
                    refine W_seq ?_
                    refine W_region ?_
                    refine WL_step rfl rfl (Exec.move (v := Value.pointer none) rfl p33508 ?_)
                    refine WL_step rfl rfl (Exec.move (v := v3) rfl p33504 ?_)
                    refine WL_step rfl rfl (Exec.move (v := Value.int .i64 (i33434)) rfl p33509 ?_)
                    obtain ⟨x33522, q33523, hm33499⟩ := bind_some hm33499
                    refine WL_step rfl rfl (Exec.index_rep S22 rfl rfl rfl (a4.mono (PHeap.le.trans (PHeap.le.trans (PHeap.le.trans l29202 l29259) l32102) l33502)) q33523 ?_)
                    intro b33524 o33525 a33526
                    refine WL_step rfl rfl (Exec.load_at (E := encBound) hS33503 A32 rfl rfl rfl a33526 ?_)
                    intro v33527 q33528
                    obtain rfl := encBound_val.1 q33528
                    refine WL_step rfl rfl (Exec.call rfl rfl Try.func14 rfl N14 (args_cons rfl (args_cons rfl args_nil)) ((stn_Network_Add_nil_sim (stn_Network_Add_nil_tot x33522) hS33503 ).mono ?_))
                    rintro _ w33529 ⟨_, rfl, ⟨s33530, l33531, hS33532, rfl⟩⟩
                    refine ⟨_, rfl, ?_⟩
                    refine WL_step rfl rfl (Exec.err_neq_nil (T := 30) Try.underlying26 rfl rfl rfl ?_)
                    refine WL_nil (at_normal ?_)
                    rcases ite_some hm33499 with ⟨hc33533, hm33499⟩ | ⟨hc33533, hm33499⟩
                    · refine W_cond_t rfl hc33533 ?_
                      refine W_seq ?_
                      refine W_region ?_
                      refine WL_step rfl rfl (Exec.assign (v := Value.bool (false)) rfl rfl ?_)
                      refine WL_nil (at_normal ?_)
                      refine W_ret (ib_ret (at_ret (at_ret (ib_ret (at_ret (at_ret ?_))))))
                      have e33534 := Option.some.inj hm33499
                      subst c33495
                      have hq33535 := hr33489 _ (hres33500 (by intro _ h; cases h))
                      have e33536 := Option.some.inj hq33535
                      subst r
                      refine ⟨_, ret1 rfl, ?_⟩
                      have hS33537 := (hS33532).drop
                      exact ⟨s33530, (PHeap.le.trans (PHeap.le.trans (PHeap.le.trans (PHeap.le.trans l29202 l29259) l32102) l33502) l33531), hS33537, rfl⟩
                    · refine W_cond_f rfl hc33533 ?_
                      replace hc33533 := not_true hc33533
                      refine W_skip (ib_normal (at_normal ?_))
                      refine W_region ?_
                      refine WL_step rfl rfl (Exec.move (v := Value.int .i64 (i33434)) rfl p33509 ?_)
                      refine WL_step rfl rfl (Exec.sub rfl rfl rfl ?_)
                      refine WL_step rfl rfl (Exec.assign (v := Value.int .i64 (IntKind.i64.wrap (i33434 - 1))) rfl rfl ?_)
                      refine WL_nil (at_normal ?_)
                      have e33538 := Option.some.inj hm33499
                      subst c33495
                      refine ⟨_, rfl, ?_⟩; exact ⟨s33530, (PHeap.le.trans l33502 l33531), hS33532, p33504, p33505, p33506, p33507, p33508, rfl⟩
                  · refine W_cond_f rfl hc33510 ?_
                    replace hc33510 := not_true hc33510
                    refine W_exit (at_exit (at_exit (ib_here (at_normal ?_))))
                    have e33539 := Option.some.inj hm33499
                    subst c33495
                    refine ⟨_, .inr (hres33500 (by intro _ h; cases h)), ?_⟩; exact ⟨s33501, l33502, hS33503, p33504, p33505, p33506, p33507, p33508, p33509⟩
              · rintro f33540 w33541 ⟨i33486, hc33542, hM33543⟩
                have hm := hc33542.elim (hn33490 _) (hb33491 _)
                clear hc33542
                obtain ⟨s33544, l33545, hS33546, p33547, p33548, p33549, p33550, p33551, p33552⟩ := hM33543
                refine (at_normal ?_)
                refine W_seq ?_
                obtain ⟨u33676, q33677, hm⟩ := bind_some hm
                refine W_drawn (n0 := 12) hmix (by kernel_rfl) [RP.eq (Value.pointer (some ⟨b29174, 0, none⟩)), RP.eq (Value.int .u8 (two5.a0)), RP.eq (Value.int .i64 (IntKind.i64.wrap two5.a0)), RP.eq (Value.int .i64 (IntKind.i64.wrap (1 + ((IntKind.i64.wrap n1).tmod 8)))), RP.eq (Value.int .i64 ((IntKind.i64.wrap two5.a0).tmod (IntKind.i64.wrap (1 + ((IntKind.i64.wrap n1).tmod 8))))), RP.eq (Value.pointer (some ⟨b29174, 1, none⟩)), RP.eq (Value.int .u8 (two5.a1)), RP.eq (Value.int .i64 (IntKind.i64.wrap two5.a1)), RP.eq (Value.int .i64 (IntKind.i64.wrap (1 + ((IntKind.i64.wrap n1).tmod 8)))), RP.eq (Value.int .i64 ((IntKind.i64.wrap two5.a1).tmod (IntKind.i64.wrap (1 + ((IntKind.i64.wrap n1).tmod 8))))), RP.eq (Value.int .i64 ((IntKind.i64.wrap two5.a0).tmod (IntKind.i64.wrap (1 + ((IntKind.i64.wrap n1).tmod 8))))), RP.eq (Value.int .i64 ((IntKind.i64.wrap two5.a1).tmod (IntKind.i64.wrap (1 + ((IntKind.i64.wrap n1).tmod 8)))))] hS33546 (HeadAll.cons ?_ (HeadAll.cons ?_ (HeadAll.cons ?_ (HeadAll.cons ?_ (HeadAll.cons ?_ (HeadAll.cons ?_ (HeadAll.cons ?_ (HeadAll.cons ?_ (HeadAll.cons ?_ (HeadAll.cons ?_ (HeadAll.cons ?_ (HeadAll.cons ?_ (HeadAll.nil))))))))))))) ?_
                · intro g33678 s33679 w33680 l33681 hS33682 fr33683 pre33684
                  refine head_run rfl (Exec.index_parr Try.underlying42 A5 rfl (Eq.trans (fr33683 5 rfl) p33548) rfl (by decide) rfl ?_)
                  exact head_done hS33682 rfl
                · intro g33685 s33686 w33687 l33688 hS33689 fr33690 pre33691
                  have p33692 : g33685 63 = (Value.pointer (some ⟨b29174, 0, none⟩)) := pre33691 0 _ rfl rfl
                  refine head_run rfl (Exec.load_box (hS33689) A5 rfl p33692 rfl ?_)
                  exact head_done hS33689 rfl
                · intro g33693 s33694 w33695 l33696 hS33697 fr33698 pre33699
                  have p33700 : g33693 64 = (Value.int .u8 (two5.a0)) := pre33699 0 _ rfl rfl
                  refine head_run rfl (Exec.convert_int (by rw [Try.underlying5]; rfl) Try.underlying3 rfl p33700 ?_)
                  exact head_done hS33697 rfl
                · intro g33701 s33702 w33703 l33704 hS33705 fr33706 pre33707
                  refine head_run rfl (Exec.move (v := Value.int .i64 (IntKind.i64.wrap (1 + ((IntKind.i64.wrap n1).tmod 8)))) rfl (Eq.trans (fr33706 7 rfl) p33549) ?_)
                  exact head_done hS33705 rfl
                · intro g33708 s33709 w33710 l33711 hS33712 fr33713 pre33714
                  have p33715 : g33708 65 = (Value.int .i64 (IntKind.i64.wrap two5.a0)) := pre33714 0 _ rfl rfl
                  have p33716 : g33708 66 = (Value.int .i64 (IntKind.i64.wrap (1 + ((IntKind.i64.wrap n1).tmod 8)))) := pre33714 1 _ rfl rfl
                  refine head_run rfl (Exec.rem rfl p33715 p33716 (by simpa using must_some q33677) ?_)
                  exact head_done hS33712 rfl
                · intro g33717 s33718 w33719 l33720 hS33721 fr33722 pre33723
                  refine head_run rfl (Exec.index_parr Try.underlying42 A5 rfl (Eq.trans (fr33722 5 rfl) p33548) rfl (by decide) rfl ?_)
                  exact head_done hS33721 rfl
                · intro g33724 s33725 w33726 l33727 hS33728 fr33729 pre33730
                  have p33731 : g33724 68 = (Value.pointer (some ⟨b29174, 1, none⟩)) := pre33730 0 _ rfl rfl
                  refine head_run rfl (Exec.load_box (hS33728) A5 rfl p33731 rfl ?_)
                  exact head_done hS33728 rfl
                · intro g33732 s33733 w33734 l33735 hS33736 fr33737 pre33738
                  have p33739 : g33732 69 = (Value.int .u8 (two5.a1)) := pre33738 0 _ rfl rfl
                  refine head_run rfl (Exec.convert_int (by rw [Try.underlying5]; rfl) Try.underlying3 rfl p33739 ?_)
                  exact head_done hS33736 rfl
                · intro g33740 s33741 w33742 l33743 hS33744 fr33745 pre33746
                  refine head_run rfl (Exec.move (v := Value.int .i64 (IntKind.i64.wrap (1 + ((IntKind.i64.wrap n1).tmod 8)))) rfl (Eq.trans (fr33745 7 rfl) p33549) ?_)
                  exact head_done hS33744 rfl
                · intro g33747 s33748 w33749 l33750 hS33751 fr33752 pre33753
                  have p33754 : g33747 70 = (Value.int .i64 (IntKind.i64.wrap two5.a1)) := pre33753 0 _ rfl rfl
                  have p33755 : g33747 71 = (Value.int .i64 (IntKind.i64.wrap (1 + ((IntKind.i64.wrap n1).tmod 8)))) := pre33753 1 _ rfl rfl
                  refine head_run rfl (Exec.rem rfl p33754 p33755 (by simpa using must_some q33677) ?_)
                  exact head_done hS33751 rfl
                · intro g33756 s33757 w33758 l33759 hS33760 fr33761 pre33762
                  have p33763 : g33756 67 = (Value.int .i64 ((IntKind.i64.wrap two5.a0).tmod (IntKind.i64.wrap (1 + ((IntKind.i64.wrap n1).tmod 8))))) := pre33762 0 _ rfl rfl
                  refine head_run rfl (Exec.assign (v := Value.int .i64 ((IntKind.i64.wrap two5.a0).tmod (IntKind.i64.wrap (1 + ((IntKind.i64.wrap n1).tmod 8))))) rfl p33763 ?_)
                  exact head_done hS33760 rfl
                · intro g33764 s33765 w33766 l33767 hS33768 fr33769 pre33770
                  have p33771 : g33764 72 = (Value.int .i64 ((IntKind.i64.wrap two5.a1).tmod (IntKind.i64.wrap (1 + ((IntKind.i64.wrap n1).tmod 8))))) := pre33770 0 _ rfl rfl
                  refine head_run rfl (Exec.assign (v := Value.int .i64 ((IntKind.i64.wrap two5.a1).tmod (IntKind.i64.wrap (1 + ((IntKind.i64.wrap n1).tmod 8))))) rfl p33771 ?_)
                  exact head_done hS33768 rfl
                · intro g33772 s33773 w33774 l33775 hS33776 fr33777 hR33778
                  have p33779 : g33772 63 = (Value.pointer (some ⟨b29174, 0, none⟩)) := hR33778 0 rfl
                  have p33780 : g33772 64 = (Value.int .u8 (two5.a0)) := hR33778 1 rfl
                  have p33781 : g33772 65 = (Value.int .i64 (IntKind.i64.wrap two5.a0)) := hR33778 2 rfl
                  have p33782 : g33772 66 = (Value.int .i64 (IntKind.i64.wrap (1 + ((IntKind.i64.wrap n1).tmod 8)))) := hR33778 3 rfl
                  have p33783 : g33772 67 = (Value.int .i64 ((IntKind.i64.wrap two5.a0).tmod (IntKind.i64.wrap (1 + ((IntKind.i64.wrap n1).tmod 8))))) := hR33778 4 rfl
                  have p33784 : g33772 68 = (Value.pointer (some ⟨b29174, 1, none⟩)) := hR33778 5 rfl
                  have p33785 : g33772 69 = (Value.int .u8 (two5.a1)) := hR33778 6 rfl
                  have p33786 : g33772 70 = (Value.int .i64 (IntKind.i64.wrap two5.a1)) := hR33778 7 rfl
                  have p33787 : g33772 71 = (Value.int .i64 (IntKind.i64.wrap (1 + ((IntKind.i64.wrap n1).tmod 8)))) := hR33778 8 rfl
                  have p33788 : g33772 72 = (Value.int .i64 ((IntKind.i64.wrap two5.a1).tmod (IntKind.i64.wrap (1 + ((IntKind.i64.wrap n1).tmod 8))))) := hR33778 9 rfl
                  have p33789 : g33772 13 = (Value.int .i64 ((IntKind.i64.wrap two5.a0).tmod (IntKind.i64.wrap (1 + ((IntKind.i64.wrap n1).tmod 8))))) := hR33778 10 rfl
                  have p33790 : g33772 14 = (Value.int .i64 ((IntKind.i64.wrap two5.a1).tmod (IntKind.i64.wrap (1 + ((IntKind.i64.wrap n1).tmod 8))))) := hR33778 11 rfl
                  refine WL_nil (at_normal ?_)
                  refine W_seq ?_
                  refine W_region ?_
                  refine WL_step rfl rfl (Exec.move (v := Value.pointer none) rfl (Eq.trans (fr33777 8 rfl) p33550) ?_)
                  refine WL_step rfl rfl (Exec.move (v := Value.int .i64 ((IntKind.i64.wrap two5.a0).tmod (IntKind.i64.wrap (1 + ((IntKind.i64.wrap n1).tmod 8))))) rfl p33789 ?_)
                  refine WL_step rfl rfl (Exec.move (v := Value.int .i64 ((IntKind.i64.wrap two5.a1).tmod (IntKind.i64.wrap (1 + ((IntKind.i64.wrap n1).tmod 8))))) rfl p33790 ?_)
                  refine WL_step rfl rfl (Exec.call rfl rfl Try.func15 rfl N15 (args_cons rfl (args_cons rfl (args_cons rfl args_nil))) ((stn_Network_Distance_nil_sim (stn_Network_Distance_nil_tot ((IntKind.i64.wrap two5.a0).tmod (IntKind.i64.wrap (1 + ((IntKind.i64.wrap n1).tmod 8)))) ((IntKind.i64.wrap two5.a1).tmod (IntKind.i64.wrap (1 + ((IntKind.i64.wrap n1).tmod 8))))) hS33776 ).mono ?_))
                  rintro _ w33795 ⟨_, rfl, ⟨s33796, l33797, hS33798, rfl⟩⟩
                  refine ⟨_, rfl, ?_⟩
                  refine WL_step rfl rfl (Exec.move (v := Value.tuple #[Value.int .i64 ((stn_Network_Distance_nil_t ((IntKind.i64.wrap two5.a0).tmod (IntKind.i64.wrap (1 + ((IntKind.i64.wrap n1).tmod 8)))) ((IntKind.i64.wrap two5.a1).tmod (IntKind.i64.wrap (1 + ((IntKind.i64.wrap n1).tmod 8))))).1), errV 30 ((stn_Network_Distance_nil_t ((IntKind.i64.wrap two5.a0).tmod (IntKind.i64.wrap (1 + ((IntKind.i64.wrap n1).tmod 8)))) ((IntKind.i64.wrap two5.a1).tmod (IntKind.i64.wrap (1 + ((IntKind.i64.wrap n1).tmod 8))))).2)]) rfl rfl ?_)
                  refine WL_step rfl rfl (Exec.extract (v := Value.int .i64 ((stn_Network_Distance_nil_t ((IntKind.i64.wrap two5.a0).tmod (IntKind.i64.wrap (1 + ((IntKind.i64.wrap n1).tmod 8)))) ((IntKind.i64.wrap two5.a1).tmod (IntKind.i64.wrap (1 + ((IntKind.i64.wrap n1).tmod 8))))).1)) rfl rfl rfl ?_)
                  refine WL_step rfl rfl (Exec.extract (v := errV 30 ((stn_Network_Distance_nil_t ((IntKind.i64.wrap two5.a0).tmod (IntKind.i64.wrap (1 + ((IntKind.i64.wrap n1).tmod 8)))) ((IntKind.i64.wrap two5.a1).tmod (IntKind.i64.wrap (1 + ((IntKind.i64.wrap n1).tmod 8))))).2)) rfl rfl rfl ?_)
                  refine WL_step rfl rfl (Exec.assign (v := Value.int .i64 ((stn_Network_Distance_nil_t ((IntKind.i64.wrap two5.a0).tmod (IntKind.i64.wrap (1 + ((IntKind.i64.wrap n1).tmod 8)))) ((IntKind.i64.wrap two5.a1).tmod (IntKind.i64.wrap (1 + ((IntKind.i64.wrap n1).tmod 8))))).1)) rfl rfl ?_)
                  refine WL_step rfl rfl (Exec.assign (v := errV 30 ((stn_Network_Distance_nil_t ((IntKind.i64.wrap two5.a0).tmod (IntKind.i64.wrap (1 + ((IntKind.i64.wrap n1).tmod 8)))) ((IntKind.i64.wrap two5.a1).tmod (IntKind.i64.wrap (1 + ((IntKind.i64.wrap n1).tmod 8))))).2)) rfl rfl ?_)
                  refine WL_nil (at_normal ?_)
                  refine W_seq ?_
                  refine W_seq ?_
                  refine W_region ?_
                  refine WL_step rfl rfl (Exec.move (v := errV 30 ((stn_Network_Distance_nil_t ((IntKind.i64.wrap two5.a0).tmod (IntKind.i64.wrap (1 + ((IntKind.i64.wrap n1).tmod 8)))) ((IntKind.i64.wrap two5.a1).tmod (IntKind.i64.wrap (1 + ((IntKind.i64.wrap n1).tmod 8))))).2)) rfl rfl ?_)
                  refine WL_step rfl rfl (Exec.err_neq_nil (T := 30) Try.underlying26 rfl rfl rfl ?_)
                  refine WL_nil (at_normal ?_)
                  rcases ite_some hm with ⟨hc33799, hm⟩ | ⟨hc33799, hm⟩
                  · refine W_cond_t rfl hc33799 ?_
                    refine W_seq ?_
                    refine W_region ?_
                    refine WL_step rfl rfl (Exec.assign (v := Value.bool (false)) rfl rfl ?_)
                    refine WL_nil (at_normal ?_)
                    refine W_ret (at_ret ?_)
                    have e33801 := Option.some.inj hm
                    subst r
                    refine ⟨_, ret1 rfl, ?_⟩
                    have hS33802 := (hS33798).drop
                    exact ⟨s33796, (PHeap.le.trans (PHeap.le.trans (PHeap.le.trans (PHeap.le.trans (PHeap.le.trans l29202 l29259) l32102) l33545) l33775) l33797), hS33802, rfl⟩
                  · refine W_cond_f rfl hc33799 ?_
                    replace hc33799 := not_true hc33799
                    refine W_skip (at_normal ?_)
                    refine W_seq ?_
                    refine W_seq ?_
                    refine W_mid (M := fun f' w' => ∃ (s33809 : PHeap) , PHeap.le s33796 s33809 ∧ St w0 s33809 (H) w' ∧ f' 7 = Value.int .i64 (IntKind.i64.wrap (1 + ((IntKind.i64.wrap n1).tmod 8))) ∧ f' 8 = Value.pointer none ∧ f' 10 = Value.pointer none ∧ f' 96 = Value.bool (((decide (((stn_Network_Distance_nil_t ((IntKind.i64.wrap two5.a0).tmod (IntKind.i64.wrap (1 + ((IntKind.i64.wrap n1).tmod 8)))) ((IntKind.i64.wrap two5.a1).tmod (IntKind.i64.wrap (1 + ((IntKind.i64.wrap n1).tmod 8))))).1) ≤ 1099511627776)) && ((decide ((-1099511627776) ≤ ((stn_Network_Distance_nil_t ((IntKind.i64.wrap two5.a0).tmod (IntKind.i64.wrap (1 + ((IntKind.i64.wrap n1).tmod 8)))) ((IntKind.i64.wrap two5.a1).tmod (IntKind.i64.wrap (1 + ((IntKind.i64.wrap n1).tmod 8))))).1))) && (stn_Network_Add_nil_t (⟨(IntKind.i64.wrap two5.a0).tmod (IntKind.i64.wrap (1 + ((IntKind.i64.wrap n1).tmod 8))), (IntKind.i64.wrap two5.a1).tmod (IntKind.i64.wrap (1 + ((IntKind.i64.wrap n1).tmod 8))), (stn_Network_Distance_nil_t ((IntKind.i64.wrap two5.a0).tmod (IntKind.i64.wrap (1 + ((IntKind.i64.wrap n1).tmod 8)))) ((IntKind.i64.wrap two5.a1).tmod (IntKind.i64.wrap (1 + ((IntKind.i64.wrap n1).tmod 8))))).1⟩ : Bound)).isSome)))) ?_ ?_
                    · refine W_region ?_
                      refine WL_step rfl rfl (Exec.move (v := Value.int .i64 ((stn_Network_Distance_nil_t ((IntKind.i64.wrap two5.a0).tmod (IntKind.i64.wrap (1 + ((IntKind.i64.wrap n1).tmod 8)))) ((IntKind.i64.wrap two5.a1).tmod (IntKind.i64.wrap (1 + ((IntKind.i64.wrap n1).tmod 8))))).1)) rfl rfl ?_)
                      refine WL_step rfl rfl (Exec.leq rfl rfl rfl ?_)
                      refine WL_step rfl rfl (Exec.move (v := Value.bool (decide (((stn_Network_Distance_nil_t ((IntKind.i64.wrap two5.a0).tmod (IntKind.i64.wrap (1 + ((IntKind.i64.wrap n1).tmod 8)))) ((IntKind.i64.wrap two5.a1).tmod (IntKind.i64.wrap (1 + ((IntKind.i64.wrap n1).tmod 8))))).1) ≤ 1099511627776))) rfl rfl ?_)
                      by_cases hc33810 : (decide (((stn_Network_Distance_nil_t ((IntKind.i64.wrap two5.a0).tmod (IntKind.i64.wrap (1 + ((IntKind.i64.wrap n1).tmod 8)))) ((IntKind.i64.wrap two5.a1).tmod (IntKind.i64.wrap (1 + ((IntKind.i64.wrap n1).tmod 8))))).1) ≤ 1099511627776)) = true
                      · refine WL_run rfl (yield_of rfl (congrArg Value.bool hc33810)) rfl (Exec.move (v := Value.int .i64 ((stn_Network_Distance_nil_t ((IntKind.i64.wrap two5.a0).tmod (IntKind.i64.wrap (1 + ((IntKind.i64.wrap n1).tmod 8)))) ((IntKind.i64.wrap two5.a1).tmod (IntKind.i64.wrap (1 + ((IntKind.i64.wrap n1).tmod 8))))).1)) rfl rfl ?_)
                        refine WL_run rfl (yield_of rfl (congrArg Value.bool hc33810)) rfl (Exec.geq rfl rfl rfl ?_)
                        refine WL_step rfl rfl (Exec.pick_t (v := Value.bool (decide ((-1099511627776) ≤ ((stn_Network_Distance_nil_t ((IntKind.i64.wrap two5.a0).tmod (IntKind.i64.wrap (1 + ((IntKind.i64.wrap n1).tmod 8)))) ((IntKind.i64.wrap two5.a1).tmod (IntKind.i64.wrap (1 + ((IntKind.i64.wrap n1).tmod 8))))).1)))) rfl (congrArg Value.bool hc33810) rfl ?_)
                        refine WL_step rfl rfl (Exec.move (v := Value.bool (decide ((-1099511627776) ≤ ((stn_Network_Distance_nil_t ((IntKind.i64.wrap two5.a0).tmod (IntKind.i64.wrap (1 + ((IntKind.i64.wrap n1).tmod 8)))) ((IntKind.i64.wrap two5.a1).tmod (IntKind.i64.wrap (1 + ((IntKind.i64.wrap n1).tmod 8))))).1)))) rfl rfl ?_)
                        by_cases hc33811 : (decide ((-1099511627776) ≤ ((stn_Network_Distance_nil_t ((IntKind.i64.wrap two5.a0).tmod (IntKind.i64.wrap (1 + ((IntKind.i64.wrap n1).tmod 8)))) ((IntKind.i64.wrap two5.a1).tmod (IntKind.i64.wrap (1 + ((IntKind.i64.wrap n1).tmod 8))))).1))) = true
                        · refine WL_run rfl (yield_of rfl (congrArg Value.bool hc33811)) rfl (Exec.move (v := Value.pointer none) rfl (Eq.trans (fr33777 10 rfl) p33551) ?_)
                          refine WL_run rfl (yield_of rfl (congrArg Value.bool hc33811)) rfl (Exec.move (v := Value.int .i64 ((IntKind.i64.wrap two5.a0).tmod (IntKind.i64.wrap (1 + ((IntKind.i64.wrap n1).tmod 8))))) rfl p33789 ?_)
                          refine WL_run rfl (yield_of rfl (congrArg Value.bool hc33811)) rfl (Exec.move (v := Value.int .i64 ((IntKind.i64.wrap two5.a1).tmod (IntKind.i64.wrap (1 + ((IntKind.i64.wrap n1).tmod 8))))) rfl p33790 ?_)
                          refine WL_run rfl (yield_of rfl (congrArg Value.bool hc33811)) rfl (Exec.move (v := Value.int .i64 ((stn_Network_Distance_nil_t ((IntKind.i64.wrap two5.a0).tmod (IntKind.i64.wrap (1 + ((IntKind.i64.wrap n1).tmod 8)))) ((IntKind.i64.wrap two5.a1).tmod (IntKind.i64.wrap (1 + ((IntKind.i64.wrap n1).tmod 8))))).1)) rfl rfl ?_)
                          refine WL_run rfl (yield_of rfl (congrArg Value.bool hc33811)) rfl (Exec.build rfl (parts_cons (c := [Value.int .i64 ((IntKind.i64.wrap two5.a0).tmod (IntKind.i64.wrap (1 + ((IntKind.i64.wrap n1).tmod 8))))]) (cells_of rfl rfl) (parts_cons (c := [Value.int .i64 ((IntKind.i64.wrap two5.a1).tmod (IntKind.i64.wrap (1 + ((IntKind.i64.wrap n1).tmod 8))))]) (cells_of rfl rfl) (parts_cons (c := [Value.int .i64 ((stn_Network_Distance_nil_t ((IntKind.i64.wrap two5.a0).tmod (IntKind.i64.wrap (1 + ((IntKind.i64.wrap n1).tmod 8)))) ((IntKind.i64.wrap two5.a1).tmod (IntKind.i64.wrap (1 + ((IntKind.i64.wrap n1).tmod 8))))).1)]) (cells_of rfl rfl) parts_nil))) (v := Value.agg #[Value.int .i64 ((IntKind.i64.wrap two5.a0).tmod (IntKind.i64.wrap (1 + ((IntKind.i64.wrap n1).tmod 8)))), Value.int .i64 ((IntKind.i64.wrap two5.a1).tmod (IntKind.i64.wrap (1 + ((IntKind.i64.wrap n1).tmod 8)))), Value.int .i64 ((stn_Network_Distance_nil_t ((IntKind.i64.wrap two5.a0).tmod (IntKind.i64.wrap (1 + ((IntKind.i64.wrap n1).tmod 8)))) ((IntKind.i64.wrap two5.a1).tmod (IntKind.i64.wrap (1 + ((IntKind.i64.wrap n1).tmod 8))))).1)]) (fun _ => by kernel_rfl) ?_)
                          refine WL_run rfl (yield_of rfl (congrArg Value.bool hc33811)) rfl (Exec.call rfl rfl Try.func14 rfl N14 (args_cons rfl (args_cons rfl args_nil)) ((stn_Network_Add_nil_sim (stn_Network_Add_nil_tot (⟨(IntKind.i64.wrap two5.a0).tmod (IntKind.i64.wrap (1 + ((IntKind.i64.wrap n1).tmod 8))), (IntKind.i64.wrap two5.a1).tmod (IntKind.i64.wrap (1 + ((IntKind.i64.wrap n1).tmod 8))), (stn_Network_Distance_nil_t ((IntKind.i64.wrap two5.a0).tmod (IntKind.i64.wrap (1 + ((IntKind.i64.wrap n1).tmod 8)))) ((IntKind.i64.wrap two5.a1).tmod (IntKind.i64.wrap (1 + ((IntKind.i64.wrap n1).tmod 8))))).1⟩ : Bound)) hS33798 ).mono ?_))
                          rintro _ w33812 ⟨_, rfl, ⟨s33813, l33814, hS33815, rfl⟩⟩
                          refine ⟨_, rfl, ?_⟩
                          refine WL_run rfl (yield_of rfl (congrArg Value.bool hc33811)) rfl (Exec.err_neq_nil (T := 30) Try.underlying26 rfl rfl rfl ?_)
                          refine WL_step rfl rfl (Exec.pick_t (v := Value.bool ((stn_Network_Add_nil_t (⟨(IntKind.i64.wrap two5.a0).tmod (IntKind.i64.wrap (1 + ((IntKind.i64.wrap n1).tmod 8))), (IntKind.i64.wrap two5.a1).tmod (IntKind.i64.wrap (1 + ((IntKind.i64.wrap n1).tmod 8))), (stn_Network_Distance_nil_t ((IntKind.i64.wrap two5.a0).tmod (IntKind.i64.wrap (1 + ((IntKind.i64.wrap n1).tmod 8)))) ((IntKind.i64.wrap two5.a1).tmod (IntKind.i64.wrap (1 + ((IntKind.i64.wrap n1).tmod 8))))).1⟩ : Bound)).isSome)) rfl (congrArg Value.bool hc33811) rfl ?_)
                          refine WL_nil (at_normal ?_)
                          have hS33816 := (hS33815).drop
                          exact ⟨s33813, l33814, hS33816, (Eq.trans (fr33777 7 rfl) p33549), (Eq.trans (fr33777 8 rfl) p33550), (Eq.trans (fr33777 10 rfl) p33551), (congrArg Value.bool (Eq.trans (and_t hc33810) (and_t hc33811))).symm⟩
                        · replace hc33811 := not_true hc33811
                          refine WL_pass rfl (yield_of rfl (congrArg Value.bool hc33811)) rfl rfl ?_
                          refine WL_pass rfl (yield_of rfl (congrArg Value.bool hc33811)) rfl rfl ?_
                          refine WL_pass rfl (yield_of rfl (congrArg Value.bool hc33811)) rfl rfl ?_
                          refine WL_pass rfl (yield_of rfl (congrArg Value.bool hc33811)) rfl rfl ?_
                          refine WL_pass rfl (yield_of rfl (congrArg Value.bool hc33811)) rfl rfl ?_
                          refine WL_pass rfl (yield_of rfl (congrArg Value.bool hc33811)) rfl rfl ?_
                          refine WL_pass rfl (yield_of rfl (congrArg Value.bool hc33811)) rfl rfl ?_
                          refine WL_step rfl rfl (Exec.pick_f (v := Value.bool (false)) rfl (congrArg Value.bool hc33811) rfl ?_)
                          refine WL_nil (at_normal ?_)
                          have hS33817 := (hS33798).drop
                          exact ⟨s33796, (PHeap.le_refl _), hS33817, (Eq.trans (fr33777 7 rfl) p33549), (Eq.trans (fr33777 8 rfl) p33550), (Eq.trans (fr33777 10 rfl) p33551), (congrArg Value.bool (Eq.trans (and_t hc33810) (and_f hc33811))).symm⟩
                      · replace hc33810 := not_true hc33810
                        refine WL_pass rfl (yield_of rfl (congrArg Value.bool hc33810)) rfl rfl ?_
                        refine WL_pass rfl (yield_of rfl (congrArg Value.bool hc33810)) rfl rfl ?_
                        refine WL_step rfl rfl (Exec.pick_f (v := Value.bool (false)) rfl (congrArg Value.bool hc33810) rfl ?_)
                        refine WL_step rfl rfl (Exec.move (v := Value.bool (false)) rfl rfl ?_)
                        refine WL_pass rfl (yield_of rfl rfl) rfl rfl ?_
                        refine WL_pass rfl (yield_of rfl rfl) rfl rfl ?_
                        refine WL_pass rfl (yield_of rfl rfl) rfl rfl ?_
                        refine WL_pass rfl (yield_of rfl rfl) rfl rfl ?_
                        refine WL_pass rfl (yield_of rfl rfl) rfl rfl ?_
                        refine WL_pass rfl (yield_of rfl rfl) rfl rfl ?_
                        refine WL_pass rfl (yield_of rfl rfl) rfl rfl ?_
                        refine WL_step rfl rfl (Exec.pick_f (v := Value.bool (false)) rfl rfl rfl ?_)
                        refine WL_nil (at_normal ?_)
                        have hS33818 := (hS33798).drop
                        exact ⟨s33796, (PHeap.le_refl _), hS33818, (Eq.trans (fr33777 7 rfl) p33549), (Eq.trans (fr33777 8 rfl) p33550), (Eq.trans (fr33777 10 rfl) p33551), (congrArg Value.bool (and_f hc33810)).symm⟩
                    · intro f33819 w33820 hM33821
                      obtain ⟨s33822, l33823, hS33824, p33825, p33826, p33827, p33828⟩ := hM33821
                      refine (at_normal ?_)
                      rcases ite_some hm with ⟨hc33829, hm⟩ | ⟨hc33829, hm⟩
                      · refine W_cond_t p33828 hc33829 ?_
                        refine W_seq ?_
                        refine W_region ?_
                        refine WL_step rfl rfl (Exec.assign (v := Value.bool (false)) rfl rfl ?_)
                        refine WL_nil (at_normal ?_)
                        refine W_ret (at_ret ?_)
                        have e33831 := Option.some.inj hm
                        subst r
                        refine ⟨_, ret1 rfl, ?_⟩
                        exact ⟨s33822, (PHeap.le.trans (PHeap.le.trans (PHeap.le.trans (PHeap.le.trans (PHeap.le.trans (PHeap.le.trans l29202 l29259) l32102) l33545) l33775) l33797) l33823), hS33824, rfl⟩
                      · refine W_cond_f p33828 hc33829 ?_
                        replace hc33829 := not_true hc33829
                        refine W_skip (at_normal ?_)
                        refine W_seq ?_
                        refine W_seq ?_
                        refine W_region ?_
                        refine WL_step rfl rfl (Exec.move (v := Value.int .i64 (IntKind.i64.wrap (1 + ((IntKind.i64.wrap n1).tmod 8)))) rfl p33825 ?_)
                        refine WL_step rfl rfl (Exec.move (v := Value.int .i64 (0)) rfl rfl ?_)
                        refine WL_nil (at_normal ?_)
                        obtain ⟨u33832, q33833, hm⟩ := bind_some hm
                        obtain ⟨c34187, hB34188, hr34189, hn34190, hb34191⟩ := ctl_some hm
                        refine W_mid (M := fun f' w' => ∃ s', (c34187 = .next s' ∨ c34187 = .brk s') ∧ (fun (_ : Unit) => ∃ (s34193 : PHeap) , PHeap.le s33822 s34193 ∧ St w0 s34193 (H) w' ∧ f' 7 = Value.int .i64 (IntKind.i64.wrap (1 + ((IntKind.i64.wrap n1).tmod 8))) ∧ f' 8 = Value.pointer none ∧ f' 10 = Value.pointer none ∧ f' 97 = Value.int .i64 (IntKind.i64.wrap (1 + ((IntKind.i64.wrap n1).tmod 8)))) s') ?_ ?_
                        · refine W_block (W_forC (fun k' s' f' w' => (fun (_ : Unit) => ∃ (s34192 : PHeap) , PHeap.le s33822 s34192 ∧ St w0 s34192 (H) w' ∧ f' 7 = Value.int .i64 (IntKind.i64.wrap (1 + ((IntKind.i64.wrap n1).tmod 8))) ∧ f' 8 = Value.pointer none ∧ f' 10 = Value.pointer none ∧ f' 97 = Value.int .i64 (IntKind.i64.wrap (1 + ((IntKind.i64.wrap n1).tmod 8))) ∧ f' 98 = Value.int .i64 (k' : Int)) s') hB34188 ?_ ?_ ?_)
                          · exact ⟨s33822, (PHeap.le_refl _), hS33824, p33825, p33826, p33827, rfl, rfl⟩
                          · intro i33834 t34201 c34195 f34196 w34197 hi34202 hI34198 hm34199 hres34200
                            obtain ⟨s34203, l34204, hS34205, p34206, p34207, p34208, p34209, x34210⟩ := hI34198
                            refine W_seq ?_
                            refine W_region ?_
                            refine WL_step rfl rfl (Exec.lss rfl x34210 p34209 ?_)
                            refine WL_nil (at_normal ?_)
                            refine W_seq ?_
                            refine W_true (congrArg Value.bool (decide_eq_true (by omega))) ?_
                            refine W_skip (at_normal ?_)
                            refine W_seq ?_
                            refine W_block ?_
                            refine W_seq ?_
                            refine W_region ?_
                            refine WL_step rfl rfl (Exec.move (v := Value.int .i64 ((i33834 : Int))) rfl x34210 ?_)
                            refine WL_step rfl rfl (Exec.assign (v := Value.int .i64 ((i33834 : Int))) rfl rfl ?_)
                            refine WL_nil (at_normal ?_)
                            refine W_seq ?_
                            refine W_region ?_
                            refine WL_step rfl rfl (Exec.move (v := Value.int .i64 (IntKind.i64.wrap (1 + ((IntKind.i64.wrap n1).tmod 8)))) rfl p34206 ?_)
                            refine WL_step rfl rfl (Exec.move (v := Value.int .i64 (0)) rfl rfl ?_)
                            refine WL_nil (at_normal ?_)
                            obtain ⟨u34211, q34212, hm34199⟩ := bind_some hm34199
                            obtain ⟨c34290, hB34291, hr34292, hn34293, hb34294⟩ := ctl_some hm34199
                            refine W_mid (M := fun f' w' => ∃ s', (c34290 = .next s' ∨ c34290 = .brk s') ∧ (fun (_ : Unit) => ∃ (s34296 : PHeap) , PHeap.le s34203 s34296 ∧ St w0 s34296 (H) w' ∧ f' 7 = Value.int .i64 (IntKind.i64.wrap (1 + ((IntKind.i64.wrap n1).tmod 8))) ∧ f' 8 = Value.pointer none ∧ f' 10 = Value.pointer none ∧ f' 16 = Value.int .i64 ((i33834 : Int)) ∧ f' 97 = Value.int .i64 (IntKind.i64.wrap (1 + ((IntKind.i64.wrap n1).tmod 8))) ∧ f' 98 = Value.int .i64 ((i33834 : Int)) ∧ f' 101 = Value.int .i64 (IntKind.i64.wrap (1 + ((IntKind.i64.wrap n1).tmod 8)))) s') ?_ ?_
                            · refine W_block (W_forC (fun k' s' f' w' => (fun (_ : Unit) => ∃ (s34295 : PHeap) , PHeap.le s34203 s34295 ∧ St w0 s34295 (H) w' ∧ f' 7 = Value.int .i64 (IntKind.i64.wrap (1 + ((IntKind.i64.wrap n1).tmod 8))) ∧ f' 8 = Value.pointer none ∧ f' 10 = Value.pointer none ∧ f' 16 = Value.int .i64 ((i33834 : Int)) ∧ f' 97 = Value.int .i64 (IntKind.i64.wrap (1 + ((IntKind.i64.wrap n1).tmod 8))) ∧ f' 98 = Value.int .i64 ((i33834 : Int)) ∧ f' 101 = Value.int .i64 (IntKind.i64.wrap (1 + ((IntKind.i64.wrap n1).tmod 8))) ∧ f' 102 = Value.int .i64 (k' : Int)) s') hB34291 ?_ ?_ ?_)
                              · exact ⟨s34203, (PHeap.le_refl _), hS34205, p34206, p34207, p34208, rfl, p34209, x34210, rfl, rfl⟩
                              · intro i34213 t34304 c34298 f34299 w34300 hi34305 hI34301 hm34302 hres34303
                                obtain ⟨s34306, l34307, hS34308, p34309, p34310, p34311, p34312, p34313, p34314, p34315, x34316⟩ := hI34301
                                refine W_seq ?_
                                refine W_region ?_
                                refine WL_step rfl rfl (Exec.lss rfl x34316 p34315 ?_)
                                refine WL_nil (at_normal ?_)
                                refine W_seq ?_
                                refine W_true (congrArg Value.bool (decide_eq_true (by omega))) ?_
                                refine W_skip (at_normal ?_)
                                refine W_seq ?_
                                refine W_block ?_
                                refine W_seq ?_
                                refine W_region ?_
                                refine WL_step rfl rfl (Exec.move (v := Value.int .i64 ((i34213 : Int))) rfl x34316 ?_)
                                refine WL_step rfl rfl (Exec.assign (v := Value.int .i64 ((i34213 : Int))) rfl rfl ?_)
                                refine WL_nil (at_normal ?_)
                                refine W_seq ?_
                                refine W_region ?_
                                refine WL_step rfl rfl (Exec.move (v := Value.pointer none) rfl p34310 ?_)
                                refine WL_step rfl rfl (Exec.move (v := Value.int .i64 ((i33834 : Int))) rfl p34312 ?_)
                                refine WL_step rfl rfl (Exec.move (v := Value.int .i64 ((i34213 : Int))) rfl rfl ?_)
                                refine WL_step rfl rfl (Exec.call rfl rfl Try.func15 rfl N15 (args_cons rfl (args_cons rfl (args_cons rfl args_nil))) ((stn_Network_Distance_nil_sim (stn_Network_Distance_nil_tot (i33834 : Int) (i34213 : Int)) hS34308 ).mono ?_))
                                rintro _ w34321 ⟨_, rfl, ⟨s34322, l34323, hS34324, rfl⟩⟩
                                refine ⟨_, rfl, ?_⟩
                                refine WL_step rfl rfl (Exec.move (v := Value.tuple #[Value.int .i64 ((stn_Network_Distance_nil_t (i33834 : Int) (i34213 : Int)).1), errV 30 ((stn_Network_Distance_nil_t (i33834 : Int) (i34213 : Int)).2)]) rfl rfl ?_)
                                refine WL_step rfl rfl (Exec.extract (v := Value.int .i64 ((stn_Network_Distance_nil_t (i33834 : Int) (i34213 : Int)).1)) rfl rfl rfl ?_)
                                refine WL_step rfl rfl (Exec.extract (v := errV 30 ((stn_Network_Distance_nil_t (i33834 : Int) (i34213 : Int)).2)) rfl rfl rfl ?_)
                                refine WL_step rfl rfl (Exec.assign (v := Value.int .i64 ((stn_Network_Distance_nil_t (i33834 : Int) (i34213 : Int)).1)) rfl rfl ?_)
                                refine WL_step rfl rfl (Exec.assign (v := errV 30 ((stn_Network_Distance_nil_t (i33834 : Int) (i34213 : Int)).2)) rfl rfl ?_)
                                refine WL_nil (at_normal ?_)
                                refine W_seq ?_
                                refine W_region ?_
                                refine WL_step rfl rfl (Exec.move (v := Value.pointer none) rfl p34311 ?_)
                                refine WL_step rfl rfl (Exec.move (v := Value.int .i64 ((i33834 : Int))) rfl p34312 ?_)
                                refine WL_step rfl rfl (Exec.move (v := Value.int .i64 ((i34213 : Int))) rfl rfl ?_)
                                refine WL_step rfl rfl (Exec.call rfl rfl Try.func15 rfl N15 (args_cons rfl (args_cons rfl (args_cons rfl args_nil))) ((stn_Network_Distance_nil_sim (stn_Network_Distance_nil_tot (i33834 : Int) (i34213 : Int)) hS34324 ).mono ?_))
                                rintro _ w34329 ⟨_, rfl, ⟨s34330, l34331, hS34332, rfl⟩⟩
                                refine ⟨_, rfl, ?_⟩
                                refine WL_step rfl rfl (Exec.move (v := Value.tuple #[Value.int .i64 ((stn_Network_Distance_nil_t (i33834 : Int) (i34213 : Int)).1), errV 30 ((stn_Network_Distance_nil_t (i33834 : Int) (i34213 : Int)).2)]) rfl rfl ?_)
                                refine WL_step rfl rfl (Exec.extract (v := Value.int .i64 ((stn_Network_Distance_nil_t (i33834 : Int) (i34213 : Int)).1)) rfl rfl rfl ?_)
                                refine WL_step rfl rfl (Exec.extract (v := errV 30 ((stn_Network_Distance_nil_t (i33834 : Int) (i34213 : Int)).2)) rfl rfl rfl ?_)
                                refine WL_step rfl rfl (Exec.assign (v := Value.int .i64 ((stn_Network_Distance_nil_t (i33834 : Int) (i34213 : Int)).1)) rfl rfl ?_)
                                refine WL_step rfl rfl (Exec.assign (v := errV 30 ((stn_Network_Distance_nil_t (i33834 : Int) (i34213 : Int)).2)) rfl rfl ?_)
                                refine WL_nil (at_normal ?_)
                                refine W_seq ?_
                                refine W_mid (M := fun f' w' => ∃ (s34335 : PHeap) , PHeap.le s34330 s34335 ∧ St w0 s34335 (H) w' ∧ f' 7 = Value.int .i64 (IntKind.i64.wrap (1 + ((IntKind.i64.wrap n1).tmod 8))) ∧ f' 8 = Value.pointer none ∧ f' 10 = Value.pointer none ∧ f' 16 = Value.int .i64 ((i33834 : Int)) ∧ f' 97 = Value.int .i64 (IntKind.i64.wrap (1 + ((IntKind.i64.wrap n1).tmod 8))) ∧ f' 98 = Value.int .i64 ((i33834 : Int)) ∧ f' 101 = Value.int .i64 (IntKind.i64.wrap (1 + ((IntKind.i64.wrap n1).tmod 8))) ∧ f' 102 = Value.int .i64 ((i34213 : Int)) ∧ f' 129 = Value.bool (((((stn_Network_Distance_nil_t (i33834 : Int) (i34213 : Int)).2).isSome) || ((((stn_Network_Distance_nil_t (i33834 : Int) (i34213 : Int)).2).isSome) || !decide (((stn_Network_Distance_nil_t (i33834 : Int) (i34213 : Int)).1) = ((stn_Network_Distance_nil_t (i33834 : Int) (i34213 : Int)).1)))))) ?_ ?_
                                · refine W_region ?_
                                  refine WL_step rfl rfl (Exec.move (v := errV 30 ((stn_Network_Distance_nil_t (i33834 : Int) (i34213 : Int)).2)) rfl rfl ?_)
                                  refine WL_step rfl rfl (Exec.err_neq_nil (T := 30) Try.underlying26 rfl rfl rfl ?_)
                                  refine WL_step rfl rfl (Exec.move (v := Value.bool (((stn_Network_Distance_nil_t (i33834 : Int) (i34213 : Int)).2).isSome)) rfl rfl ?_)
                                  by_cases hc34336 : (((stn_Network_Distance_nil_t (i33834 : Int) (i34213 : Int)).2).isSome) = true
                                  · refine WL_pass rfl (yield_of rfl (congrArg Value.bool hc34336)) rfl rfl ?_
                                    refine WL_pass rfl (yield_of rfl (congrArg Value.bool hc34336)) rfl rfl ?_
                                    refine WL_step rfl rfl (Exec.pick_t (v := Value.bool (true)) rfl (congrArg Value.bool hc34336) rfl ?_)
                                    refine WL_step rfl rfl (Exec.move (v := Value.bool (true)) rfl rfl ?_)
                                    refine WL_pass rfl (yield_of rfl rfl) rfl rfl ?_
                                    refine WL_pass rfl (yield_of rfl rfl) rfl rfl ?_
                                    refine WL_pass rfl (yield_of rfl rfl) rfl rfl ?_
                                    refine WL_step rfl rfl (Exec.pick_t (v := Value.bool (true)) rfl rfl rfl ?_)
                                    refine WL_nil (at_normal ?_)
                                    exact ⟨s34330, (PHeap.le_refl _), hS34332, p34309, p34310, p34311, p34312, p34313, p34314, p34315, x34316, (congrArg Value.bool (or_t hc34336)).symm⟩
                                  · replace hc34336 := not_true hc34336
                                    refine WL_run rfl (yield_of rfl (congrArg Value.bool hc34336)) rfl (Exec.move (v := errV 30 ((stn_Network_Distance_nil_t (i33834 : Int) (i34213 : Int)).2)) rfl rfl ?_)
                                    refine WL_run rfl (yield_of rfl (congrArg Value.bool hc34336)) rfl (Exec.err_neq_nil (T := 30) Try.underlying26 rfl rfl rfl ?_)
                                    refine WL_step rfl rfl (Exec.pick_f (v := Value.bool (((stn_Network_Distance_nil_t (i33834 : Int) (i34213 : Int)).2).isSome)) rfl (congrArg Value.bool hc34336) rfl ?_)
                                    refine WL_step rfl rfl (Exec.move (v := Value.bool (((stn_Network_Distance_nil_t (i33834 : Int) (i34213 : Int)).2).isSome)) rfl rfl ?_)
                                    by_cases hc34337 : (((stn_Network_Distance_nil_t (i33834 : Int) (i34213 : Int)).2).isSome) = true
                                    · refine WL_pass rfl (yield_of rfl (congrArg Value.bool hc34337)) rfl rfl ?_
                                      refine WL_pass rfl (yield_of rfl (congrArg Value.bool hc34337)) rfl rfl ?_
                                      refine WL_pass rfl (yield_of rfl (congrArg Value.bool hc34337)) rfl rfl ?_
                                      refine WL_step rfl rfl (Exec.pick_t (v := Value.bool (true)) rfl (congrArg Value.bool hc34337) rfl ?_)
                                      refine WL_nil (at_normal ?_)
                                      exact ⟨s34330, (PHeap.le_refl _), hS34332, p34309, p34310, p34311, p34312, p34313, p34314, p34315, x34316, (congrArg Value.bool (Eq.trans (or_f hc34336) (or_t hc34337))).symm⟩
                                    · replace hc34337 := not_true hc34337
                                      refine WL_run rfl (yield_of rfl (congrArg Value.bool hc34337)) rfl (Exec.move (v := Value.int .i64 ((stn_Network_Distance_nil_t (i33834 : Int) (i34213 : Int)).1)) rfl rfl ?_)
                                      refine WL_run rfl (yield_of rfl (congrArg Value.bool hc34337)) rfl (Exec.move (v := Value.int .i64 ((stn_Network_Distance_nil_t (i33834 : Int) (i34213 : Int)).1)) rfl rfl ?_)
                                      refine WL_run rfl (yield_of rfl (congrArg Value.bool hc34337)) rfl (Exec.neq rfl rfl rfl ?_)
                                      refine WL_step rfl rfl (Exec.pick_f (v := Value.bool (!decide (((stn_Network_Distance_nil_t (i33834 : Int) (i34213 : Int)).1) = ((stn_Network_Distance_nil_t (i33834 : Int) (i34213 : Int)).1)))) rfl (congrArg Value.bool hc34337) rfl ?_)
                                      refine WL_nil (at_normal ?_)
                                      exact ⟨s34330, (PHeap.le_refl _), hS34332, p34309, p34310, p34311, p34312, p34313, p34314, p34315, x34316, (congrArg Value.bool (Eq.trans (or_f hc34336) (or_f hc34337))).symm⟩
                                · intro f34338 w34339 hM34340
                                  obtain ⟨s34341, l34342, hS34343, p34344, p34345, p34346, p34347, p34348, p34349, p34350, p34351, p34352⟩ := hM34340
                                  refine (at_normal ?_)
                                  rcases ite_some hm34302 with ⟨hc34353, hm34302⟩ | ⟨hc34353, hm34302⟩
                                  · refine W_cond_t p34352 hc34353 ?_
                                    refine W_seq ?_
                                    refine W_region ?_
                                    refine WL_step rfl rfl (Exec.assign (v := Value.bool (false)) rfl rfl ?_)
                                    refine WL_nil (at_normal ?_)
                                    refine W_ret (ib_ret (at_ret (at_ret (ib_ret (at_ret (ib_ret (at_ret (at_ret (ib_ret (at_ret (at_ret ?_)))))))))))
                                    have e34354 := Option.some.inj hm34302
                                    subst c34298
                                    have hq34355 := hr34292 _ (hres34303 (by intro _ h; cases h))
                                    have e34356 := Option.some.inj hq34355
                                    subst c34195
                                    have hq34357 := hr34189 _ (hres34200 (by intro _ h; cases h))
                                    have e34358 := Option.some.inj hq34357
                                    subst r
                                    refine ⟨_, ret1 rfl, ?_⟩
                                    exact ⟨s34341, (PHeap.le.trans (PHeap.le.trans (PHeap.le.trans (PHeap.le.trans (PHeap.le.trans (PHeap.le.trans (PHeap.le.trans (PHeap.le.trans (PHeap.le.trans (PHeap.le.trans (PHeap.le.trans l29202 l29259) l32102) l33545) l33775) l33797) l33823) l34204) l34307) l34323) l34331) l34342), hS34343, rfl⟩
                                  · refine W_cond_f p34352 hc34353 ?_
                                    replace hc34353 := not_true hc34353
                                    refine W_skip (ib_normal (at_normal ?_))
                                    refine W_region ?_
                                    refine WL_step rfl rfl (Exec.add rfl p34351 rfl ?_)
                                    refine WL_step rfl rfl (Exec.move (v := Value.int .i64 (IntKind.i64.wrap ((i34213 : Int) + 1))) rfl rfl ?_)
                                    refine WL_nil (at_normal ?_)
                                    have e34359 := Option.some.inj hm34302
                                    subst c34298
                                    refine ⟨_, rfl, ?_⟩; exact ⟨s34341, (PHeap.le.trans (PHeap.le.trans (PHeap.le.trans l34307 l34323) l34331) l34342), hS34343, p34344, p34345, p34346, p34347, p34348, p34349, p34350, (Eq.trans rfl (wrap_up hi34305 (by have h := must_some q34212; simp at h; simp only [maxLen]; omega)))⟩
                              · intro t34360 f34361 w34362 hI34363 hres34364
                                obtain ⟨s34365, l34366, hS34367, p34368, p34369, p34370, p34371, p34372, p34373, p34374, x34375⟩ := hI34363
                                refine W_seq ?_
                                refine W_region ?_
                                refine WL_step rfl rfl (Exec.lss rfl x34375 p34374 ?_)
                                refine WL_nil (at_normal ?_)
                                refine W_seq ?_
                                refine W_false (congrArg Value.bool (decide_eq_false (by omega))) ?_
                                refine W_exit (at_exit (at_exit (ib_here (at_normal ?_))))
                                refine ⟨_, .inl hres34364, ?_⟩; exact ⟨s34365, l34366, hS34367, p34368, p34369, p34370, p34371, p34372, p34373, p34374⟩
                            · rintro f34376 w34377 ⟨t34378, hc34379, hM34380⟩
                              have hm34199 := hc34379.elim (hn34293 _) (hb34294 _)
                              clear hc34379
                              obtain ⟨s34381, l34382, hS34383, p34384, p34385, p34386, p34387, p34388, p34389, p34390⟩ := hM34380
                              refine (ib_normal (at_normal ?_))
                              refine W_region ?_
                              refine WL_step rfl rfl (Exec.add rfl p34389 rfl ?_)
                              refine WL_step rfl rfl (Exec.move (v := Value.int .i64 (IntKind.i64.wrap ((i33834 : Int) + 1))) rfl rfl ?_)
                              refine WL_nil (at_normal ?_)
                              have e34391 := Option.some.inj hm34199
                              subst c34195
                              refine ⟨_, rfl, ?_⟩; exact ⟨s34381, (PHeap.le.trans l34204 l34382), hS34383, p34384, p34385, p34386, p34388, (Eq.trans rfl (wrap_up hi34202 (by have h := must_some q33833; simp at h; simp only [maxLen]; omega)))⟩
                          · intro t34392 f34393 w34394 hI34395 hres34396
                            obtain ⟨s34397, l34398, hS34399, p34400, p34401, p34402, p34403, x34404⟩ := hI34395
                            refine W_seq ?_
                            refine W_region ?_
                            refine WL_step rfl rfl (Exec.lss rfl x34404 p34403 ?_)
                            refine WL_nil (at_normal ?_)
                            refine W_seq ?_
                            refine W_false (congrArg Value.bool (decide_eq_false (by omega))) ?_
                            refine W_exit (at_exit (at_exit (ib_here (at_normal ?_))))
                            refine ⟨_, .inl hres34396, ?_⟩; exact ⟨s34397, l34398, hS34399, p34400, p34401, p34402, p34403⟩
                        · rintro f34405 w34406 ⟨t34407, hc34408, hM34409⟩
                          have hm := hc34408.elim (hn34190 _) (hb34191 _)
                          clear hc34408
                          obtain ⟨s34410, l34411, hS34412, p34413, p34414, p34415, p34416⟩ := hM34409
                          refine (at_normal ?_)
                          refine W_seq ?_
                          refine W_region ?_
                          refine WL_step rfl rfl (Exec.assign (v := Value.bool (true)) rfl rfl ?_)
                          refine WL_nil (at_normal ?_)
                          refine W_ret ?_
                          have e34418 := Option.some.inj hm
                          subst r
                          refine ⟨_, ret1 rfl, ?_⟩
                          exact ⟨s34410, (PHeap.le.trans (PHeap.le.trans (PHeap.le.trans (PHeap.le.trans (PHeap.le.trans (PHeap.le.trans (PHeap.le.trans l29202 l29259) l32102) l33545) l33775) l33797) l33823) l34411), hS34412, rfl⟩

end Go.Pw
