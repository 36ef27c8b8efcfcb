/-
  The walks (printed by my generator).
-/
import Derived.Test.YtcapbkcdeeinoaaW1
set_option maxRecDepth 100000
set_option linter.unusedVariables false
namespace Go.Pw
open Go.Proofs
theorem law54_is_sim {w0 w : World} {s : PHeap} {H : List Res} {x147264 : stn_Network} {n147268 : Int} {bounds147269 : (List Bound)} {b147265 : Nat} {v147266 : Value} {hs147267 : List Value} {v147270 : Value} {r : Bool} (hm : law54_is_p x147264 n147268 bounds147269 = some r) (hS : St w0 s (Res.box b147265 63 [v147266] :: Res.arr encRaw 49 v147266 hs147267 :: Res.rows (encInt .i64) 3 hs147267 x147264.d :: H) w) (a147271 : SliceRep encBound s v147270 bounds147269) :
    Calls Try.prog 18 #[Value.pointer (some ⟨b147265, 0, none⟩), Value.int .i64 (n147268), v147270] w fun e w' => ∃ v, e = .returned v ∧ ((fun (y272933 : Bool) => ∃ (s272934 : PHeap) , PHeap.le s s272934 ∧ St w0 s272934 (Res.box b147265 63 [v147266] :: Res.arr encRaw 49 v147266 hs147267 :: Res.rows (encInt .i64) 3 hs147267 x147264.d :: H) w' ∧ v = Value.bool (y272933)) r) := by
  unfold law54_is_p at hm
  refine calls_of_W Try.func18 rfl rfl ?_
  refine W_seq ?_
  refine W_region ?_
  refine WL_step rfl rfl (Exec.assign (v := Value.bool (false)) rfl rfl ?_)
  refine WL_nil (at_normal ?_)
  refine W_seq ?_
  refine W_region ?_
  refine WL_step rfl rfl (Exec.move (v := Value.int .i64 (n147268)) rfl rfl ?_)
  refine WL_step rfl rfl (Exec.move (v := v147270) rfl rfl ?_)
  obtain ⟨t272945, q272946, hm⟩ := bind_some hm
  obtain ⟨y272947, y272948⟩ := t272945
  replace hm := un2_eq hm
  refine WL_step rfl rfl (Exec.call rfl rfl Try.func25 rfl N25 (args_cons rfl (args_cons rfl args_nil)) ((ref54_Distances_sim q272946 hS a147271).mono ?_))
  rintro _ w272949 ⟨_, rfl, ⟨s272950, v272953, l272951, hS272952, rfl, r272954⟩⟩
  refine ⟨_, rfl, ?_⟩
  refine WL_step rfl rfl (Exec.move (v := Value.tuple #[v272953, Value.bool (y272948)]) rfl rfl ?_)
  refine WL_step rfl rfl (Exec.extract (v := v272953) rfl rfl rfl ?_)
  refine WL_step rfl rfl (Exec.extract (v := Value.bool (y272948)) rfl rfl rfl ?_)
  refine WL_step rfl rfl (Exec.assign (v := v272953) rfl rfl ?_)
  refine WL_step rfl rfl (Exec.assign (v := Value.bool (y272948)) rfl rfl ?_)
  refine WL_nil (at_normal ?_)
  refine W_seq ?_
  refine W_seq ?_
  refine W_region ?_
  refine WL_step rfl rfl (Exec.move (v := Value.bool (y272948)) rfl rfl ?_)
  refine WL_step rfl rfl (Exec.not rfl rfl ?_)
  refine WL_nil (at_normal ?_)
  rcases ite_some hm with ⟨hc272955, hm⟩ | ⟨hc272955, hm⟩
  · refine W_cond_t rfl hc272955 ?_
    refine W_seq ?_
    refine W_region ?_
    refine WL_step rfl rfl (Exec.assign (v := Value.bool (false)) rfl rfl ?_)
    refine WL_nil (at_normal ?_)
    refine W_ret (at_ret ?_)
    have e272957 := Option.some.inj hm
    subst r
    refine ⟨_, ret1 rfl, ?_⟩
    have hS272958 := ((hS272952).f2).f2
    have hS272959 := (hS272958).f2
    exact ⟨s272950, l272951, hS272959, rfl⟩
  · refine W_cond_f rfl hc272955 ?_
    replace hc272955 := not_true hc272955
    refine W_skip (at_normal ?_)
    refine W_seq ?_
    refine W_region ?_
    refine WL_step rfl rfl (Exec.assign (v := Value.slice none 0 0) rfl rfl ?_)
    refine WL_nil (at_normal ?_)
    refine W_seq ?_
    refine W_region ?_
    refine WL_step rfl rfl (Exec.assign (v := Value.bool (true)) rfl rfl ?_)
    refine WL_nil (at_normal ?_)
    refine W_seq ?_
    refine W_seq ?_
    refine W_region ?_
    refine WL_step rfl rfl (Exec.move (v := Value.int .i64 (n147268)) rfl rfl ?_)
    refine WL_step rfl rfl (Exec.move (v := Value.int .i64 (0)) rfl rfl ?_)
    refine WL_nil (at_normal ?_)
    obtain ⟨u272960, q272961, hm⟩ := bind_some hm
    obtain ⟨c275220, hB275221, hr275222, hn275223, hb275224⟩ := ctl_some hm
    refine W_mid (M := fun f' w' => ∃ s', (c275220 = .next s' ∨ c275220 = .brk s') ∧ (un2 fun (first275217 : (List Int)) (all275218 : Bool) => ∃ (s275226 : PHeap) (v275219 : Value), PHeap.le s272950 s275226 ∧ St w0 s275226 (Res.box b147265 63 [v147266] :: Res.arr encRaw 49 v147266 hs147267 :: Res.rows (encInt .i64) 3 hs147267 x147264.d :: Res.arr (encInt .i64) 3 v275219 first275217 :: H) w' ∧ f' 0 = Value.pointer (some ⟨b147265, 0, none⟩) ∧ f' 1 = Value.int .i64 (n147268) ∧ f' 7 = v272953 ∧ f' 9 = v275219 ∧ f' 10 = Value.bool (all275218) ∧ f' 28 = Value.int .i64 (n147268)) s') ?_ ?_
    · refine W_block (W_forC (fun k' s' f' w' => (un2 fun (first273708 : (List Int)) (all273710 : Bool) => ∃ (s275225 : PHeap) (v273709 : Value), PHeap.le s272950 s275225 ∧ St w0 s275225 (Res.box b147265 63 [v147266] :: Res.arr encRaw 49 v147266 hs147267 :: Res.rows (encInt .i64) 3 hs147267 x147264.d :: Res.arr (encInt .i64) 3 v273709 first273708 :: H) w' ∧ f' 0 = Value.pointer (some ⟨b147265, 0, none⟩) ∧ f' 1 = Value.int .i64 (n147268) ∧ f' 7 = v272953 ∧ f' 9 = v273709 ∧ f' 10 = Value.bool (all273710) ∧ f' 28 = Value.int .i64 (n147268) ∧ f' 29 = Value.int .i64 (k' : Int)) s') hB275221 ?_ ?_ ?_)
      · have hS275227 := hS272952.nilArr (encInt .i64) 3
        have hS275228 := ((hS275227).f3).f3
        have hS275229 := (hS275228).f3
        exact ⟨s272950, (Value.slice none 0 0), (PHeap.le_refl _), hS275229, rfl, rfl, rfl, rfl, rfl, rfl, rfl⟩
      · intro i272962 t275237 c275231 f275232 w275233 hi275238 hI275234 hm275235 hres275236
        obtain ⟨first273708, all273710⟩ := t275237
        replace hm275235 := un2_eq hm275235
        obtain ⟨s275239, v273709, l275240, hS275241, p275242, p275243, p275244, p275245, p275246, p275247, x275248⟩ := hI275234
        refine W_seq ?_
        refine W_region ?_
        refine WL_step rfl rfl (Exec.lss rfl x275248 p275247 ?_)
        refine WL_nil (at_normal ?_)
        refine W_seq ?_
        refine W_true (congrArg Value.bool (decide_eq_true (by omega))) ?_
        refine W_skip (at_normal ?_)
        refine W_seq ?_
        refine W_block ?_
        refine W_seq ?_
        refine W_region ?_
        refine WL_step rfl rfl (Exec.move (v := Value.int .i64 ((i272962 : Int))) rfl x275248 ?_)
        refine WL_step rfl rfl (Exec.assign (v := Value.int .i64 ((i272962 : Int))) rfl rfl ?_)
        refine WL_nil (at_normal ?_)
        refine W_seq ?_
        refine W_seq ?_
        refine W_region ?_
        refine WL_step rfl rfl (Exec.move (v := Value.int .i64 (n147268)) rfl p275243 ?_)
        refine WL_step rfl rfl (Exec.move (v := Value.int .i64 (0)) rfl rfl ?_)
        refine WL_nil (at_normal ?_)
        obtain ⟨u275249, q275250, hm275235⟩ := bind_some hm275235
        obtain ⟨c275416, hB275417, hr275418, hn275419, hb275420⟩ := ctl_some hm275235
        refine W_mid (M := fun f' w' => ∃ s', (c275416 = .next s' ∨ c275416 = .brk s') ∧ (fun (_ : Unit) => ∃ (s275422 : PHeap) , PHeap.le s275239 s275422 ∧ St w0 s275422 (Res.box b147265 63 [v147266] :: Res.arr encRaw 49 v147266 hs147267 :: Res.rows (encInt .i64) 3 hs147267 x147264.d :: Res.arr (encInt .i64) 3 v273709 first273708 :: H) w' ∧ f' 0 = Value.pointer (some ⟨b147265, 0, none⟩) ∧ f' 1 = Value.int .i64 (n147268) ∧ f' 7 = v272953 ∧ f' 9 = v273709 ∧ f' 10 = Value.bool (all273710) ∧ f' 11 = Value.int .i64 ((i272962 : Int)) ∧ f' 28 = Value.int .i64 (n147268) ∧ f' 29 = Value.int .i64 ((i272962 : Int)) ∧ f' 32 = Value.int .i64 (n147268)) s') ?_ ?_
        · refine W_block (W_forC (fun k' s' f' w' => (fun (_ : Unit) => ∃ (s275421 : PHeap) , PHeap.le s275239 s275421 ∧ St w0 s275421 (Res.box b147265 63 [v147266] :: Res.arr encRaw 49 v147266 hs147267 :: Res.rows (encInt .i64) 3 hs147267 x147264.d :: Res.arr (encInt .i64) 3 v273709 first273708 :: H) w' ∧ f' 0 = Value.pointer (some ⟨b147265, 0, none⟩) ∧ f' 1 = Value.int .i64 (n147268) ∧ f' 7 = v272953 ∧ f' 9 = v273709 ∧ f' 10 = Value.bool (all273710) ∧ f' 11 = Value.int .i64 ((i272962 : Int)) ∧ f' 28 = Value.int .i64 (n147268) ∧ f' 29 = Value.int .i64 ((i272962 : Int)) ∧ f' 32 = Value.int .i64 (n147268) ∧ f' 33 = Value.int .i64 (k' : Int)) s') hB275417 ?_ ?_ ?_)
          · have hS275423 := (hS275241).f3
            have hS275424 := ((hS275423).f3).f3
            have hS275425 := (hS275424).f3
            exact ⟨s275239, (PHeap.le_refl _), hS275425, p275242, p275243, p275244, p275245, p275246, rfl, p275247, x275248, rfl, rfl⟩
          · intro i275251 t275433 c275427 f275428 w275429 hi275434 hI275430 hm275431 hres275432
            obtain ⟨s275435, l275436, hS275437, p275438, p275439, p275440, p275441, p275442, p275443, p275444, p275445, p275446, x275447⟩ := hI275430
            refine W_seq ?_
            refine W_region ?_
            refine WL_step rfl rfl (Exec.lss rfl x275447 p275446 ?_)
            refine WL_nil (at_normal ?_)
            refine W_seq ?_
            refine W_true (congrArg Value.bool (decide_eq_true (by omega))) ?_
            refine W_skip (at_normal ?_)
            refine W_seq ?_
            refine W_block ?_
            refine W_seq ?_
            refine W_region ?_
            refine WL_step rfl rfl (Exec.move (v := Value.int .i64 ((i275251 : Int))) rfl x275447 ?_)
            refine WL_step rfl rfl (Exec.assign (v := Value.int .i64 ((i275251 : Int))) rfl rfl ?_)
            refine WL_nil (at_normal ?_)
            refine W_seq ?_
            refine W_region ?_
            refine WL_step rfl rfl (Exec.move (v := Value.pointer (some ⟨b147265, 0, none⟩)) rfl p275438 ?_)
            refine WL_step rfl rfl (Exec.move (v := Value.int .i64 ((i272962 : Int))) rfl p275443 ?_)
            refine WL_step rfl rfl (Exec.move (v := Value.int .i64 ((i275251 : Int))) rfl rfl ?_)
            obtain ⟨t275458, q275459, hm275431⟩ := bind_some hm275431
            obtain ⟨y275460, y275461⟩ := t275458
            replace hm275431 := un2_eq hm275431
            have hS275462 := ((hS275437).f2).f2
            have hS275463 := (hS275462).f2
            refine WL_step rfl rfl (Exec.call rfl rfl Try.func15 rfl N15 (args_cons rfl (args_cons rfl (args_cons rfl args_nil))) ((stn_Network_Distance_sim q275459 hS275463 ).mono ?_))
            rintro _ w275464 ⟨_, rfl, ⟨s275465, l275466, hS275467, rfl⟩⟩
            refine ⟨_, rfl, ?_⟩
            refine WL_step rfl rfl (Exec.move (v := Value.tuple #[Value.int .i64 (y275460), errV 30 (y275461)]) rfl rfl ?_)
            refine WL_step rfl rfl (Exec.extract (v := Value.int .i64 (y275460)) rfl rfl rfl ?_)
            refine WL_step rfl rfl (Exec.extract (v := errV 30 (y275461)) rfl rfl rfl ?_)
            refine WL_step rfl rfl (Exec.assign (v := Value.int .i64 (y275460)) rfl rfl ?_)
            refine WL_step rfl rfl (Exec.assign (v := errV 30 (y275461)) rfl rfl ?_)
            refine WL_nil (at_normal ?_)
            refine W_seq ?_
            obtain ⟨z275484, ht275485, hm275431⟩ := bind_some hm275431
            refine W_mid (M := fun f' w' => (fun (z275484 : Bool) => ∃ (s275486 : PHeap) , PHeap.le s275465 s275486 ∧ St w0 s275486 (Res.box b147265 63 [v147266] :: Res.arr encRaw 49 v147266 hs147267 :: Res.rows (encInt .i64) 3 hs147267 x147264.d :: Res.arr (encInt .i64) 3 v273709 first273708 :: H) w' ∧ f' 0 = Value.pointer (some ⟨b147265, 0, none⟩) ∧ f' 1 = Value.int .i64 (n147268) ∧ f' 7 = v272953 ∧ f' 9 = v273709 ∧ f' 10 = Value.bool (all273710) ∧ f' 11 = Value.int .i64 ((i272962 : Int)) ∧ f' 28 = Value.int .i64 (n147268) ∧ f' 29 = Value.int .i64 ((i272962 : Int)) ∧ f' 32 = Value.int .i64 (n147268) ∧ f' 33 = Value.int .i64 ((i275251 : Int)) ∧ f' 55 = Value.bool (z275484)) z275484) ?_ ?_
            · refine W_region ?_
              refine WL_step rfl rfl (Exec.move (v := errV 30 (y275461)) rfl rfl ?_)
              refine WL_step rfl rfl (Exec.err_neq_nil (T := 30) Try.underlying26 rfl rfl rfl ?_)
              refine WL_step rfl rfl (Exec.move (v := Value.bool (y275461.isSome)) rfl rfl ?_)
              rcases ite_some ht275485 with ⟨hc275487, ht275485⟩ | ⟨hc275487, ht275485⟩
              · refine WL_pass rfl (yield_of rfl (congrArg Value.bool hc275487)) rfl rfl ?_
                refine WL_pass rfl (yield_of rfl (congrArg Value.bool hc275487)) rfl rfl ?_
                refine WL_pass rfl (yield_of rfl (congrArg Value.bool hc275487)) rfl rfl ?_
                refine WL_pass rfl (yield_of rfl (congrArg Value.bool hc275487)) rfl rfl ?_
                refine WL_pass rfl (yield_of rfl (congrArg Value.bool hc275487)) rfl rfl ?_
                refine WL_pass rfl (yield_of rfl (congrArg Value.bool hc275487)) rfl rfl ?_
                refine WL_pass rfl (yield_of rfl (congrArg Value.bool hc275487)) rfl rfl ?_
                refine WL_pass rfl (yield_of rfl (congrArg Value.bool hc275487)) rfl rfl ?_
                refine WL_pass rfl (yield_of rfl (congrArg Value.bool hc275487)) rfl rfl ?_
                refine WL_step rfl rfl (Exec.pick_t (v := Value.bool (true)) rfl (congrArg Value.bool hc275487) rfl ?_)
                refine WL_nil (at_normal ?_)
                have e275488 := Option.some.inj ht275485
                subst z275484
                have hS275489 := (hS275467).f3
                have hS275490 := ((hS275489).f3).f3
                have hS275491 := (hS275490).f3
                exact ⟨s275465, (PHeap.le_refl _), hS275491, p275438, p275439, p275440, p275441, p275442, p275443, p275444, p275445, p275446, x275447, rfl⟩
              · replace hc275487 := not_true hc275487
                refine WL_run rfl (yield_of rfl (congrArg Value.bool hc275487)) rfl (Exec.move (v := Value.int .i64 (y275460)) rfl rfl ?_)
                refine WL_run rfl (yield_of rfl (congrArg Value.bool hc275487)) rfl (Exec.move (v := v272953) rfl p275440 ?_)
                refine WL_run rfl (yield_of rfl (congrArg Value.bool hc275487)) rfl (Exec.move (v := Value.int .i64 ((i272962 : Int))) rfl p275443 ?_)
                obtain ⟨x275492, q275493, ht275485⟩ := bind_some ht275485
                refine WL_run rfl (yield_of rfl (congrArg Value.bool hc275487)) rfl (Exec.index_rep S61 rfl rfl rfl (r272954.mono (PHeap.le.trans (PHeap.le.trans l275240 l275436) l275466)) q275493 ?_)
                intro b275494 o275495 a275496
                refine WL_run rfl (yield_of rfl (congrArg Value.bool hc275487)) rfl (Exec.load_at (E := (encSlice (encInt .i64))) hS275467 A49 rfl rfl rfl a275496 ?_)
                intro v275497 q275498
                have r275499 := encSlice_val.1 q275498
                refine WL_run rfl (yield_of rfl (congrArg Value.bool hc275487)) rfl (Exec.move (v := Value.int .i64 ((i275251 : Int))) rfl rfl ?_)
                obtain ⟨x275500, q275501, ht275485⟩ := bind_some ht275485
                refine WL_run rfl (yield_of rfl (congrArg Value.bool hc275487)) rfl (Exec.index_rep S49 rfl rfl rfl r275499 q275501 ?_)
                intro b275502 o275503 a275504
                refine WL_run rfl (yield_of rfl (congrArg Value.bool hc275487)) rfl (Exec.load_at (E := (encInt .i64)) hS275467 A3 rfl rfl rfl a275504 ?_)
                intro v275505 q275506
                obtain rfl := encInt_val.1 q275506
                refine WL_run rfl (yield_of rfl (congrArg Value.bool hc275487)) rfl (Exec.neq rfl rfl rfl ?_)
                refine WL_step rfl rfl (Exec.pick_f (v := Value.bool (!decide (y275460 = x275500))) rfl (congrArg Value.bool hc275487) rfl ?_)
                refine WL_nil (at_normal ?_)
                have e275507 := Option.some.inj ht275485
                subst z275484
                have hS275508 := (hS275467).f3
                have hS275509 := ((hS275508).f3).f3
                have hS275510 := (hS275509).f3
                exact ⟨s275465, (PHeap.le_refl _), hS275510, p275438, p275439, p275440, p275441, p275442, p275443, p275444, p275445, p275446, x275447, rfl⟩
            · intro f275511 w275512 hM275513
              obtain ⟨s275514, l275515, hS275516, p275517, p275518, p275519, p275520, p275521, p275522, p275523, p275524, p275525, p275526, p275527⟩ := hM275513
              refine (at_normal ?_)
              rcases ite_some hm275431 with ⟨hc275528, hm275431⟩ | ⟨hc275528, hm275431⟩
              · refine W_cond_t p275527 hc275528 ?_
                refine W_seq ?_
                refine W_region ?_
                refine WL_step rfl rfl (Exec.assign (v := Value.bool (false)) rfl rfl ?_)
                refine WL_nil (at_normal ?_)
                refine W_ret (ib_ret (at_ret (at_ret (ib_ret (at_ret (at_ret (ib_ret (at_ret (at_ret (ib_ret (at_ret (at_ret ?_))))))))))))
                have e275529 := Option.some.inj hm275431
                subst c275427
                have hq275530 := hr275418 _ (hres275432 (by intro _ h; cases h))
                have e275531 := Option.some.inj hq275530
                subst c275231
                have hq275532 := hr275222 _ (hres275236 (by intro _ h; cases h))
                have e275533 := Option.some.inj hq275532
                subst r
                refine ⟨_, ret1 rfl, ?_⟩
                have hS275534 := ((hS275516).f3).drop
                have hS275535 := ((hS275534).f2).f2
                have hS275536 := (hS275535).f2
                exact ⟨s275514, (PHeap.le.trans (PHeap.le.trans (PHeap.le.trans (PHeap.le.trans l272951 l275240) l275436) l275466) l275515), hS275536, rfl⟩
              · refine W_cond_f p275527 hc275528 ?_
                replace hc275528 := not_true hc275528
                refine W_skip (ib_normal (at_normal ?_))
                refine W_region ?_
                refine WL_step rfl rfl (Exec.add rfl p275526 rfl ?_)
                refine WL_step rfl rfl (Exec.move (v := Value.int .i64 (IntKind.i64.wrap ((i275251 : Int) + 1))) rfl rfl ?_)
                refine WL_nil (at_normal ?_)
                have e275537 := Option.some.inj hm275431
                subst c275427
                have hS275538 := (hS275516).f3
                have hS275539 := ((hS275538).f3).f3
                have hS275540 := (hS275539).f3
                refine ⟨_, rfl, ?_⟩; exact ⟨s275514, (PHeap.le.trans (PHeap.le.trans l275436 l275466) l275515), hS275540, p275517, p275518, p275519, p275520, p275521, p275522, p275523, p275524, p275525, (Eq.trans rfl (wrap_up hi275434 (by have h := must_some q275250; simp at h; simp only [maxLen]; omega)))⟩
          · intro t275541 f275542 w275543 hI275544 hres275545
            obtain ⟨s275546, l275547, hS275548, p275549, p275550, p275551, p275552, p275553, p275554, p275555, p275556, p275557, x275558⟩ := hI275544
            refine W_seq ?_
            refine W_region ?_
            refine WL_step rfl rfl (Exec.lss rfl x275558 p275557 ?_)
            refine WL_nil (at_normal ?_)
            refine W_seq ?_
            refine W_false (congrArg Value.bool (decide_eq_false (by omega))) ?_
            refine W_exit (at_exit (at_exit (ib_here (at_normal ?_))))
            have hS275559 := (hS275548).f3
            have hS275560 := ((hS275559).f3).f3
            have hS275561 := (hS275560).f3
            refine ⟨_, .inl hres275545, ?_⟩; exact ⟨s275546, l275547, hS275561, p275549, p275550, p275551, p275552, p275553, p275554, p275555, p275556, p275557⟩
        · rintro f275562 w275563 ⟨t275564, hc275565, hM275566⟩
          have hm275235 := hc275565.elim (hn275419 _) (hb275420 _)
          clear hc275565
          obtain ⟨s275567, l275568, hS275569, p275570, p275571, p275572, p275573, p275574, p275575, p275576, p275577, p275578⟩ := hM275566
          refine (at_normal ?_)
          refine W_seq ?_
          refine W_region ?_
          refine WL_step rfl rfl (Exec.move (v := Value.pointer (some ⟨b147265, 0, none⟩)) rfl p275570 ?_)
          refine WL_step rfl rfl (Exec.move (v := Value.int .i64 ((i272962 : Int))) rfl p275575 ?_)
          obtain ⟨t275589, q275590, hm275235⟩ := bind_some hm275235
          obtain ⟨y275591, y275592⟩ := t275589
          replace hm275235 := un2_eq hm275235
          have hS275593 := ((hS275569).f2).f2
          have hS275594 := (hS275593).f2
          refine WL_step rfl rfl (Exec.call rfl rfl Try.func16 rfl N16 (args_cons rfl (args_cons rfl args_nil)) ((stn_Network_Earliest_sim q275590 hS275594 ).mono ?_))
          rintro _ w275595 ⟨_, rfl, ⟨s275596, l275597, hS275598, rfl⟩⟩
          refine ⟨_, rfl, ?_⟩
          refine WL_step rfl rfl (Exec.move (v := Value.tuple #[Value.int .i64 (y275591), errV 30 (y275592)]) rfl rfl ?_)
          refine WL_step rfl rfl (Exec.extract (v := Value.int .i64 (y275591)) rfl rfl rfl ?_)
          refine WL_step rfl rfl (Exec.extract (v := errV 30 (y275592)) rfl rfl rfl ?_)
          refine WL_step rfl rfl (Exec.assign (v := Value.int .i64 (y275591)) rfl rfl ?_)
          refine WL_step rfl rfl (Exec.assign (v := errV 30 (y275592)) rfl rfl ?_)
          refine WL_nil (at_normal ?_)
          refine W_seq ?_
          refine W_seq ?_
          refine W_region ?_
          refine WL_step rfl rfl (Exec.move (v := v272953) rfl p275572 ?_)
          refine WL_step rfl rfl (Exec.move (v := Value.int .i64 ((i272962 : Int))) rfl p275575 ?_)
          obtain ⟨x275614, q275615, hm275235⟩ := bind_some hm275235
          refine WL_step rfl rfl (Exec.index_rep S61 rfl rfl rfl (r272954.mono (PHeap.le.trans (PHeap.le.trans l275240 l275568) l275597)) q275615 ?_)
          intro b275616 o275617 a275618
          refine WL_step rfl rfl (Exec.load_at (E := (encSlice (encInt .i64))) hS275598 A49 rfl rfl rfl a275618 ?_)
          intro v275619 q275620
          have r275621 := encSlice_val.1 q275620
          obtain ⟨x275622, q275623, hm275235⟩ := bind_some hm275235
          refine WL_step rfl rfl (Exec.index_rep S49 rfl rfl rfl r275621 q275623 ?_)
          intro b275624 o275625 a275626
          refine WL_step rfl rfl (Exec.load_at (E := (encInt .i64)) hS275598 A3 rfl rfl rfl a275626 ?_)
          intro v275627 q275628
          obtain rfl := encInt_val.1 q275628
          refine WL_step rfl rfl (Exec.eql rfl rfl rfl ?_)
          refine WL_nil (at_normal ?_)
          rcases ite_some hm275235 with ⟨hc275629, hm275235⟩ | ⟨hc275629, hm275235⟩
          · refine W_cond_t rfl hc275629 ?_
            refine W_seq ?_
            refine W_region ?_
            refine WL_step rfl rfl (Exec.assign (v := Value.bool (false)) rfl rfl ?_)
            refine WL_nil (at_normal ?_)
            refine W_seq ?_
            refine W_mid (M := fun f' w' => ∃ (s275635 : PHeap) , PHeap.le s275596 s275635 ∧ St w0 s275635 (Res.box b147265 63 [v147266] :: Res.arr encRaw 49 v147266 hs147267 :: Res.rows (encInt .i64) 3 hs147267 x147264.d :: Res.arr (encInt .i64) 3 v273709 first273708 :: H) w' ∧ f' 0 = Value.pointer (some ⟨b147265, 0, none⟩) ∧ f' 1 = Value.int .i64 (n147268) ∧ f' 7 = v272953 ∧ f' 9 = v273709 ∧ f' 10 = Value.bool (false) ∧ f' 11 = Value.int .i64 ((i272962 : Int)) ∧ f' 15 = Value.int .i64 (y275591) ∧ f' 28 = Value.int .i64 (n147268) ∧ f' 29 = Value.int .i64 ((i272962 : Int)) ∧ f' 76 = Value.bool (((!decide (y275591 = 0)) || !(base_Is_t y275592 3)))) ?_ ?_
            · refine W_region ?_
              refine WL_step rfl rfl (Exec.move (v := Value.int .i64 (y275591)) rfl rfl ?_)
              refine WL_step rfl rfl (Exec.neq rfl rfl rfl ?_)
              refine WL_step rfl rfl (Exec.move (v := Value.bool (!decide (y275591 = 0))) rfl rfl ?_)
              by_cases hc275636 : (!decide (y275591 = 0)) = true
              · refine WL_pass rfl (yield_of rfl (congrArg Value.bool hc275636)) rfl rfl ?_
                refine WL_pass rfl (yield_of rfl (congrArg Value.bool hc275636)) rfl rfl ?_
                refine WL_pass rfl (yield_of rfl (congrArg Value.bool hc275636)) rfl rfl ?_
                refine WL_step rfl rfl (Exec.pick_t (v := Value.bool (true)) rfl (congrArg Value.bool hc275636) rfl ?_)
                refine WL_nil (at_normal ?_)
                have hS275637 := (hS275598).f3
                have hS275638 := ((hS275637).f3).f3
                have hS275639 := (hS275638).f3
                exact ⟨s275596, (PHeap.le_refl _), hS275639, p275570, p275571, p275572, p275573, rfl, p275575, rfl, p275576, p275577, (congrArg Value.bool (or_t hc275636)).symm⟩
              · replace hc275636 := not_true hc275636
                refine WL_run rfl (yield_of rfl (congrArg Value.bool hc275636)) rfl (Exec.move (v := errV 30 (y275592)) rfl rfl ?_)
                refine WL_run rfl (yield_of rfl (congrArg Value.bool hc275636)) rfl (Exec.call rfl rfl Try.func11 rfl N11 (args_cons rfl (args_cons rfl args_nil)) ((base_Is_sim (base_Is_tot y275592 3) hS275598 ).mono ?_))
                rintro _ w275640 ⟨_, rfl, ⟨s275641, l275642, hS275643, rfl⟩⟩
                refine ⟨_, rfl, ?_⟩
                refine WL_run rfl (yield_of rfl (congrArg Value.bool hc275636)) rfl (Exec.not rfl rfl ?_)
                refine WL_step rfl rfl (Exec.pick_f (v := Value.bool (!(base_Is_t y275592 3))) rfl (congrArg Value.bool hc275636) rfl ?_)
                refine WL_nil (at_normal ?_)
                have hS275644 := (hS275643).f3
                have hS275645 := ((hS275644).f3).f3
                have hS275646 := (hS275645).f3
                exact ⟨s275641, l275642, hS275646, p275570, p275571, p275572, p275573, rfl, p275575, rfl, p275576, p275577, (congrArg Value.bool (or_f hc275636)).symm⟩
            · intro f275647 w275648 hM275649
              obtain ⟨s275650, l275651, hS275652, p275653, p275654, p275655, p275656, p275657, p275658, p275659, p275660, p275661, p275662⟩ := hM275649
              refine (at_normal ?_)
              rcases ite_some hm275235 with ⟨hc275663, hm275235⟩ | ⟨hc275663, hm275235⟩
              · refine W_cond_t p275662 hc275663 ?_
                refine W_seq ?_
                refine W_region ?_
                refine WL_step rfl rfl (Exec.assign (v := Value.bool (false)) rfl rfl ?_)
                refine WL_nil (at_normal ?_)
                refine W_ret (at_ret (ib_ret (at_ret (at_ret (ib_ret (at_ret (at_ret ?_)))))))
                have e275664 := Option.some.inj hm275235
                subst c275231
                have hq275665 := hr275222 _ (hres275236 (by intro _ h; cases h))
                have e275666 := Option.some.inj hq275665
                subst r
                refine ⟨_, ret1 rfl, ?_⟩
                have hS275667 := ((hS275652).f3).drop
                have hS275668 := ((hS275667).f2).f2
                have hS275669 := (hS275668).f2
                exact ⟨s275650, (PHeap.le.trans (PHeap.le.trans (PHeap.le.trans (PHeap.le.trans l272951 l275240) l275568) l275597) l275651), hS275669, rfl⟩
              · refine W_cond_f p275662 hc275663 ?_
                replace hc275663 := not_true hc275663
                refine W_skip (at_normal ?_)
                refine W_seq ?_
                refine W_region ?_
                refine WL_step rfl rfl (Exec.move (v := v273709) rfl p275656 ?_)
                refine WL_step rfl rfl (Exec.move (v := Value.int .i64 (y275591)) rfl p275659 ?_)
                refine WL_step rfl rfl (Exec.buildSlice (Te := 3) (cs := [Value.int .i64 (y275591)]) hS275652 rfl (parts_cons (c := [Value.int .i64 (y275591)]) (cells_of rfl rfl) parts_nil) (fun _ => by kernel_rfl) ?_)
                intro b275679 w275680 hS275681
                obtain ⟨l275682, q275683, hm275235⟩ := bind_some hm275235
                have hS275684 := (hS275681).f4
                refine WL_step rfl rfl (Exec.append_box (E := (encInt .i64)) (ys := [y275591]) hS275684 S49 Z3 rfl (by decide) rfl rfl rfl rfl ⟨[Value.int .i64 (y275591)], [], rfl, rfl, rfl⟩ rfl q275683 ?_)
                intro v275685 w275686 hS275687
                refine WL_step rfl rfl (Exec.assign (v := v275685) rfl rfl ?_)
                refine WL_nil (at_normal ?_)
                refine W_seq ?_
                refine W_region ?_
                refine WL_step rfl rfl (Exec.move (v := Value.pointer (some ⟨b147265, 0, none⟩)) rfl p275653 ?_)
                refine WL_step rfl rfl (Exec.move (v := Value.int .i64 ((i272962 : Int))) rfl p275658 ?_)
                obtain ⟨t275698, q275699, hm275235⟩ := bind_some hm275235
                obtain ⟨y275700, y275701⟩ := t275698
                replace hm275235 := un2_eq hm275235
                have hS275702 := ((hS275687).f3).f3
                have hS275703 := (hS275702).f3
                refine WL_step rfl rfl (Exec.call rfl rfl Try.func17 rfl N17 (args_cons rfl (args_cons rfl args_nil)) ((stn_Network_Latest_sim q275699 hS275703 ).mono ?_))
                rintro _ w275704 ⟨_, rfl, ⟨s275705, l275706, hS275707, rfl⟩⟩
                refine ⟨_, rfl, ?_⟩
                refine WL_step rfl rfl (Exec.move (v := Value.tuple #[Value.int .i64 (y275700), errV 30 (y275701)]) rfl rfl ?_)
                refine WL_step rfl rfl (Exec.extract (v := Value.int .i64 (y275700)) rfl rfl rfl ?_)
                refine WL_step rfl rfl (Exec.extract (v := errV 30 (y275701)) rfl rfl rfl ?_)
                refine WL_step rfl rfl (Exec.assign (v := Value.int .i64 (y275700)) rfl rfl ?_)
                refine WL_step rfl rfl (Exec.assign (v := errV 30 (y275701)) rfl rfl ?_)
                refine WL_nil (at_normal ?_)
                refine W_seq ?_
                refine W_region ?_
                refine WL_step rfl rfl (Exec.move (v := v272953) rfl p275655 ?_)
                obtain ⟨x275723, q275724, hm275235⟩ := bind_some hm275235
                refine WL_step rfl rfl (Exec.index_rep S61 rfl rfl rfl (r272954.mono (PHeap.le.trans (PHeap.le.trans (PHeap.le.trans (PHeap.le.trans l275240 l275568) l275597) l275651) l275706)) q275724 ?_)
                intro b275725 o275726 a275727
                refine WL_step rfl rfl (Exec.load_at (E := (encSlice (encInt .i64))) hS275707 A49 rfl rfl rfl a275727 ?_)
                intro v275728 q275729
                have r275730 := encSlice_val.1 q275729
                refine WL_step rfl rfl (Exec.move (v := Value.int .i64 ((i272962 : Int))) rfl p275658 ?_)
                obtain ⟨x275731, q275732, hm275235⟩ := bind_some hm275235
                refine WL_step rfl rfl (Exec.index_rep S49 rfl rfl rfl r275730 q275732 ?_)
                intro b275733 o275734 a275735
                refine WL_step rfl rfl (Exec.load_at (E := (encInt .i64)) hS275707 A3 rfl rfl rfl a275735 ?_)
                intro v275736 q275737
                obtain rfl := encInt_val.1 q275737
                refine WL_step rfl rfl (Exec.eql rfl rfl rfl ?_)
                refine WL_nil (at_normal ?_)
                rcases ite_some hm275235 with ⟨hc275738, hm275235⟩ | ⟨hc275738, hm275235⟩
                · refine W_cond_t rfl hc275738 ?_
                  refine W_seq ?_
                  refine W_mid (M := fun f' w' => ∃ (s275744 : PHeap) , PHeap.le s275705 s275744 ∧ St w0 s275744 (Res.box b147265 63 [v147266] :: Res.arr encRaw 49 v147266 hs147267 :: Res.rows (encInt .i64) 3 hs147267 x147264.d :: Res.arr (encInt .i64) 3 v275685 l275682 :: H) w' ∧ f' 0 = Value.pointer (some ⟨b147265, 0, none⟩) ∧ f' 1 = Value.int .i64 (n147268) ∧ f' 7 = v272953 ∧ f' 9 = v275685 ∧ f' 10 = Value.bool (false) ∧ f' 28 = Value.int .i64 (n147268) ∧ f' 29 = Value.int .i64 ((i272962 : Int)) ∧ f' 113 = Value.bool (((!decide (y275700 = 0)) || !(base_Is_t y275701 3)))) ?_ ?_
                  · refine W_region ?_
                    refine WL_step rfl rfl (Exec.move (v := Value.int .i64 (y275700)) rfl rfl ?_)
                    refine WL_step rfl rfl (Exec.neq rfl rfl rfl ?_)
                    refine WL_step rfl rfl (Exec.move (v := Value.bool (!decide (y275700 = 0))) rfl rfl ?_)
                    by_cases hc275745 : (!decide (y275700 = 0)) = true
                    · refine WL_pass rfl (yield_of rfl (congrArg Value.bool hc275745)) rfl rfl ?_
                      refine WL_pass rfl (yield_of rfl (congrArg Value.bool hc275745)) rfl rfl ?_
                      refine WL_pass rfl (yield_of rfl (congrArg Value.bool hc275745)) rfl rfl ?_
                      refine WL_step rfl rfl (Exec.pick_t (v := Value.bool (true)) rfl (congrArg Value.bool hc275745) rfl ?_)
                      refine WL_nil (at_normal ?_)
                      have hS275746 := (hS275707).f3
                      have hS275747 := ((hS275746).f3).f3
                      have hS275748 := (hS275747).f3
                      exact ⟨s275705, (PHeap.le_refl _), hS275748, p275653, p275654, p275655, rfl, p275657, p275660, p275661, (congrArg Value.bool (or_t hc275745)).symm⟩
                    · replace hc275745 := not_true hc275745
                      refine WL_run rfl (yield_of rfl (congrArg Value.bool hc275745)) rfl (Exec.move (v := errV 30 (y275701)) rfl rfl ?_)
                      refine WL_run rfl (yield_of rfl (congrArg Value.bool hc275745)) rfl (Exec.call rfl rfl Try.func11 rfl N11 (args_cons rfl (args_cons rfl args_nil)) ((base_Is_sim (base_Is_tot y275701 3) hS275707 ).mono ?_))
                      rintro _ w275749 ⟨_, rfl, ⟨s275750, l275751, hS275752, rfl⟩⟩
                      refine ⟨_, rfl, ?_⟩
                      refine WL_run rfl (yield_of rfl (congrArg Value.bool hc275745)) rfl (Exec.not rfl rfl ?_)
                      refine WL_step rfl rfl (Exec.pick_f (v := Value.bool (!(base_Is_t y275701 3))) rfl (congrArg Value.bool hc275745) rfl ?_)
                      refine WL_nil (at_normal ?_)
                      have hS275753 := (hS275752).f3
                      have hS275754 := ((hS275753).f3).f3
                      have hS275755 := (hS275754).f3
                      exact ⟨s275750, l275751, hS275755, p275653, p275654, p275655, rfl, p275657, p275660, p275661, (congrArg Value.bool (or_f hc275745)).symm⟩
                  · intro f275756 w275757 hM275758
                    obtain ⟨s275759, l275760, hS275761, p275762, p275763, p275764, p275765, p275766, p275767, p275768, p275769⟩ := hM275758
                    refine (at_normal ?_)
                    rcases ite_some hm275235 with ⟨hc275770, hm275235⟩ | ⟨hc275770, hm275235⟩
                    · refine W_cond_t p275769 hc275770 ?_
                      refine W_seq ?_
                      refine W_region ?_
                      refine WL_step rfl rfl (Exec.assign (v := Value.bool (false)) rfl rfl ?_)
                      refine WL_nil (at_normal ?_)
                      refine W_ret (ib_ret (at_ret (at_ret (ib_ret (at_ret (at_ret ?_))))))
                      have e275771 := Option.some.inj hm275235
                      subst c275231
                      have hq275772 := hr275222 _ (hres275236 (by intro _ h; cases h))
                      have e275773 := Option.some.inj hq275772
                      subst r
                      refine ⟨_, ret1 rfl, ?_⟩
                      have hS275774 := ((hS275761).f3).drop
                      have hS275775 := ((hS275774).f2).f2
                      have hS275776 := (hS275775).f2
                      exact ⟨s275759, (PHeap.le.trans (PHeap.le.trans (PHeap.le.trans (PHeap.le.trans (PHeap.le.trans (PHeap.le.trans l272951 l275240) l275568) l275597) l275651) l275706) l275760), hS275776, rfl⟩
                    · refine W_cond_f p275769 hc275770 ?_
                      replace hc275770 := not_true hc275770
                      refine W_skip (ib_normal (at_normal ?_))
                      refine W_region ?_
                      refine WL_step rfl rfl (Exec.add rfl p275768 rfl ?_)
                      refine WL_step rfl rfl (Exec.move (v := Value.int .i64 (IntKind.i64.wrap ((i272962 : Int) + 1))) rfl rfl ?_)
                      refine WL_nil (at_normal ?_)
                      have e275777 := Option.some.inj hm275235
                      subst c275231
                      have hS275778 := (hS275761).f3
                      have hS275779 := ((hS275778).f3).f3
                      have hS275780 := (hS275779).f3
                      refine ⟨_, rfl, ?_⟩; exact ⟨s275759, v275685, (PHeap.le.trans (PHeap.le.trans (PHeap.le.trans (PHeap.le.trans (PHeap.le.trans l275240 l275568) l275597) l275651) l275706) l275760), hS275780, p275762, p275763, p275764, p275765, p275766, p275767, (Eq.trans rfl (wrap_up hi275238 (by have h := must_some q272961; simp at h; simp only [maxLen]; omega)))⟩
                · refine W_cond_f rfl hc275738 ?_
                  replace hc275738 := not_true hc275738
                  refine W_seq ?_
                  refine W_mid (M := fun f' w' => ∃ (s275793 : PHeap) , PHeap.le s275705 s275793 ∧ St w0 s275793 (Res.box b147265 63 [v147266] :: Res.arr encRaw 49 v147266 hs147267 :: Res.rows (encInt .i64) 3 hs147267 x147264.d :: Res.arr (encInt .i64) 3 v275685 l275682 :: H) w' ∧ f' 0 = Value.pointer (some ⟨b147265, 0, none⟩) ∧ f' 1 = Value.int .i64 (n147268) ∧ f' 7 = v272953 ∧ f' 9 = v275685 ∧ f' 10 = Value.bool (false) ∧ f' 28 = Value.int .i64 (n147268) ∧ f' 29 = Value.int .i64 ((i272962 : Int)) ∧ f' 125 = Value.bool ((y275701.isSome || !decide (y275700 = x275731)))) ?_ ?_
                  · refine W_region ?_
                    refine WL_step rfl rfl (Exec.move (v := errV 30 (y275701)) rfl rfl ?_)
                    refine WL_step rfl rfl (Exec.err_neq_nil (T := 30) Try.underlying26 rfl rfl rfl ?_)
                    refine WL_step rfl rfl (Exec.move (v := Value.bool (y275701.isSome)) rfl rfl ?_)
                    by_cases hc275794 : y275701.isSome = true
                    · refine WL_pass rfl (yield_of rfl (congrArg Value.bool hc275794)) rfl rfl ?_
                      refine WL_pass rfl (yield_of rfl (congrArg Value.bool hc275794)) rfl rfl ?_
                      refine WL_pass rfl (yield_of rfl (congrArg Value.bool hc275794)) rfl rfl ?_
                      refine WL_pass rfl (yield_of rfl (congrArg Value.bool hc275794)) rfl rfl ?_
                      refine WL_pass rfl (yield_of rfl (congrArg Value.bool hc275794)) rfl rfl ?_
                      refine WL_pass rfl (yield_of rfl (congrArg Value.bool hc275794)) rfl rfl ?_
                      refine WL_pass rfl (yield_of rfl (congrArg Value.bool hc275794)) rfl rfl ?_
                      refine WL_pass rfl (yield_of rfl (congrArg Value.bool hc275794)) rfl rfl ?_
                      refine WL_step rfl rfl (Exec.pick_t (v := Value.bool (true)) rfl (congrArg Value.bool hc275794) rfl ?_)
                      refine WL_nil (at_normal ?_)
                      have hS275795 := (hS275707).f3
                      have hS275796 := ((hS275795).f3).f3
                      have hS275797 := (hS275796).f3
                      exact ⟨s275705, (PHeap.le_refl _), hS275797, p275653, p275654, p275655, rfl, p275657, p275660, p275661, (congrArg Value.bool (or_t hc275794)).symm⟩
                    · replace hc275794 := not_true hc275794
                      refine WL_run rfl (yield_of rfl (congrArg Value.bool hc275794)) rfl (Exec.move (v := Value.int .i64 (y275700)) rfl rfl ?_)
                      refine WL_run rfl (yield_of rfl (congrArg Value.bool hc275794)) rfl (Exec.move (v := v272953) rfl p275655 ?_)
                      refine WL_run rfl (yield_of rfl (congrArg Value.bool hc275794)) rfl (Exec.index_rep S61 rfl rfl rfl (r272954.mono (PHeap.le.trans (PHeap.le.trans (PHeap.le.trans (PHeap.le.trans l275240 l275568) l275597) l275651) l275706)) q275724 ?_)
                      intro b275798 o275799 a275800
                      refine WL_run rfl (yield_of rfl (congrArg Value.bool hc275794)) rfl (Exec.load_at (E := (encSlice (encInt .i64))) hS275707 A49 rfl rfl rfl a275800 ?_)
                      intro v275801 q275802
                      have r275803 := encSlice_val.1 q275802
                      refine WL_run rfl (yield_of rfl (congrArg Value.bool hc275794)) rfl (Exec.move (v := Value.int .i64 ((i272962 : Int))) rfl p275658 ?_)
                      refine WL_run rfl (yield_of rfl (congrArg Value.bool hc275794)) rfl (Exec.index_rep S49 rfl rfl rfl r275803 q275732 ?_)
                      intro b275804 o275805 a275806
                      refine WL_run rfl (yield_of rfl (congrArg Value.bool hc275794)) rfl (Exec.load_at (E := (encInt .i64)) hS275707 A3 rfl rfl rfl a275806 ?_)
                      intro v275807 q275808
                      obtain rfl := encInt_val.1 q275808
                      refine WL_run rfl (yield_of rfl (congrArg Value.bool hc275794)) rfl (Exec.neq rfl rfl rfl ?_)
                      refine WL_step rfl rfl (Exec.pick_f (v := Value.bool (!decide (y275700 = x275731))) rfl (congrArg Value.bool hc275794) rfl ?_)
                      refine WL_nil (at_normal ?_)
                      have hS275809 := (hS275707).f3
                      have hS275810 := ((hS275809).f3).f3
                      have hS275811 := (hS275810).f3
                      exact ⟨s275705, (PHeap.le_refl _), hS275811, p275653, p275654, p275655, rfl, p275657, p275660, p275661, (congrArg Value.bool (or_f hc275794)).symm⟩
                  · intro f275812 w275813 hM275814
                    obtain ⟨s275815, l275816, hS275817, p275818, p275819, p275820, p275821, p275822, p275823, p275824, p275825⟩ := hM275814
                    refine (at_normal ?_)
                    rcases ite_some hm275235 with ⟨hc275826, hm275235⟩ | ⟨hc275826, hm275235⟩
                    · refine W_cond_t p275825 hc275826 ?_
                      refine W_seq ?_
                      refine W_region ?_
                      refine WL_step rfl rfl (Exec.assign (v := Value.bool (false)) rfl rfl ?_)
                      refine WL_nil (at_normal ?_)
                      refine W_ret (ib_ret (at_ret (at_ret (ib_ret (at_ret (at_ret ?_))))))
                      have e275827 := Option.some.inj hm275235
                      subst c275231
                      have hq275828 := hr275222 _ (hres275236 (by intro _ h; cases h))
                      have e275829 := Option.some.inj hq275828
                      subst r
                      refine ⟨_, ret1 rfl, ?_⟩
                      have hS275830 := ((hS275817).f3).drop
                      have hS275831 := ((hS275830).f2).f2
                      have hS275832 := (hS275831).f2
                      exact ⟨s275815, (PHeap.le.trans (PHeap.le.trans (PHeap.le.trans (PHeap.le.trans (PHeap.le.trans (PHeap.le.trans l272951 l275240) l275568) l275597) l275651) l275706) l275816), hS275832, rfl⟩
                    · refine W_cond_f p275825 hc275826 ?_
                      replace hc275826 := not_true hc275826
                      refine W_skip (ib_normal (at_normal ?_))
                      refine W_region ?_
                      refine WL_step rfl rfl (Exec.add rfl p275824 rfl ?_)
                      refine WL_step rfl rfl (Exec.move (v := Value.int .i64 (IntKind.i64.wrap ((i272962 : Int) + 1))) rfl rfl ?_)
                      refine WL_nil (at_normal ?_)
                      have e275833 := Option.some.inj hm275235
                      subst c275231
                      have hS275834 := (hS275817).f3
                      have hS275835 := ((hS275834).f3).f3
                      have hS275836 := (hS275835).f3
                      refine ⟨_, rfl, ?_⟩; exact ⟨s275815, v275685, (PHeap.le.trans (PHeap.le.trans (PHeap.le.trans (PHeap.le.trans (PHeap.le.trans l275240 l275568) l275597) l275651) l275706) l275816), hS275836, p275818, p275819, p275820, p275821, p275822, p275823, (Eq.trans rfl (wrap_up hi275238 (by have h := must_some q272961; simp at h; simp only [maxLen]; omega)))⟩
          · refine W_cond_f rfl hc275629 ?_
            replace hc275629 := not_true hc275629
            refine W_seq ?_
            refine W_mid (M := fun f' w' => ∃ (s275849 : PHeap) , PHeap.le s275596 s275849 ∧ St w0 s275849 (Res.box b147265 63 [v147266] :: Res.arr encRaw 49 v147266 hs147267 :: Res.rows (encInt .i64) 3 hs147267 x147264.d :: Res.arr (encInt .i64) 3 v273709 first273708 :: H) w' ∧ f' 0 = Value.pointer (some ⟨b147265, 0, none⟩) ∧ f' 1 = Value.int .i64 (n147268) ∧ f' 7 = v272953 ∧ f' 9 = v273709 ∧ f' 10 = Value.bool (all273710) ∧ f' 11 = Value.int .i64 ((i272962 : Int)) ∧ f' 15 = Value.int .i64 (y275591) ∧ f' 28 = Value.int .i64 (n147268) ∧ f' 29 = Value.int .i64 ((i272962 : Int)) ∧ f' 89 = Value.bool ((y275592.isSome || !decide (y275591 = (IntKind.i64.wrap (0 - x275622)))))) ?_ ?_
            · refine W_region ?_
              refine WL_step rfl rfl (Exec.move (v := errV 30 (y275592)) rfl rfl ?_)
              refine WL_step rfl rfl (Exec.err_neq_nil (T := 30) Try.underlying26 rfl rfl rfl ?_)
              refine WL_step rfl rfl (Exec.move (v := Value.bool (y275592.isSome)) rfl rfl ?_)
              by_cases hc275850 : y275592.isSome = true
              · refine WL_pass rfl (yield_of rfl (congrArg Value.bool hc275850)) rfl rfl ?_
                refine WL_pass rfl (yield_of rfl (congrArg Value.bool hc275850)) rfl rfl ?_
                refine WL_pass rfl (yield_of rfl (congrArg Value.bool hc275850)) rfl rfl ?_
                refine WL_pass rfl (yield_of rfl (congrArg Value.bool hc275850)) rfl rfl ?_
                refine WL_pass rfl (yield_of rfl (congrArg Value.bool hc275850)) rfl rfl ?_
                refine WL_pass rfl (yield_of rfl (congrArg Value.bool hc275850)) rfl rfl ?_
                refine WL_pass rfl (yield_of rfl (congrArg Value.bool hc275850)) rfl rfl ?_
                refine WL_pass rfl (yield_of rfl (congrArg Value.bool hc275850)) rfl rfl ?_
                refine WL_pass rfl (yield_of rfl (congrArg Value.bool hc275850)) rfl rfl ?_
                refine WL_step rfl rfl (Exec.pick_t (v := Value.bool (true)) rfl (congrArg Value.bool hc275850) rfl ?_)
                refine WL_nil (at_normal ?_)
                have hS275851 := (hS275598).f3
                have hS275852 := ((hS275851).f3).f3
                have hS275853 := (hS275852).f3
                exact ⟨s275596, (PHeap.le_refl _), hS275853, p275570, p275571, p275572, p275573, p275574, p275575, rfl, p275576, p275577, (congrArg Value.bool (or_t hc275850)).symm⟩
              · replace hc275850 := not_true hc275850
                refine WL_run rfl (yield_of rfl (congrArg Value.bool hc275850)) rfl (Exec.move (v := Value.int .i64 (y275591)) rfl rfl ?_)
                refine WL_run rfl (yield_of rfl (congrArg Value.bool hc275850)) rfl (Exec.move (v := v272953) rfl p275572 ?_)
                refine WL_run rfl (yield_of rfl (congrArg Value.bool hc275850)) rfl (Exec.move (v := Value.int .i64 ((i272962 : Int))) rfl p275575 ?_)
                refine WL_run rfl (yield_of rfl (congrArg Value.bool hc275850)) rfl (Exec.index_rep S61 rfl rfl rfl (r272954.mono (PHeap.le.trans (PHeap.le.trans l275240 l275568) l275597)) q275615 ?_)
                intro b275854 o275855 a275856
                refine WL_run rfl (yield_of rfl (congrArg Value.bool hc275850)) rfl (Exec.load_at (E := (encSlice (encInt .i64))) hS275598 A49 rfl rfl rfl a275856 ?_)
                intro v275857 q275858
                have r275859 := encSlice_val.1 q275858
                refine WL_run rfl (yield_of rfl (congrArg Value.bool hc275850)) rfl (Exec.index_rep S49 rfl rfl rfl r275859 q275623 ?_)
                intro b275860 o275861 a275862
                refine WL_run rfl (yield_of rfl (congrArg Value.bool hc275850)) rfl (Exec.load_at (E := (encInt .i64)) hS275598 A3 rfl rfl rfl a275862 ?_)
                intro v275863 q275864
                obtain rfl := encInt_val.1 q275864
                refine WL_run rfl (yield_of rfl (congrArg Value.bool hc275850)) rfl (Exec.neg rfl rfl ?_)
                refine WL_run rfl (yield_of rfl (congrArg Value.bool hc275850)) rfl (Exec.neq rfl rfl rfl ?_)
                refine WL_step rfl rfl (Exec.pick_f (v := Value.bool (!decide (y275591 = (IntKind.i64.wrap (0 - x275622))))) rfl (congrArg Value.bool hc275850) rfl ?_)
                refine WL_nil (at_normal ?_)
                have hS275865 := (hS275598).f3
                have hS275866 := ((hS275865).f3).f3
                have hS275867 := (hS275866).f3
                exact ⟨s275596, (PHeap.le_refl _), hS275867, p275570, p275571, p275572, p275573, p275574, p275575, rfl, p275576, p275577, (congrArg Value.bool (or_f hc275850)).symm⟩
            · intro f275868 w275869 hM275870
              obtain ⟨s275871, l275872, hS275873, p275874, p275875, p275876, p275877, p275878, p275879, p275880, p275881, p275882, p275883⟩ := hM275870
              refine (at_normal ?_)
              rcases ite_some hm275235 with ⟨hc275884, hm275235⟩ | ⟨hc275884, hm275235⟩
              · refine W_cond_t p275883 hc275884 ?_
                refine W_seq ?_
                refine W_region ?_
                refine WL_step rfl rfl (Exec.assign (v := Value.bool (false)) rfl rfl ?_)
                refine WL_nil (at_normal ?_)
                refine W_ret (at_ret (ib_ret (at_ret (at_ret (ib_ret (at_ret (at_ret ?_)))))))
                have e275885 := Option.some.inj hm275235
                subst c275231
                have hq275886 := hr275222 _ (hres275236 (by intro _ h; cases h))
                have e275887 := Option.some.inj hq275886
                subst r
                refine ⟨_, ret1 rfl, ?_⟩
                have hS275888 := ((hS275873).f3).drop
                have hS275889 := ((hS275888).f2).f2
                have hS275890 := (hS275889).f2
                exact ⟨s275871, (PHeap.le.trans (PHeap.le.trans (PHeap.le.trans (PHeap.le.trans l272951 l275240) l275568) l275597) l275872), hS275890, rfl⟩
              · refine W_cond_f p275883 hc275884 ?_
                replace hc275884 := not_true hc275884
                refine W_skip (at_normal ?_)
                refine W_seq ?_
                refine W_region ?_
                refine WL_step rfl rfl (Exec.move (v := v273709) rfl p275877 ?_)
                refine WL_step rfl rfl (Exec.move (v := Value.int .i64 (y275591)) rfl p275880 ?_)
                refine WL_step rfl rfl (Exec.buildSlice (Te := 3) (cs := [Value.int .i64 (y275591)]) hS275873 rfl (parts_cons (c := [Value.int .i64 (y275591)]) (cells_of rfl rfl) parts_nil) (fun _ => by kernel_rfl) ?_)
                intro b275900 w275901 hS275902
                obtain ⟨l275903, q275904, hm275235⟩ := bind_some hm275235
                have hS275905 := (hS275902).f4
                refine WL_step rfl rfl (Exec.append_box (E := (encInt .i64)) (ys := [y275591]) hS275905 S49 Z3 rfl (by decide) rfl rfl rfl rfl ⟨[Value.int .i64 (y275591)], [], rfl, rfl, rfl⟩ rfl q275904 ?_)
                intro v275906 w275907 hS275908
                refine WL_step rfl rfl (Exec.assign (v := v275906) rfl rfl ?_)
                refine WL_nil (at_normal ?_)
                refine W_seq ?_
                refine W_region ?_
                refine WL_step rfl rfl (Exec.move (v := Value.pointer (some ⟨b147265, 0, none⟩)) rfl p275874 ?_)
                refine WL_step rfl rfl (Exec.move (v := Value.int .i64 ((i272962 : Int))) rfl p275879 ?_)
                obtain ⟨t275919, q275920, hm275235⟩ := bind_some hm275235
                obtain ⟨y275921, y275922⟩ := t275919
                replace hm275235 := un2_eq hm275235
                have hS275923 := ((hS275908).f3).f3
                have hS275924 := (hS275923).f3
                refine WL_step rfl rfl (Exec.call rfl rfl Try.func17 rfl N17 (args_cons rfl (args_cons rfl args_nil)) ((stn_Network_Latest_sim q275920 hS275924 ).mono ?_))
                rintro _ w275925 ⟨_, rfl, ⟨s275926, l275927, hS275928, rfl⟩⟩
                refine ⟨_, rfl, ?_⟩
                refine WL_step rfl rfl (Exec.move (v := Value.tuple #[Value.int .i64 (y275921), errV 30 (y275922)]) rfl rfl ?_)
                refine WL_step rfl rfl (Exec.extract (v := Value.int .i64 (y275921)) rfl rfl rfl ?_)
                refine WL_step rfl rfl (Exec.extract (v := errV 30 (y275922)) rfl rfl rfl ?_)
                refine WL_step rfl rfl (Exec.assign (v := Value.int .i64 (y275921)) rfl rfl ?_)
                refine WL_step rfl rfl (Exec.assign (v := errV 30 (y275922)) rfl rfl ?_)
                refine WL_nil (at_normal ?_)
                refine W_seq ?_
                refine W_region ?_
                refine WL_step rfl rfl (Exec.move (v := v272953) rfl p275876 ?_)
                obtain ⟨x275944, q275945, hm275235⟩ := bind_some hm275235
                refine WL_step rfl rfl (Exec.index_rep S61 rfl rfl rfl (r272954.mono (PHeap.le.trans (PHeap.le.trans (PHeap.le.trans (PHeap.le.trans l275240 l275568) l275597) l275872) l275927)) q275945 ?_)
                intro b275946 o275947 a275948
                refine WL_step rfl rfl (Exec.load_at (E := (encSlice (encInt .i64))) hS275928 A49 rfl rfl rfl a275948 ?_)
                intro v275949 q275950
                have r275951 := encSlice_val.1 q275950
                refine WL_step rfl rfl (Exec.move (v := Value.int .i64 ((i272962 : Int))) rfl p275879 ?_)
                obtain ⟨x275952, q275953, hm275235⟩ := bind_some hm275235
                refine WL_step rfl rfl (Exec.index_rep S49 rfl rfl rfl r275951 q275953 ?_)
                intro b275954 o275955 a275956
                refine WL_step rfl rfl (Exec.load_at (E := (encInt .i64)) hS275928 A3 rfl rfl rfl a275956 ?_)
                intro v275957 q275958
                obtain rfl := encInt_val.1 q275958
                refine WL_step rfl rfl (Exec.eql rfl rfl rfl ?_)
                refine WL_nil (at_normal ?_)
                rcases ite_some hm275235 with ⟨hc275959, hm275235⟩ | ⟨hc275959, hm275235⟩
                · refine W_cond_t rfl hc275959 ?_
                  refine W_seq ?_
                  refine W_mid (M := fun f' w' => ∃ (s275965 : PHeap) , PHeap.le s275926 s275965 ∧ St w0 s275965 (Res.box b147265 63 [v147266] :: Res.arr encRaw 49 v147266 hs147267 :: Res.rows (encInt .i64) 3 hs147267 x147264.d :: Res.arr (encInt .i64) 3 v275906 l275903 :: H) w' ∧ f' 0 = Value.pointer (some ⟨b147265, 0, none⟩) ∧ f' 1 = Value.int .i64 (n147268) ∧ f' 7 = v272953 ∧ f' 9 = v275906 ∧ f' 10 = Value.bool (all273710) ∧ f' 28 = Value.int .i64 (n147268) ∧ f' 29 = Value.int .i64 ((i272962 : Int)) ∧ f' 113 = Value.bool (((!decide (y275921 = 0)) || !(base_Is_t y275922 3)))) ?_ ?_
                  · refine W_region ?_
                    refine WL_step rfl rfl (Exec.move (v := Value.int .i64 (y275921)) rfl rfl ?_)
                    refine WL_step rfl rfl (Exec.neq rfl rfl rfl ?_)
                    refine WL_step rfl rfl (Exec.move (v := Value.bool (!decide (y275921 = 0))) rfl rfl ?_)
                    by_cases hc275966 : (!decide (y275921 = 0)) = true
                    · refine WL_pass rfl (yield_of rfl (congrArg Value.bool hc275966)) rfl rfl ?_
                      refine WL_pass rfl (yield_of rfl (congrArg Value.bool hc275966)) rfl rfl ?_
                      refine WL_pass rfl (yield_of rfl (congrArg Value.bool hc275966)) rfl rfl ?_
                      refine WL_step rfl rfl (Exec.pick_t (v := Value.bool (true)) rfl (congrArg Value.bool hc275966) rfl ?_)
                      refine WL_nil (at_normal ?_)
                      have hS275967 := (hS275928).f3
                      have hS275968 := ((hS275967).f3).f3
                      have hS275969 := (hS275968).f3
                      exact ⟨s275926, (PHeap.le_refl _), hS275969, p275874, p275875, p275876, rfl, p275878, p275881, p275882, (congrArg Value.bool (or_t hc275966)).symm⟩
                    · replace hc275966 := not_true hc275966
                      refine WL_run rfl (yield_of rfl (congrArg Value.bool hc275966)) rfl (Exec.move (v := errV 30 (y275922)) rfl rfl ?_)
                      refine WL_run rfl (yield_of rfl (congrArg Value.bool hc275966)) rfl (Exec.call rfl rfl Try.func11 rfl N11 (args_cons rfl (args_cons rfl args_nil)) ((base_Is_sim (base_Is_tot y275922 3) hS275928 ).mono ?_))
                      rintro _ w275970 ⟨_, rfl, ⟨s275971, l275972, hS275973, rfl⟩⟩
                      refine ⟨_, rfl, ?_⟩
                      refine WL_run rfl (yield_of rfl (congrArg Value.bool hc275966)) rfl (Exec.not rfl rfl ?_)
                      refine WL_step rfl rfl (Exec.pick_f (v := Value.bool (!(base_Is_t y275922 3))) rfl (congrArg Value.bool hc275966) rfl ?_)
                      refine WL_nil (at_normal ?_)
                      have hS275974 := (hS275973).f3
                      have hS275975 := ((hS275974).f3).f3
                      have hS275976 := (hS275975).f3
                      exact ⟨s275971, l275972, hS275976, p275874, p275875, p275876, rfl, p275878, p275881, p275882, (congrArg Value.bool (or_f hc275966)).symm⟩
                  · intro f275977 w275978 hM275979
                    obtain ⟨s275980, l275981, hS275982, p275983, p275984, p275985, p275986, p275987, p275988, p275989, p275990⟩ := hM275979
                    refine (at_normal ?_)
                    rcases ite_some hm275235 with ⟨hc275991, hm275235⟩ | ⟨hc275991, hm275235⟩
                    · refine W_cond_t p275990 hc275991 ?_
                      refine W_seq ?_
                      refine W_region ?_
                      refine WL_step rfl rfl (Exec.assign (v := Value.bool (false)) rfl rfl ?_)
                      refine WL_nil (at_normal ?_)
                      refine W_ret (ib_ret (at_ret (at_ret (ib_ret (at_ret (at_ret ?_))))))
                      have e275992 := Option.some.inj hm275235
                      subst c275231
                      have hq275993 := hr275222 _ (hres275236 (by intro _ h; cases h))
                      have e275994 := Option.some.inj hq275993
                      subst r
                      refine ⟨_, ret1 rfl, ?_⟩
                      have hS275995 := ((hS275982).f3).drop
                      have hS275996 := ((hS275995).f2).f2
                      have hS275997 := (hS275996).f2
                      exact ⟨s275980, (PHeap.le.trans (PHeap.le.trans (PHeap.le.trans (PHeap.le.trans (PHeap.le.trans (PHeap.le.trans l272951 l275240) l275568) l275597) l275872) l275927) l275981), hS275997, rfl⟩
                    · refine W_cond_f p275990 hc275991 ?_
                      replace hc275991 := not_true hc275991
                      refine W_skip (ib_normal (at_normal ?_))
                      refine W_region ?_
                      refine WL_step rfl rfl (Exec.add rfl p275989 rfl ?_)
                      refine WL_step rfl rfl (Exec.move (v := Value.int .i64 (IntKind.i64.wrap ((i272962 : Int) + 1))) rfl rfl ?_)
                      refine WL_nil (at_normal ?_)
                      have e275998 := Option.some.inj hm275235
                      subst c275231
                      have hS275999 := (hS275982).f3
                      have hS276000 := ((hS275999).f3).f3
                      have hS276001 := (hS276000).f3
                      refine ⟨_, rfl, ?_⟩; exact ⟨s275980, v275906, (PHeap.le.trans (PHeap.le.trans (PHeap.le.trans (PHeap.le.trans (PHeap.le.trans l275240 l275568) l275597) l275872) l275927) l275981), hS276001, p275983, p275984, p275985, p275986, p275987, p275988, (Eq.trans rfl (wrap_up hi275238 (by have h := must_some q272961; simp at h; simp only [maxLen]; omega)))⟩
                · refine W_cond_f rfl hc275959 ?_
                  replace hc275959 := not_true hc275959
                  refine W_seq ?_
                  refine W_mid (M := fun f' w' => ∃ (s276014 : PHeap) , PHeap.le s275926 s276014 ∧ St w0 s276014 (Res.box b147265 63 [v147266] :: Res.arr encRaw 49 v147266 hs147267 :: Res.rows (encInt .i64) 3 hs147267 x147264.d :: Res.arr (encInt .i64) 3 v275906 l275903 :: H) w' ∧ f' 0 = Value.pointer (some ⟨b147265, 0, none⟩) ∧ f' 1 = Value.int .i64 (n147268) ∧ f' 7 = v272953 ∧ f' 9 = v275906 ∧ f' 10 = Value.bool (all273710) ∧ f' 28 = Value.int .i64 (n147268) ∧ f' 29 = Value.int .i64 ((i272962 : Int)) ∧ f' 125 = Value.bool ((y275922.isSome || !decide (y275921 = x275952)))) ?_ ?_
                  · refine W_region ?_
                    refine WL_step rfl rfl (Exec.move (v := errV 30 (y275922)) rfl rfl ?_)
                    refine WL_step rfl rfl (Exec.err_neq_nil (T := 30) Try.underlying26 rfl rfl rfl ?_)
                    refine WL_step rfl rfl (Exec.move (v := Value.bool (y275922.isSome)) rfl rfl ?_)
                    by_cases hc276015 : y275922.isSome = true
                    · refine WL_pass rfl (yield_of rfl (congrArg Value.bool hc276015)) rfl rfl ?_
                      refine WL_pass rfl (yield_of rfl (congrArg Value.bool hc276015)) rfl rfl ?_
                      refine WL_pass rfl (yield_of rfl (congrArg Value.bool hc276015)) rfl rfl ?_
                      refine WL_pass rfl (yield_of rfl (congrArg Value.bool hc276015)) rfl rfl ?_
                      refine WL_pass rfl (yield_of rfl (congrArg Value.bool hc276015)) rfl rfl ?_
                      refine WL_pass rfl (yield_of rfl (congrArg Value.bool hc276015)) rfl rfl ?_
                      refine WL_pass rfl (yield_of rfl (congrArg Value.bool hc276015)) rfl rfl ?_
                      refine WL_pass rfl (yield_of rfl (congrArg Value.bool hc276015)) rfl rfl ?_
                      refine WL_step rfl rfl (Exec.pick_t (v := Value.bool (true)) rfl (congrArg Value.bool hc276015) rfl ?_)
                      refine WL_nil (at_normal ?_)
                      have hS276016 := (hS275928).f3
                      have hS276017 := ((hS276016).f3).f3
                      have hS276018 := (hS276017).f3
                      exact ⟨s275926, (PHeap.le_refl _), hS276018, p275874, p275875, p275876, rfl, p275878, p275881, p275882, (congrArg Value.bool (or_t hc276015)).symm⟩
                    · replace hc276015 := not_true hc276015
                      refine WL_run rfl (yield_of rfl (congrArg Value.bool hc276015)) rfl (Exec.move (v := Value.int .i64 (y275921)) rfl rfl ?_)
                      refine WL_run rfl (yield_of rfl (congrArg Value.bool hc276015)) rfl (Exec.move (v := v272953) rfl p275876 ?_)
                      refine WL_run rfl (yield_of rfl (congrArg Value.bool hc276015)) rfl (Exec.index_rep S61 rfl rfl rfl (r272954.mono (PHeap.le.trans (PHeap.le.trans (PHeap.le.trans (PHeap.le.trans l275240 l275568) l275597) l275872) l275927)) q275945 ?_)
                      intro b276019 o276020 a276021
                      refine WL_run rfl (yield_of rfl (congrArg Value.bool hc276015)) rfl (Exec.load_at (E := (encSlice (encInt .i64))) hS275928 A49 rfl rfl rfl a276021 ?_)
                      intro v276022 q276023
                      have r276024 := encSlice_val.1 q276023
                      refine WL_run rfl (yield_of rfl (congrArg Value.bool hc276015)) rfl (Exec.move (v := Value.int .i64 ((i272962 : Int))) rfl p275879 ?_)
                      refine WL_run rfl (yield_of rfl (congrArg Value.bool hc276015)) rfl (Exec.index_rep S49 rfl rfl rfl r276024 q275953 ?_)
                      intro b276025 o276026 a276027
                      refine WL_run rfl (yield_of rfl (congrArg Value.bool hc276015)) rfl (Exec.load_at (E := (encInt .i64)) hS275928 A3 rfl rfl rfl a276027 ?_)
                      intro v276028 q276029
                      obtain rfl := encInt_val.1 q276029
                      refine WL_run rfl (yield_of rfl (congrArg Value.bool hc276015)) rfl (Exec.neq rfl rfl rfl ?_)
                      refine WL_step rfl rfl (Exec.pick_f (v := Value.bool (!decide (y275921 = x275952))) rfl (congrArg Value.bool hc276015) rfl ?_)
                      refine WL_nil (at_normal ?_)
                      have hS276030 := (hS275928).f3
                      have hS276031 := ((hS276030).f3).f3
                      have hS276032 := (hS276031).f3
                      exact ⟨s275926, (PHeap.le_refl _), hS276032, p275874, p275875, p275876, rfl, p275878, p275881, p275882, (congrArg Value.bool (or_f hc276015)).symm⟩
                  · intro f276033 w276034 hM276035
                    obtain ⟨s276036, l276037, hS276038, p276039, p276040, p276041, p276042, p276043, p276044, p276045, p276046⟩ := hM276035
                    refine (at_normal ?_)
                    rcases ite_some hm275235 with ⟨hc276047, hm275235⟩ | ⟨hc276047, hm275235⟩
                    · refine W_cond_t p276046 hc276047 ?_
                      refine W_seq ?_
                      refine W_region ?_
                      refine WL_step rfl rfl (Exec.assign (v := Value.bool (false)) rfl rfl ?_)
                      refine WL_nil (at_normal ?_)
                      refine W_ret (ib_ret (at_ret (at_ret (ib_ret (at_ret (at_ret ?_))))))
                      have e276048 := Option.some.inj hm275235
                      subst c275231
                      have hq276049 := hr275222 _ (hres275236 (by intro _ h; cases h))
                      have e276050 := Option.some.inj hq276049
                      subst r
                      refine ⟨_, ret1 rfl, ?_⟩
                      have hS276051 := ((hS276038).f3).drop
                      have hS276052 := ((hS276051).f2).f2
                      have hS276053 := (hS276052).f2
                      exact ⟨s276036, (PHeap.le.trans (PHeap.le.trans (PHeap.le.trans (PHeap.le.trans (PHeap.le.trans (PHeap.le.trans l272951 l275240) l275568) l275597) l275872) l275927) l276037), hS276053, rfl⟩
                    · refine W_cond_f p276046 hc276047 ?_
                      replace hc276047 := not_true hc276047
                      refine W_skip (ib_normal (at_normal ?_))
                      refine W_region ?_
                      refine WL_step rfl rfl (Exec.add rfl p276045 rfl ?_)
                      refine WL_step rfl rfl (Exec.move (v := Value.int .i64 (IntKind.i64.wrap ((i272962 : Int) + 1))) rfl rfl ?_)
                      refine WL_nil (at_normal ?_)
                      have e276054 := Option.some.inj hm275235
                      subst c275231
                      have hS276055 := (hS276038).f3
                      have hS276056 := ((hS276055).f3).f3
                      have hS276057 := (hS276056).f3
                      refine ⟨_, rfl, ?_⟩; exact ⟨s276036, v275906, (PHeap.le.trans (PHeap.le.trans (PHeap.le.trans (PHeap.le.trans (PHeap.le.trans l275240 l275568) l275597) l275872) l275927) l276037), hS276057, p276039, p276040, p276041, p276042, p276043, p276044, (Eq.trans rfl (wrap_up hi275238 (by have h := must_some q272961; simp at h; simp only [maxLen]; omega)))⟩
      · intro t276058 f276059 w276060 hI276061 hres276062
        obtain ⟨first273708, all273710⟩ := t276058
        obtain ⟨s276063, v273709, l276064, hS276065, p276066, p276067, p276068, p276069, p276070, p276071, x276072⟩ := hI276061
        refine W_seq ?_
        refine W_region ?_
        refine WL_step rfl rfl (Exec.lss rfl x276072 p276071 ?_)
        refine WL_nil (at_normal ?_)
        refine W_seq ?_
        refine W_false (congrArg Value.bool (decide_eq_false (by omega))) ?_
        refine W_exit (at_exit (at_exit (ib_here (at_normal ?_))))
        have hS276073 := (hS276065).f3
        have hS276074 := ((hS276073).f3).f3
        have hS276075 := (hS276074).f3
        refine ⟨_, .inl hres276062, ?_⟩; exact ⟨s276063, v273709, l276064, hS276075, p276066, p276067, p276068, p276069, p276070, p276071⟩
    · rintro f276076 w276077 ⟨t276078, hc276079, hM276080⟩
      have hm := hc276079.elim (hn275223 _) (hb275224 _)
      clear hc276079
      obtain ⟨first275217, all275218⟩ := t276078
      replace hm := un2_eq hm
      obtain ⟨s276081, v275219, l276082, hS276083, p276084, p276085, p276086, p276087, p276088, p276089⟩ := hM276080
      refine (at_normal ?_)
      refine W_seq ?_
      refine W_region ?_
      refine WL_step rfl rfl (Exec.move (v := Value.pointer (some ⟨b147265, 0, none⟩)) rfl p276084 ?_)
      obtain ⟨t276102, q276103, hm⟩ := bind_some hm
      obtain ⟨y276104, y276105⟩ := t276102
      replace hm := un2_eq hm
      have hS276106 := ((hS276083).f2).f2
      have hS276107 := (hS276106).f2
      refine WL_step rfl rfl (Exec.call rfl rfl Try.func22 rfl N22 (args_cons rfl args_nil) ((stn_Network_Times_sim q276103 hS276107 ).mono ?_))
      rintro _ w276108 ⟨_, rfl, ⟨s276109, v276112, l276110, hS276111, rfl, r276113⟩⟩
      refine ⟨_, rfl, ?_⟩
      refine WL_step rfl rfl (Exec.move (v := Value.tuple #[v276112, errV 30 (y276105)]) rfl rfl ?_)
      refine WL_step rfl rfl (Exec.extract (v := v276112) rfl rfl rfl ?_)
      refine WL_step rfl rfl (Exec.extract (v := errV 30 (y276105)) rfl rfl rfl ?_)
      refine WL_step rfl rfl (Exec.assign (v := v276112) rfl rfl ?_)
      refine WL_step rfl rfl (Exec.assign (v := errV 30 (y276105)) rfl rfl ?_)
      refine WL_nil (at_normal ?_)
      refine W_seq ?_
      refine W_seq ?_
      refine W_region ?_
      refine WL_step rfl rfl (Exec.move (v := Value.bool (all275218)) rfl p276088 ?_)
      refine WL_step rfl rfl (Exec.not rfl rfl ?_)
      refine WL_nil (at_normal ?_)
      rcases ite_some hm with ⟨hc276114, hm⟩ | ⟨hc276114, hm⟩
      · refine W_cond_t rfl hc276114 ?_
        refine W_seq ?_
        refine W_mid (M := fun f' w' => ∃ (s276120 : PHeap) , PHeap.le s276109 s276120 ∧ St w0 s276120 (Res.box b147265 63 [v147266] :: Res.arr encRaw 49 v147266 hs147267 :: Res.rows (encInt .i64) 3 hs147267 x147264.d :: H) w' ∧ f' 6 = Value.bool (((decide ((y276104.length : Int) = 0)) && (base_Is_t y276105 3)))) ?_ ?_
        · refine W_region ?_
          refine WL_step rfl rfl (Exec.move (v := v276112) rfl rfl ?_)
          refine WL_step rfl rfl (Exec.len_rep S49 rfl rfl r276113 ?_)
          refine WL_step rfl rfl (Exec.eql rfl rfl rfl ?_)
          refine WL_step rfl rfl (Exec.move (v := Value.bool (decide ((y276104.length : Int) = 0))) rfl rfl ?_)
          by_cases hc276121 : (decide ((y276104.length : Int) = 0)) = true
          · refine WL_run rfl (yield_of rfl (congrArg Value.bool hc276121)) rfl (Exec.move (v := errV 30 (y276105)) rfl rfl ?_)
            refine WL_run rfl (yield_of rfl (congrArg Value.bool hc276121)) rfl (Exec.call rfl rfl Try.func11 rfl N11 (args_cons rfl (args_cons rfl args_nil)) ((base_Is_sim (base_Is_tot y276105 3) hS276111 ).mono ?_))
            rintro _ w276122 ⟨_, rfl, ⟨s276123, l276124, hS276125, rfl⟩⟩
            refine ⟨_, rfl, ?_⟩
            refine WL_step rfl rfl (Exec.pick_t (v := Value.bool ((base_Is_t y276105 3))) rfl (congrArg Value.bool hc276121) rfl ?_)
            refine WL_step rfl rfl (Exec.assign (v := Value.bool ((base_Is_t y276105 3))) rfl rfl ?_)
            refine WL_nil (at_normal ?_)
            have hS276126 := ((hS276125).f3).drop
            have hS276127 := ((hS276126).f2).f2
            have hS276128 := (hS276127).f2
            exact ⟨s276123, l276124, hS276128, (congrArg Value.bool (and_t hc276121)).symm⟩
          · replace hc276121 := not_true hc276121
            refine WL_pass rfl (yield_of rfl (congrArg Value.bool hc276121)) rfl rfl ?_
            refine WL_pass rfl (yield_of rfl (congrArg Value.bool hc276121)) rfl rfl ?_
            refine WL_step rfl rfl (Exec.pick_f (v := Value.bool (false)) rfl (congrArg Value.bool hc276121) rfl ?_)
            refine WL_step rfl rfl (Exec.assign (v := Value.bool (false)) rfl rfl ?_)
            refine WL_nil (at_normal ?_)
            have hS276129 := ((hS276111).f3).drop
            have hS276130 := ((hS276129).f2).f2
            have hS276131 := (hS276130).f2
            exact ⟨s276109, (PHeap.le_refl _), hS276131, (congrArg Value.bool (and_f hc276121)).symm⟩
        · intro f276132 w276133 hM276134
          obtain ⟨s276135, l276136, hS276137, p276138⟩ := hM276134
          refine (at_normal ?_)
          refine W_ret (at_ret ?_)
          have e276140 := Option.some.inj hm
          subst r
          refine ⟨_, ret1 rfl, ?_⟩
          have hS276141 := ((hS276137).f2).f2
          have hS276142 := (hS276141).f2
          exact ⟨s276135, (PHeap.le.trans (PHeap.le.trans (PHeap.le.trans l272951 l276082) l276110) l276136), hS276142, p276138⟩
      · refine W_cond_f rfl hc276114 ?_
        replace hc276114 := not_true hc276114
        refine W_skip (at_normal ?_)
        refine W_seq ?_
        obtain ⟨z276152, ht276153, hm⟩ := bind_some hm
        refine W_mid (M := fun f' w' => (fun (z276152 : Bool) => ∃ (s276154 : PHeap) , PHeap.le s276109 s276154 ∧ St w0 s276154 (Res.box b147265 63 [v147266] :: Res.arr encRaw 49 v147266 hs147267 :: Res.rows (encInt .i64) 3 hs147267 x147264.d :: H) w' ∧ f' 6 = Value.bool (z276152)) z276152) ?_ ?_
        · refine W_region ?_
          refine WL_step rfl rfl (Exec.move (v := errV 30 (y276105)) rfl rfl ?_)
          refine WL_step rfl rfl (Exec.err_eql_nil (T := 30) Try.underlying26 rfl rfl rfl ?_)
          refine WL_step rfl rfl (Exec.move (v := Value.bool (y276105.isNone)) rfl rfl ?_)
          rcases ite_some ht276153 with ⟨hc276155, ht276153⟩ | ⟨hc276155, ht276153⟩
          · refine WL_run rfl (yield_of rfl (congrArg Value.bool hc276155)) rfl (Exec.move (v := v276112) rfl rfl ?_)
            refine WL_run rfl (yield_of rfl (congrArg Value.bool hc276155)) rfl (Exec.move (v := v275219) rfl p276087 ?_)
            obtain ⟨y276158, q276157, ht276153⟩ := bind_some ht276153
            have hS276159 := (hS276111).f3
            refine WL_run rfl (yield_of rfl (congrArg Value.bool hc276155)) rfl (Exec.call rfl rfl Try.func23 rfl N23 (args_cons rfl (args_cons rfl args_nil)) ((base_Ints_o_sim q276157 hS276159 r276113).mono ?_))
            rintro _ w276160 ⟨_, rfl, ⟨s276161, l276162, hS276163, rfl⟩⟩
            refine ⟨_, rfl, ?_⟩
            refine WL_step rfl rfl (Exec.pick_t (v := Value.bool (y276158)) rfl (congrArg Value.bool hc276155) rfl ?_)
            refine WL_step rfl rfl (Exec.assign (v := Value.bool (y276158)) rfl rfl ?_)
            refine WL_nil (at_normal ?_)
            have e276164 := Option.some.inj ht276153
            subst z276152
            have hS276165 := (hS276163).drop
            have hS276166 := ((hS276165).f2).f2
            have hS276167 := (hS276166).f2
            exact ⟨s276161, l276162, hS276167, rfl⟩
          · replace hc276155 := not_true hc276155
            refine WL_pass rfl (yield_of rfl (congrArg Value.bool hc276155)) rfl rfl ?_
            refine WL_pass rfl (yield_of rfl (congrArg Value.bool hc276155)) rfl rfl ?_
            refine WL_pass rfl (yield_of rfl (congrArg Value.bool hc276155)) rfl rfl ?_
            refine WL_step rfl rfl (Exec.pick_f (v := Value.bool (false)) rfl (congrArg Value.bool hc276155) rfl ?_)
            refine WL_step rfl rfl (Exec.assign (v := Value.bool (false)) rfl rfl ?_)
            refine WL_nil (at_normal ?_)
            have e276168 := Option.some.inj ht276153
            subst z276152
            have hS276169 := ((hS276111).f3).drop
            have hS276170 := ((hS276169).f2).f2
            have hS276171 := (hS276170).f2
            exact ⟨s276109, (PHeap.le_refl _), hS276171, rfl⟩
        · intro f276172 w276173 hM276174
          obtain ⟨s276175, l276176, hS276177, p276178⟩ := hM276174
          refine (at_normal ?_)
          refine W_ret ?_
          have e276180 := Option.some.inj hm
          subst r
          refine ⟨_, ret1 rfl, ?_⟩
          have hS276181 := ((hS276177).f2).f2
          have hS276182 := (hS276181).f2
          exact ⟨s276175, (PHeap.le.trans (PHeap.le.trans (PHeap.le.trans l272951 l276082) l276110) l276176), hS276182, p276178⟩

theorem stn_Network_Earliest_nil_sim {w0 w : World} {s : PHeap} {H : List Res} {p276593 : Int}  {r : Int × (Option Int)} (hm : stn_Network_Earliest_nil_p p276593 = some r) (hS : St w0 s (H) w)  :
    Calls Try.prog 16 #[Value.pointer none, Value.int .i64 (p276593)] w fun e w' => ∃ v, e = .returned v ∧ ((un2 fun (y276605 : Int) (y276606 : (Option Int)) => ∃ (s276607 : PHeap) , PHeap.le s s276607 ∧ St w0 s276607 (H) w' ∧ v = Value.tuple #[Value.int .i64 (y276605), errV 30 (y276606)]) r) := by
  unfold stn_Network_Earliest_nil_p at hm
  refine calls_of_W Try.func16 rfl rfl ?_
  refine W_seq ?_
  refine W_region ?_
  refine WL_step rfl rfl (Exec.assign (v := Value.int .i64 (0)) rfl rfl ?_)
  refine WL_step rfl rfl (Exec.assign (v := errV 30 (none)) rfl rfl ?_)
  refine WL_nil (at_normal ?_)
  refine W_seq ?_
  refine W_region ?_
  refine WL_step rfl rfl (Exec.move (v := Value.pointer none) rfl rfl ?_)
  refine WL_step rfl rfl (Exec.move (v := Value.int .i64 (p276593)) rfl rfl ?_)
  refine WL_step rfl rfl (Exec.call rfl rfl Try.func15 rfl N15 (args_cons rfl (args_cons rfl (args_cons rfl args_nil))) ((stn_Network_Distance_nil_sim (stn_Network_Distance_nil_tot p276593 0) hS ).mono ?_))
  rintro _ w276612 ⟨_, rfl, ⟨s276613, l276614, hS276615, rfl⟩⟩
  refine ⟨_, rfl, ?_⟩
  refine WL_step rfl rfl (Exec.move (v := Value.tuple #[Value.int .i64 ((stn_Network_Distance_nil_t p276593 0).1), errV 30 ((stn_Network_Distance_nil_t p276593 0).2)]) rfl rfl ?_)
  refine WL_step rfl rfl (Exec.extract (v := Value.int .i64 ((stn_Network_Distance_nil_t p276593 0).1)) rfl rfl rfl ?_)
  refine WL_step rfl rfl (Exec.extract (v := errV 30 ((stn_Network_Distance_nil_t p276593 0).2)) rfl rfl rfl ?_)
  refine WL_step rfl rfl (Exec.assign (v := Value.int .i64 ((stn_Network_Distance_nil_t p276593 0).1)) rfl rfl ?_)
  refine WL_step rfl rfl (Exec.assign (v := errV 30 ((stn_Network_Distance_nil_t p276593 0).2)) rfl rfl ?_)
  refine WL_nil (at_normal ?_)
  refine W_seq ?_
  refine W_seq ?_
  refine W_region ?_
  refine WL_step rfl rfl (Exec.move (v := errV 30 ((stn_Network_Distance_nil_t p276593 0).2)) rfl rfl ?_)
  refine WL_step rfl rfl (Exec.err_neq_nil (T := 30) Try.underlying26 rfl rfl rfl ?_)
  refine WL_nil (at_normal ?_)
  rcases ite_some hm with ⟨hc276616, hm⟩ | ⟨hc276616, hm⟩
  · refine W_cond_t rfl hc276616 ?_
    refine W_seq ?_
    refine W_region ?_
    refine WL_step rfl rfl (Exec.move (v := errV 30 ((stn_Network_Distance_nil_t p276593 0).2)) rfl rfl ?_)
    refine WL_step rfl rfl (Exec.assign (v := Value.int .i64 (0)) rfl rfl ?_)
    refine WL_step rfl rfl (Exec.assign (v := errV 30 ((stn_Network_Distance_nil_t p276593 0).2)) rfl rfl ?_)
    refine WL_nil (at_normal ?_)
    refine W_ret (at_ret ?_)
    have e276618 := Option.some.inj hm
    subst r
    refine ⟨_, ret2 rfl, ?_⟩
    exact ⟨s276613, l276614, hS276615, (tup2 rfl rfl)⟩
  · refine W_cond_f rfl hc276616 ?_
    replace hc276616 := not_true hc276616
    refine W_skip (at_normal ?_)
    refine W_seq ?_
    refine W_seq ?_
    refine W_region ?_
    refine WL_step rfl rfl (Exec.move (v := Value.int .i64 ((stn_Network_Distance_nil_t p276593 0).1)) rfl rfl ?_)
    refine WL_step rfl rfl (Exec.geq rfl rfl rfl ?_)
    refine WL_nil (at_normal ?_)
    rcases ite_some hm with ⟨hc276619, hm⟩ | ⟨hc276619, hm⟩
    · refine W_cond_t rfl hc276619 ?_
      refine W_seq ?_
      refine W_region ?_
      refine WL_step rfl rfl (Exec.makeInterface C30 rfl rfl ?_)
      refine WL_step rfl rfl (Exec.assign (v := Value.int .i64 (0)) rfl rfl ?_)
      refine WL_step rfl rfl (Exec.assign (v := errV 30 (some 3)) rfl rfl ?_)
      refine WL_nil (at_normal ?_)
      refine W_ret (at_ret ?_)
      have e276621 := Option.some.inj hm
      subst r
      refine ⟨_, ret2 rfl, ?_⟩
      exact ⟨s276613, l276614, hS276615, (tup2 rfl rfl)⟩
    · refine W_cond_f rfl hc276619 ?_
      replace hc276619 := not_true hc276619
      refine W_skip (at_normal ?_)
      refine W_seq ?_
      refine W_region ?_
      refine WL_step rfl rfl (Exec.move (v := Value.int .i64 ((stn_Network_Distance_nil_t p276593 0).1)) rfl rfl ?_)
      refine WL_step rfl rfl (Exec.neg rfl rfl ?_)
      refine WL_step rfl rfl (Exec.assign (v := Value.int .i64 (IntKind.i64.wrap (0 - ((stn_Network_Distance_nil_t p276593 0).1)))) rfl rfl ?_)
      refine WL_step rfl rfl (Exec.assign (v := errV 30 (none)) rfl rfl ?_)
      refine WL_nil (at_normal ?_)
      refine W_ret ?_
      have e276623 := Option.some.inj hm
      subst r
      refine ⟨_, ret2 rfl, ?_⟩
      exact ⟨s276613, l276614, hS276615, (tup2 rfl rfl)⟩

theorem law54_is_nil_sim {w0 w : World} {s : PHeap} {H : List Res} {n276641 : Int} {bounds276642 : (List Bound)} {v276643 : Value} {r : Bool} (hm : law54_is_nil_p n276641 bounds276642 = some r) (hS : St w0 s (H) w) (a276644 : SliceRep encBound s v276643 bounds276642) :
    Calls Try.prog 18 #[Value.pointer none, Value.int .i64 (n276641), v276643] w fun e w' => ∃ v, e = .returned v ∧ ((fun (y279272 : Bool) => ∃ (s279273 : PHeap) , PHeap.le s s279273 ∧ St w0 s279273 (H) w' ∧ v = Value.bool (y279272)) r) := by
  unfold law54_is_nil_p at hm
  refine calls_of_W Try.func18 rfl rfl ?_
  refine W_seq ?_
  refine W_region ?_
  refine WL_step rfl rfl (Exec.assign (v := Value.bool (false)) rfl rfl ?_)
  refine WL_nil (at_normal ?_)
  refine W_seq ?_
  refine W_region ?_
  refine WL_step rfl rfl (Exec.move (v := Value.int .i64 (n276641)) rfl rfl ?_)
  refine WL_step rfl rfl (Exec.move (v := v276643) rfl rfl ?_)
  obtain ⟨t279284, q279285, hm⟩ := bind_some hm
  obtain ⟨y279286, y279287⟩ := t279284
  replace hm := un2_eq hm
  refine WL_step rfl rfl (Exec.call rfl rfl Try.func25 rfl N25 (args_cons rfl (args_cons rfl args_nil)) ((ref54_Distances_sim q279285 hS a276644).mono ?_))
  rintro _ w279288 ⟨_, rfl, ⟨s279289, v279292, l279290, hS279291, rfl, r279293⟩⟩
  refine ⟨_, rfl, ?_⟩
  refine WL_step rfl rfl (Exec.move (v := Value.tuple #[v279292, Value.bool (y279287)]) rfl rfl ?_)
  refine WL_step rfl rfl (Exec.extract (v := v279292) rfl rfl rfl ?_)
  refine WL_step rfl rfl (Exec.extract (v := Value.bool (y279287)) rfl rfl rfl ?_)
  refine WL_step rfl rfl (Exec.assign (v := v279292) rfl rfl ?_)
  refine WL_step rfl rfl (Exec.assign (v := Value.bool (y279287)) rfl rfl ?_)
  refine WL_nil (at_normal ?_)
  refine W_seq ?_
  refine W_seq ?_
  refine W_region ?_
  refine WL_step rfl rfl (Exec.move (v := Value.bool (y279287)) rfl rfl ?_)
  refine WL_step rfl rfl (Exec.not rfl rfl ?_)
  refine WL_nil (at_normal ?_)
  rcases ite_some hm with ⟨hc279294, hm⟩ | ⟨hc279294, hm⟩
  · refine W_cond_t rfl hc279294 ?_
    refine W_seq ?_
    refine W_region ?_
    refine WL_step rfl rfl (Exec.assign (v := Value.bool (false)) rfl rfl ?_)
    refine WL_nil (at_normal ?_)
    refine W_ret (at_ret ?_)
    have e279296 := Option.some.inj hm
    subst r
    refine ⟨_, ret1 rfl, ?_⟩
    exact ⟨s279289, l279290, hS279291, rfl⟩
  · refine W_cond_f rfl hc279294 ?_
    replace hc279294 := not_true hc279294
    refine W_skip (at_normal ?_)
    refine W_seq ?_
    refine W_region ?_
    refine WL_step rfl rfl (Exec.assign (v := Value.slice none 0 0) rfl rfl ?_)
    refine WL_nil (at_normal ?_)
    refine W_seq ?_
    refine W_region ?_
    refine WL_step rfl rfl (Exec.assign (v := Value.bool (true)) rfl rfl ?_)
    refine WL_nil (at_normal ?_)
    refine W_seq ?_
    refine W_seq ?_
    refine W_region ?_
    refine WL_step rfl rfl (Exec.move (v := Value.int .i64 (n276641)) rfl rfl ?_)
    refine WL_step rfl rfl (Exec.move (v := Value.int .i64 (0)) rfl rfl ?_)
    refine WL_nil (at_normal ?_)
    obtain ⟨u279297, q279298, hm⟩ := bind_some hm
    obtain ⟨c281165, hB281166, hr281167, hn281168, hb281169⟩ := ctl_some hm
    refine W_mid (M := fun f' w' => ∃ s', (c281165 = .next s' ∨ c281165 = .brk s') ∧ (un2 fun (first281162 : (List Int)) (all281163 : Bool) => ∃ (s281171 : PHeap) (v281164 : Value), PHeap.le s279289 s281171 ∧ St w0 s281171 (Res.arr (encInt .i64) 3 v281164 first281162 :: H) w' ∧ f' 0 = Value.pointer none ∧ f' 1 = Value.int .i64 (n276641) ∧ f' 7 = v279292 ∧ f' 9 = v281164 ∧ f' 10 = Value.bool (all281163) ∧ f' 28 = Value.int .i64 (n276641)) s') ?_ ?_
    · refine W_block (W_forC (fun k' s' f' w' => (un2 fun (first279923 : (List Int)) (all279925 : Bool) => ∃ (s281170 : PHeap) (v279924 : Value), PHeap.le s279289 s281170 ∧ St w0 s281170 (Res.arr (encInt .i64) 3 v279924 first279923 :: H) w' ∧ f' 0 = Value.pointer none ∧ f' 1 = Value.int .i64 (n276641) ∧ f' 7 = v279292 ∧ f' 9 = v279924 ∧ f' 10 = Value.bool (all279925) ∧ f' 28 = Value.int .i64 (n276641) ∧ f' 29 = Value.int .i64 (k' : Int)) s') hB281166 ?_ ?_ ?_)
      · have hS281172 := hS279291.nilArr (encInt .i64) 3
        exact ⟨s279289, (Value.slice none 0 0), (PHeap.le_refl _), hS281172, rfl, rfl, rfl, rfl, rfl, rfl, rfl⟩
      · intro i279299 t281180 c281174 f281175 w281176 hi281181 hI281177 hm281178 hres281179
        obtain ⟨first279923, all279925⟩ := t281180
        replace hm281178 := un2_eq hm281178
        obtain ⟨s281182, v279924, l281183, hS281184, p281185, p281186, p281187, p281188, p281189, p281190, x281191⟩ := hI281177
        refine W_seq ?_
        refine W_region ?_
        refine WL_step rfl rfl (Exec.lss rfl x281191 p281190 ?_)
        refine WL_nil (at_normal ?_)
        refine W_seq ?_
        refine W_true (congrArg Value.bool (decide_eq_true (by omega))) ?_
        refine W_skip (at_normal ?_)
        refine W_seq ?_
        refine W_block ?_
        refine W_seq ?_
        refine W_region ?_
        refine WL_step rfl rfl (Exec.move (v := Value.int .i64 ((i279299 : Int))) rfl x281191 ?_)
        refine WL_step rfl rfl (Exec.assign (v := Value.int .i64 ((i279299 : Int))) rfl rfl ?_)
        refine WL_nil (at_normal ?_)
        refine W_seq ?_
        refine W_seq ?_
        refine W_region ?_
        refine WL_step rfl rfl (Exec.move (v := Value.int .i64 (n276641)) rfl p281186 ?_)
        refine WL_step rfl rfl (Exec.move (v := Value.int .i64 (0)) rfl rfl ?_)
        refine WL_nil (at_normal ?_)
        obtain ⟨u281192, q281193, hm281178⟩ := bind_some hm281178
        obtain ⟨c281323, hB281324, hr281325, hn281326, hb281327⟩ := ctl_some hm281178
        refine W_mid (M := fun f' w' => ∃ s', (c281323 = .next s' ∨ c281323 = .brk s') ∧ (fun (_ : Unit) => ∃ (s281329 : PHeap) , PHeap.le s281182 s281329 ∧ St w0 s281329 (Res.arr (encInt .i64) 3 v279924 first279923 :: H) w' ∧ f' 0 = Value.pointer none ∧ f' 1 = Value.int .i64 (n276641) ∧ f' 7 = v279292 ∧ f' 9 = v279924 ∧ f' 10 = Value.bool (all279925) ∧ f' 11 = Value.int .i64 ((i279299 : Int)) ∧ f' 28 = Value.int .i64 (n276641) ∧ f' 29 = Value.int .i64 ((i279299 : Int)) ∧ f' 32 = Value.int .i64 (n276641)) s') ?_ ?_
        · refine W_block (W_forC (fun k' s' f' w' => (fun (_ : Unit) => ∃ (s281328 : PHeap) , PHeap.le s281182 s281328 ∧ St w0 s281328 (Res.arr (encInt .i64) 3 v279924 first279923 :: H) w' ∧ f' 0 = Value.pointer none ∧ f' 1 = Value.int .i64 (n276641) ∧ f' 7 = v279292 ∧ f' 9 = v279924 ∧ f' 10 = Value.bool (all279925) ∧ f' 11 = Value.int .i64 ((i279299 : Int)) ∧ f' 28 = Value.int .i64 (n276641) ∧ f' 29 = Value.int .i64 ((i279299 : Int)) ∧ f' 32 = Value.int .i64 (n276641) ∧ f' 33 = Value.int .i64 (k' : Int)) s') hB281324 ?_ ?_ ?_)
          · exact ⟨s281182, (PHeap.le_refl _), hS281184, p281185, p281186, p281187, p281188, p281189, rfl, p281190, x281191, rfl, rfl⟩
          · intro i281194 t281337 c281331 f281332 w281333 hi281338 hI281334 hm281335 hres281336
            obtain ⟨s281339, l281340, hS281341, p281342, p281343, p281344, p281345, p281346, p281347, p281348, p281349, p281350, x281351⟩ := hI281334
            refine W_seq ?_
            refine W_region ?_
            refine WL_step rfl rfl (Exec.lss rfl x281351 p281350 ?_)
            refine WL_nil (at_normal ?_)
            refine W_seq ?_
            refine W_true (congrArg Value.bool (decide_eq_true (by omega))) ?_
            refine W_skip (at_normal ?_)
            refine W_seq ?_
            refine W_block ?_
            refine W_seq ?_
            refine W_region ?_
            refine WL_step rfl rfl (Exec.move (v := Value.int .i64 ((i281194 : Int))) rfl x281351 ?_)
            refine WL_step rfl rfl (Exec.assign (v := Value.int .i64 ((i281194 : Int))) rfl rfl ?_)
            refine WL_nil (at_normal ?_)
            refine W_seq ?_
            refine W_region ?_
            refine WL_step rfl rfl (Exec.move (v := Value.pointer none) rfl p281342 ?_)
            refine WL_step rfl rfl (Exec.move (v := Value.int .i64 ((i279299 : Int))) rfl p281347 ?_)
            refine WL_step rfl rfl (Exec.move (v := Value.int .i64 ((i281194 : Int))) rfl rfl ?_)
            refine WL_step rfl rfl (Exec.call rfl rfl Try.func15 rfl N15 (args_cons rfl (args_cons rfl (args_cons rfl args_nil))) ((stn_Network_Distance_nil_sim (stn_Network_Distance_nil_tot (i279299 : Int) (i281194 : Int)) hS281341 ).mono ?_))
            rintro _ w281356 ⟨_, rfl, ⟨s281357, l281358, hS281359, rfl⟩⟩
            refine ⟨_, rfl, ?_⟩
            refine WL_step rfl rfl (Exec.move (v := Value.tuple #[Value.int .i64 ((stn_Network_Distance_nil_t (i279299 : Int) (i281194 : Int)).1), errV 30 ((stn_Network_Distance_nil_t (i279299 : Int) (i281194 : Int)).2)]) rfl rfl ?_)
            refine WL_step rfl rfl (Exec.extract (v := Value.int .i64 ((stn_Network_Distance_nil_t (i279299 : Int) (i281194 : Int)).1)) rfl rfl rfl ?_)
            refine WL_step rfl rfl (Exec.extract (v := errV 30 ((stn_Network_Distance_nil_t (i279299 : Int) (i281194 : Int)).2)) rfl rfl rfl ?_)
            refine WL_step rfl rfl (Exec.assign (v := Value.int .i64 ((stn_Network_Distance_nil_t (i279299 : Int) (i281194 : Int)).1)) rfl rfl ?_)
            refine WL_step rfl rfl (Exec.assign (v := errV 30 ((stn_Network_Distance_nil_t (i279299 : Int) (i281194 : Int)).2)) rfl rfl ?_)
            refine WL_nil (at_normal ?_)
            refine W_seq ?_
            obtain ⟨z281376, ht281377, hm281335⟩ := bind_some hm281335
            refine W_mid (M := fun f' w' => (fun (z281376 : Bool) => ∃ (s281378 : PHeap) , PHeap.le s281357 s281378 ∧ St w0 s281378 (Res.arr (encInt .i64) 3 v279924 first279923 :: H) w' ∧ f' 0 = Value.pointer none ∧ f' 1 = Value.int .i64 (n276641) ∧ f' 7 = v279292 ∧ f' 9 = v279924 ∧ f' 10 = Value.bool (all279925) ∧ f' 11 = Value.int .i64 ((i279299 : Int)) ∧ f' 28 = Value.int .i64 (n276641) ∧ f' 29 = Value.int .i64 ((i279299 : Int)) ∧ f' 32 = Value.int .i64 (n276641) ∧ f' 33 = Value.int .i64 ((i281194 : Int)) ∧ f' 55 = Value.bool (z281376)) z281376) ?_ ?_
            · refine W_region ?_
              refine WL_step rfl rfl (Exec.move (v := errV 30 ((stn_Network_Distance_nil_t (i279299 : Int) (i281194 : Int)).2)) rfl rfl ?_)
              refine WL_step rfl rfl (Exec.err_neq_nil (T := 30) Try.underlying26 rfl rfl rfl ?_)
              refine WL_step rfl rfl (Exec.move (v := Value.bool (((stn_Network_Distance_nil_t (i279299 : Int) (i281194 : Int)).2).isSome)) rfl rfl ?_)
              rcases ite_some ht281377 with ⟨hc281379, ht281377⟩ | ⟨hc281379, ht281377⟩
              · refine WL_pass rfl (yield_of rfl (congrArg Value.bool hc281379)) rfl rfl ?_
                refine WL_pass rfl (yield_of rfl (congrArg Value.bool hc281379)) rfl rfl ?_
                refine WL_pass rfl (yield_of rfl (congrArg Value.bool hc281379)) rfl rfl ?_
                refine WL_pass rfl (yield_of rfl (congrArg Value.bool hc281379)) rfl rfl ?_
                refine WL_pass rfl (yield_of rfl (congrArg Value.bool hc281379)) rfl rfl ?_
                refine WL_pass rfl (yield_of rfl (congrArg Value.bool hc281379)) rfl rfl ?_
                refine WL_pass rfl (yield_of rfl (congrArg Value.bool hc281379)) rfl rfl ?_
                refine WL_pass rfl (yield_of rfl (congrArg Value.bool hc281379)) rfl rfl ?_
                refine WL_pass rfl (yield_of rfl (congrArg Value.bool hc281379)) rfl rfl ?_
                refine WL_step rfl rfl (Exec.pick_t (v := Value.bool (true)) rfl (congrArg Value.bool hc281379) rfl ?_)
                refine WL_nil (at_normal ?_)
                have e281380 := Option.some.inj ht281377
                subst z281376
                exact ⟨s281357, (PHeap.le_refl _), hS281359, p281342, p281343, p281344, p281345, p281346, p281347, p281348, p281349, p281350, x281351, rfl⟩
              · replace hc281379 := not_true hc281379
                refine WL_run rfl (yield_of rfl (congrArg Value.bool hc281379)) rfl (Exec.move (v := Value.int .i64 ((stn_Network_Distance_nil_t (i279299 : Int) (i281194 : Int)).1)) rfl rfl ?_)
                refine WL_run rfl (yield_of rfl (congrArg Value.bool hc281379)) rfl (Exec.move (v := v279292) rfl p281344 ?_)
                refine WL_run rfl (yield_of rfl (congrArg Value.bool hc281379)) rfl (Exec.move (v := Value.int .i64 ((i279299 : Int))) rfl p281347 ?_)
                obtain ⟨x281381, q281382, ht281377⟩ := bind_some ht281377
                refine WL_run rfl (yield_of rfl (congrArg Value.bool hc281379)) rfl (Exec.index_rep S61 rfl rfl rfl (r279293.mono (PHeap.le.trans (PHeap.le.trans l281183 l281340) l281358)) q281382 ?_)
                intro b281383 o281384 a281385
                refine WL_run rfl (yield_of rfl (congrArg Value.bool hc281379)) rfl (Exec.load_at (E := (encSlice (encInt .i64))) hS281359 A49 rfl rfl rfl a281385 ?_)
                intro v281386 q281387
                have r281388 := encSlice_val.1 q281387
                refine WL_run rfl (yield_of rfl (congrArg Value.bool hc281379)) rfl (Exec.move (v := Value.int .i64 ((i281194 : Int))) rfl rfl ?_)
                obtain ⟨x281389, q281390, ht281377⟩ := bind_some ht281377
                refine WL_run rfl (yield_of rfl (congrArg Value.bool hc281379)) rfl (Exec.index_rep S49 rfl rfl rfl r281388 q281390 ?_)
                intro b281391 o281392 a281393
                refine WL_run rfl (yield_of rfl (congrArg Value.bool hc281379)) rfl (Exec.load_at (E := (encInt .i64)) hS281359 A3 rfl rfl rfl a281393 ?_)
                intro v281394 q281395
                obtain rfl := encInt_val.1 q281395
                refine WL_run rfl (yield_of rfl (congrArg Value.bool hc281379)) rfl (Exec.neq rfl rfl rfl ?_)
                refine WL_step rfl rfl (Exec.pick_f (v := Value.bool (!decide (((stn_Network_Distance_nil_t (i279299 : Int) (i281194 : Int)).1) = x281389))) rfl (congrArg Value.bool hc281379) rfl ?_)
                refine WL_nil (at_normal ?_)
                have e281396 := Option.some.inj ht281377
                subst z281376
                exact ⟨s281357, (PHeap.le_refl _), hS281359, p281342, p281343, p281344, p281345, p281346, p281347, p281348, p281349, p281350, x281351, rfl⟩
            · intro f281397 w281398 hM281399
              obtain ⟨s281400, l281401, hS281402, p281403, p281404, p281405, p281406, p281407, p281408, p281409, p281410, p281411, p281412, p281413⟩ := hM281399
              refine (at_normal ?_)
              rcases ite_some hm281335 with ⟨hc281414, hm281335⟩ | ⟨hc281414, hm281335⟩
              · refine W_cond_t p281413 hc281414 ?_
                refine W_seq ?_
                refine W_region ?_
                refine WL_step rfl rfl (Exec.assign (v := Value.bool (false)) rfl rfl ?_)
                refine WL_nil (at_normal ?_)
                refine W_ret (ib_ret (at_ret (at_ret (ib_ret (at_ret (at_ret (ib_ret (at_ret (at_ret (ib_ret (at_ret (at_ret ?_))))))))))))
                have e281415 := Option.some.inj hm281335
                subst c281331
                have hq281416 := hr281325 _ (hres281336 (by intro _ h; cases h))
                have e281417 := Option.some.inj hq281416
                subst c281174
                have hq281418 := hr281167 _ (hres281179 (by intro _ h; cases h))
                have e281419 := Option.some.inj hq281418
                subst r
                refine ⟨_, ret1 rfl, ?_⟩
                have hS281420 := (hS281402).drop
                exact ⟨s281400, (PHeap.le.trans (PHeap.le.trans (PHeap.le.trans (PHeap.le.trans l279290 l281183) l281340) l281358) l281401), hS281420, rfl⟩
              · refine W_cond_f p281413 hc281414 ?_
                replace hc281414 := not_true hc281414
                refine W_skip (ib_normal (at_normal ?_))
                refine W_region ?_
                refine WL_step rfl rfl (Exec.add rfl p281412 rfl ?_)
                refine WL_step rfl rfl (Exec.move (v := Value.int .i64 (IntKind.i64.wrap ((i281194 : Int) + 1))) rfl rfl ?_)
                refine WL_nil (at_normal ?_)
                have e281421 := Option.some.inj hm281335
                subst c281331
                refine ⟨_, rfl, ?_⟩; exact ⟨s281400, (PHeap.le.trans (PHeap.le.trans l281340 l281358) l281401), hS281402, p281403, p281404, p281405, p281406, p281407, p281408, p281409, p281410, p281411, (Eq.trans rfl (wrap_up hi281338 (by have h := must_some q281193; simp at h; simp only [maxLen]; omega)))⟩
          · intro t281422 f281423 w281424 hI281425 hres281426
            obtain ⟨s281427, l281428, hS281429, p281430, p281431, p281432, p281433, p281434, p281435, p281436, p281437, p281438, x281439⟩ := hI281425
            refine W_seq ?_
            refine W_region ?_
            refine WL_step rfl rfl (Exec.lss rfl x281439 p281438 ?_)
            refine WL_nil (at_normal ?_)
            refine W_seq ?_
            refine W_false (congrArg Value.bool (decide_eq_false (by omega))) ?_
            refine W_exit (at_exit (at_exit (ib_here (at_normal ?_))))
            refine ⟨_, .inl hres281426, ?_⟩; exact ⟨s281427, l281428, hS281429, p281430, p281431, p281432, p281433, p281434, p281435, p281436, p281437, p281438⟩
        · rintro f281440 w281441 ⟨t281442, hc281443, hM281444⟩
          have hm281178 := hc281443.elim (hn281326 _) (hb281327 _)
          clear hc281443
          obtain ⟨s281445, l281446, hS281447, p281448, p281449, p281450, p281451, p281452, p281453, p281454, p281455, p281456⟩ := hM281444
          refine (at_normal ?_)
          refine W_seq ?_
          refine W_region ?_
          refine WL_step rfl rfl (Exec.move (v := Value.pointer none) rfl p281448 ?_)
          refine WL_step rfl rfl (Exec.move (v := Value.int .i64 ((i279299 : Int))) rfl p281453 ?_)
          refine WL_step rfl rfl (Exec.call rfl rfl Try.func16 rfl N16 (args_cons rfl (args_cons rfl args_nil)) ((stn_Network_Earliest_nil_sim (stn_Network_Earliest_nil_tot (i279299 : Int)) hS281447 ).mono ?_))
          rintro _ w281461 ⟨_, rfl, ⟨s281462, l281463, hS281464, rfl⟩⟩
          refine ⟨_, rfl, ?_⟩
          refine WL_step rfl rfl (Exec.move (v := Value.tuple #[Value.int .i64 ((stn_Network_Earliest_nil_t (i279299 : Int)).1), errV 30 ((stn_Network_Earliest_nil_t (i279299 : Int)).2)]) rfl rfl ?_)
          refine WL_step rfl rfl (Exec.extract (v := Value.int .i64 ((stn_Network_Earliest_nil_t (i279299 : Int)).1)) rfl rfl rfl ?_)
          refine WL_step rfl rfl (Exec.extract (v := errV 30 ((stn_Network_Earliest_nil_t (i279299 : Int)).2)) rfl rfl rfl ?_)
          refine WL_step rfl rfl (Exec.assign (v := Value.int .i64 ((stn_Network_Earliest_nil_t (i279299 : Int)).1)) rfl rfl ?_)
          refine WL_step rfl rfl (Exec.assign (v := errV 30 ((stn_Network_Earliest_nil_t (i279299 : Int)).2)) rfl rfl ?_)
          refine WL_nil (at_normal ?_)
          refine W_seq ?_
          refine W_seq ?_
          refine W_region ?_
          refine WL_step rfl rfl (Exec.move (v := v279292) rfl p281450 ?_)
          refine WL_step rfl rfl (Exec.move (v := Value.int .i64 ((i279299 : Int))) rfl p281453 ?_)
          obtain ⟨x281480, q281481, hm281178⟩ := bind_some hm281178
          refine WL_step rfl rfl (Exec.index_rep S61 rfl rfl rfl (r279293.mono (PHeap.le.trans (PHeap.le.trans l281183 l281446) l281463)) q281481 ?_)
          intro b281482 o281483 a281484
          refine WL_step rfl rfl (Exec.load_at (E := (encSlice (encInt .i64))) hS281464 A49 rfl rfl rfl a281484 ?_)
          intro v281485 q281486
          have r281487 := encSlice_val.1 q281486
          obtain ⟨x281488, q281489, hm281178⟩ := bind_some hm281178
          refine WL_step rfl rfl (Exec.index_rep S49 rfl rfl rfl r281487 q281489 ?_)
          intro b281490 o281491 a281492
          refine WL_step rfl rfl (Exec.load_at (E := (encInt .i64)) hS281464 A3 rfl rfl rfl a281492 ?_)
          intro v281493 q281494
          obtain rfl := encInt_val.1 q281494
          refine WL_step rfl rfl (Exec.eql rfl rfl rfl ?_)
          refine WL_nil (at_normal ?_)
          rcases ite_some hm281178 with ⟨hc281495, hm281178⟩ | ⟨hc281495, hm281178⟩
          · refine W_cond_t rfl hc281495 ?_
            refine W_seq ?_
            refine W_region ?_
            refine WL_step rfl rfl (Exec.assign (v := Value.bool (false)) rfl rfl ?_)
            refine WL_nil (at_normal ?_)
            refine W_seq ?_
            refine W_mid (M := fun f' w' => ∃ (s281501 : PHeap) , PHeap.le s281462 s281501 ∧ St w0 s281501 (Res.arr (encInt .i64) 3 v279924 first279923 :: H) w' ∧ f' 0 = Value.pointer none ∧ f' 1 = Value.int .i64 (n276641) ∧ f' 7 = v279292 ∧ f' 9 = v279924 ∧ f' 10 = Value.bool (false) ∧ f' 11 = Value.int .i64 ((i279299 : Int)) ∧ f' 15 = Value.int .i64 ((stn_Network_Earliest_nil_t (i279299 : Int)).1) ∧ f' 28 = Value.int .i64 (n276641) ∧ f' 29 = Value.int .i64 ((i279299 : Int)) ∧ f' 76 = Value.bool (((!decide (((stn_Network_Earliest_nil_t (i279299 : Int)).1) = 0)) || !(base_Is_t ((stn_Network_Earliest_nil_t (i279299 : Int)).2) 3)))) ?_ ?_
            · refine W_region ?_
              refine WL_step rfl rfl (Exec.move (v := Value.int .i64 ((stn_Network_Earliest_nil_t (i279299 : Int)).1)) rfl rfl ?_)
              refine WL_step rfl rfl (Exec.neq rfl rfl rfl ?_)
              refine WL_step rfl rfl (Exec.move (v := Value.bool (!decide (((stn_Network_Earliest_nil_t (i279299 : Int)).1) = 0))) rfl rfl ?_)
              by_cases hc281502 : (!decide (((stn_Network_Earliest_nil_t (i279299 : Int)).1) = 0)) = true
              · refine WL_pass rfl (yield_of rfl (congrArg Value.bool hc281502)) rfl rfl ?_
                refine WL_pass rfl (yield_of rfl (congrArg Value.bool hc281502)) rfl rfl ?_
                refine WL_pass rfl (yield_of rfl (congrArg Value.bool hc281502)) rfl rfl ?_
                refine WL_step rfl rfl (Exec.pick_t (v := Value.bool (true)) rfl (congrArg Value.bool hc281502) rfl ?_)
                refine WL_nil (at_normal ?_)
                exact ⟨s281462, (PHeap.le_refl _), hS281464, p281448, p281449, p281450, p281451, rfl, p281453, rfl, p281454, p281455, (congrArg Value.bool (or_t hc281502)).symm⟩
              · replace hc281502 := not_true hc281502
                refine WL_run rfl (yield_of rfl (congrArg Value.bool hc281502)) rfl (Exec.move (v := errV 30 ((stn_Network_Earliest_nil_t (i279299 : Int)).2)) rfl rfl ?_)
                refine WL_run rfl (yield_of rfl (congrArg Value.bool hc281502)) rfl (Exec.call rfl rfl Try.func11 rfl N11 (args_cons rfl (args_cons rfl args_nil)) ((base_Is_sim (base_Is_tot ((stn_Network_Earliest_nil_t (i279299 : Int)).2) 3) hS281464 ).mono ?_))
                rintro _ w281503 ⟨_, rfl, ⟨s281504, l281505, hS281506, rfl⟩⟩
                refine ⟨_, rfl, ?_⟩
                refine WL_run rfl (yield_of rfl (congrArg Value.bool hc281502)) rfl (Exec.not rfl rfl ?_)
                refine WL_step rfl rfl (Exec.pick_f (v := Value.bool (!(base_Is_t ((stn_Network_Earliest_nil_t (i279299 : Int)).2) 3))) rfl (congrArg Value.bool hc281502) rfl ?_)
                refine WL_nil (at_normal ?_)
                exact ⟨s281504, l281505, hS281506, p281448, p281449, p281450, p281451, rfl, p281453, rfl, p281454, p281455, (congrArg Value.bool (or_f hc281502)).symm⟩
            · intro f281507 w281508 hM281509
              obtain ⟨s281510, l281511, hS281512, p281513, p281514, p281515, p281516, p281517, p281518, p281519, p281520, p281521, p281522⟩ := hM281509
              refine (at_normal ?_)
              rcases ite_some hm281178 with ⟨hc281523, hm281178⟩ | ⟨hc281523, hm281178⟩
              · refine W_cond_t p281522 hc281523 ?_
                refine W_seq ?_
                refine W_region ?_
                refine WL_step rfl rfl (Exec.assign (v := Value.bool (false)) rfl rfl ?_)
                refine WL_nil (at_normal ?_)
                refine W_ret (at_ret (ib_ret (at_ret (at_ret (ib_ret (at_ret (at_ret ?_)))))))
                have e281524 := Option.some.inj hm281178
                subst c281174
                have hq281525 := hr281167 _ (hres281179 (by intro _ h; cases h))
                have e281526 := Option.some.inj hq281525
                subst r
                refine ⟨_, ret1 rfl, ?_⟩
                have hS281527 := (hS281512).drop
                exact ⟨s281510, (PHeap.le.trans (PHeap.le.trans (PHeap.le.trans (PHeap.le.trans l279290 l281183) l281446) l281463) l281511), hS281527, rfl⟩
              · refine W_cond_f p281522 hc281523 ?_
                replace hc281523 := not_true hc281523
                refine W_skip (at_normal ?_)
                refine W_seq ?_
                refine W_region ?_
                refine WL_step rfl rfl (Exec.move (v := v279924) rfl p281516 ?_)
                refine WL_step rfl rfl (Exec.move (v := Value.int .i64 ((stn_Network_Earliest_nil_t (i279299 : Int)).1)) rfl p281519 ?_)
                refine WL_step rfl rfl (Exec.buildSlice (Te := 3) (cs := [Value.int .i64 ((stn_Network_Earliest_nil_t (i279299 : Int)).1)]) hS281512 rfl (parts_cons (c := [Value.int .i64 ((stn_Network_Earliest_nil_t (i279299 : Int)).1)]) (cells_of rfl rfl) parts_nil) (fun _ => by kernel_rfl) ?_)
                intro b281537 w281538 hS281539
                obtain ⟨l281540, q281541, hm281178⟩ := bind_some hm281178
                have hS281542 := (hS281539).f1
                refine WL_step rfl rfl (Exec.append_box (E := (encInt .i64)) (ys := [(stn_Network_Earliest_nil_t (i279299 : Int)).1]) hS281542 S49 Z3 rfl (by decide) rfl rfl rfl rfl ⟨[Value.int .i64 ((stn_Network_Earliest_nil_t (i279299 : Int)).1)], [], rfl, rfl, rfl⟩ rfl q281541 ?_)
                intro v281543 w281544 hS281545
                refine WL_step rfl rfl (Exec.assign (v := v281543) rfl rfl ?_)
                refine WL_nil (at_normal ?_)
                refine W_seq ?_
                refine W_region ?_
                refine WL_step rfl rfl (Exec.move (v := Value.pointer none) rfl p281513 ?_)
                refine WL_step rfl rfl (Exec.move (v := Value.int .i64 ((i279299 : Int))) rfl p281518 ?_)
                refine WL_step rfl rfl (Exec.call rfl rfl Try.func17 rfl N17 (args_cons rfl (args_cons rfl args_nil)) ((stn_Network_Latest_nil_sim (stn_Network_Latest_nil_tot (i279299 : Int)) hS281545 ).mono ?_))
                rintro _ w281550 ⟨_, rfl, ⟨s281551, l281552, hS281553, rfl⟩⟩
                refine ⟨_, rfl, ?_⟩
                refine WL_step rfl rfl (Exec.move (v := Value.tuple #[Value.int .i64 ((stn_Network_Latest_nil_t (i279299 : Int)).1), errV 30 ((stn_Network_Latest_nil_t (i279299 : Int)).2)]) rfl rfl ?_)
                refine WL_step rfl rfl (Exec.extract (v := Value.int .i64 ((stn_Network_Latest_nil_t (i279299 : Int)).1)) rfl rfl rfl ?_)
                refine WL_step rfl rfl (Exec.extract (v := errV 30 ((stn_Network_Latest_nil_t (i279299 : Int)).2)) rfl rfl rfl ?_)
                refine WL_step rfl rfl (Exec.assign (v := Value.int .i64 ((stn_Network_Latest_nil_t (i279299 : Int)).1)) rfl rfl ?_)
                refine WL_step rfl rfl (Exec.assign (v := errV 30 ((stn_Network_Latest_nil_t (i279299 : Int)).2)) rfl rfl ?_)
                refine WL_nil (at_normal ?_)
                refine W_seq ?_
                refine W_region ?_
                refine WL_step rfl rfl (Exec.move (v := v279292) rfl p281515 ?_)
                obtain ⟨x281569, q281570, hm281178⟩ := bind_some hm281178
                refine WL_step rfl rfl (Exec.index_rep S61 rfl rfl rfl (r279293.mono (PHeap.le.trans (PHeap.le.trans (PHeap.le.trans (PHeap.le.trans l281183 l281446) l281463) l281511) l281552)) q281570 ?_)
                intro b281571 o281572 a281573
                refine WL_step rfl rfl (Exec.load_at (E := (encSlice (encInt .i64))) hS281553 A49 rfl rfl rfl a281573 ?_)
                intro v281574 q281575
                have r281576 := encSlice_val.1 q281575
                refine WL_step rfl rfl (Exec.move (v := Value.int .i64 ((i279299 : Int))) rfl p281518 ?_)
                obtain ⟨x281577, q281578, hm281178⟩ := bind_some hm281178
                refine WL_step rfl rfl (Exec.index_rep S49 rfl rfl rfl r281576 q281578 ?_)
                intro b281579 o281580 a281581
                refine WL_step rfl rfl (Exec.load_at (E := (encInt .i64)) hS281553 A3 rfl rfl rfl a281581 ?_)
                intro v281582 q281583
                obtain rfl := encInt_val.1 q281583
                refine WL_step rfl rfl (Exec.eql rfl rfl rfl ?_)
                refine WL_nil (at_normal ?_)
                rcases ite_some hm281178 with ⟨hc281584, hm281178⟩ | ⟨hc281584, hm281178⟩
                · refine W_cond_t rfl hc281584 ?_
                  refine W_seq ?_
                  refine W_mid (M := fun f' w' => ∃ (s281590 : PHeap) , PHeap.le s281551 s281590 ∧ St w0 s281590 (Res.arr (encInt .i64) 3 v281543 l281540 :: H) w' ∧ f' 0 = Value.pointer none ∧ f' 1 = Value.int .i64 (n276641) ∧ f' 7 = v279292 ∧ f' 9 = v281543 ∧ f' 10 = Value.bool (false) ∧ f' 28 = Value.int .i64 (n276641) ∧ f' 29 = Value.int .i64 ((i279299 : Int)) ∧ f' 113 = Value.bool (((!decide (((stn_Network_Latest_nil_t (i279299 : Int)).1) = 0)) || !(base_Is_t ((stn_Network_Latest_nil_t (i279299 : Int)).2) 3)))) ?_ ?_
                  · refine W_region ?_
                    refine WL_step rfl rfl (Exec.move (v := Value.int .i64 ((stn_Network_Latest_nil_t (i279299 : Int)).1)) rfl rfl ?_)
                    refine WL_step rfl rfl (Exec.neq rfl rfl rfl ?_)
                    refine WL_step rfl rfl (Exec.move (v := Value.bool (!decide (((stn_Network_Latest_nil_t (i279299 : Int)).1) = 0))) rfl rfl ?_)
                    by_cases hc281591 : (!decide (((stn_Network_Latest_nil_t (i279299 : Int)).1) = 0)) = true
                    · refine WL_pass rfl (yield_of rfl (congrArg Value.bool hc281591)) rfl rfl ?_
                      refine WL_pass rfl (yield_of rfl (congrArg Value.bool hc281591)) rfl rfl ?_
                      refine WL_pass rfl (yield_of rfl (congrArg Value.bool hc281591)) rfl rfl ?_
                      refine WL_step rfl rfl (Exec.pick_t (v := Value.bool (true)) rfl (congrArg Value.bool hc281591) rfl ?_)
                      refine WL_nil (at_normal ?_)
                      exact ⟨s281551, (PHeap.le_refl _), hS281553, p281513, p281514, p281515, rfl, p281517, p281520, p281521, (congrArg Value.bool (or_t hc281591)).symm⟩
                    · replace hc281591 := not_true hc281591
                      refine WL_run rfl (yield_of rfl (congrArg Value.bool hc281591)) rfl (Exec.move (v := errV 30 ((stn_Network_Latest_nil_t (i279299 : Int)).2)) rfl rfl ?_)
                      refine WL_run rfl (yield_of rfl (congrArg Value.bool hc281591)) rfl (Exec.call rfl rfl Try.func11 rfl N11 (args_cons rfl (args_cons rfl args_nil)) ((base_Is_sim (base_Is_tot ((stn_Network_Latest_nil_t (i279299 : Int)).2) 3) hS281553 ).mono ?_))
                      rintro _ w281592 ⟨_, rfl, ⟨s281593, l281594, hS281595, rfl⟩⟩
                      refine ⟨_, rfl, ?_⟩
                      refine WL_run rfl (yield_of rfl (congrArg Value.bool hc281591)) rfl (Exec.not rfl rfl ?_)
                      refine WL_step rfl rfl (Exec.pick_f (v := Value.bool (!(base_Is_t ((stn_Network_Latest_nil_t (i279299 : Int)).2) 3))) rfl (congrArg Value.bool hc281591) rfl ?_)
                      refine WL_nil (at_normal ?_)
                      exact ⟨s281593, l281594, hS281595, p281513, p281514, p281515, rfl, p281517, p281520, p281521, (congrArg Value.bool (or_f hc281591)).symm⟩
                  · intro f281596 w281597 hM281598
                    obtain ⟨s281599, l281600, hS281601, p281602, p281603, p281604, p281605, p281606, p281607, p281608, p281609⟩ := hM281598
                    refine (at_normal ?_)
                    rcases ite_some hm281178 with ⟨hc281610, hm281178⟩ | ⟨hc281610, hm281178⟩
                    · refine W_cond_t p281609 hc281610 ?_
                      refine W_seq ?_
                      refine W_region ?_
                      refine WL_step rfl rfl (Exec.assign (v := Value.bool (false)) rfl rfl ?_)
                      refine WL_nil (at_normal ?_)
                      refine W_ret (ib_ret (at_ret (at_ret (ib_ret (at_ret (at_ret ?_))))))
                      have e281611 := Option.some.inj hm281178
                      subst c281174
                      have hq281612 := hr281167 _ (hres281179 (by intro _ h; cases h))
                      have e281613 := Option.some.inj hq281612
                      subst r
                      refine ⟨_, ret1 rfl, ?_⟩
                      have hS281614 := (hS281601).drop
                      exact ⟨s281599, (PHeap.le.trans (PHeap.le.trans (PHeap.le.trans (PHeap.le.trans (PHeap.le.trans (PHeap.le.trans l279290 l281183) l281446) l281463) l281511) l281552) l281600), hS281614, rfl⟩
                    · refine W_cond_f p281609 hc281610 ?_
                      replace hc281610 := not_true hc281610
                      refine W_skip (ib_normal (at_normal ?_))
                      refine W_region ?_
                      refine WL_step rfl rfl (Exec.add rfl p281608 rfl ?_)
                      refine WL_step rfl rfl (Exec.move (v := Value.int .i64 (IntKind.i64.wrap ((i279299 : Int) + 1))) rfl rfl ?_)
                      refine WL_nil (at_normal ?_)
                      have e281615 := Option.some.inj hm281178
                      subst c281174
                      refine ⟨_, rfl, ?_⟩; exact ⟨s281599, v281543, (PHeap.le.trans (PHeap.le.trans (PHeap.le.trans (PHeap.le.trans (PHeap.le.trans l281183 l281446) l281463) l281511) l281552) l281600), hS281601, p281602, p281603, p281604, p281605, p281606, p281607, (Eq.trans rfl (wrap_up hi281181 (by have h := must_some q279298; simp at h; simp only [maxLen]; omega)))⟩
                · refine W_cond_f rfl hc281584 ?_
                  replace hc281584 := not_true hc281584
                  refine W_seq ?_
                  refine W_mid (M := fun f' w' => ∃ (s281628 : PHeap) , PHeap.le s281551 s281628 ∧ St w0 s281628 (Res.arr (encInt .i64) 3 v281543 l281540 :: H) w' ∧ f' 0 = Value.pointer none ∧ f' 1 = Value.int .i64 (n276641) ∧ f' 7 = v279292 ∧ f' 9 = v281543 ∧ f' 10 = Value.bool (false) ∧ f' 28 = Value.int .i64 (n276641) ∧ f' 29 = Value.int .i64 ((i279299 : Int)) ∧ f' 125 = Value.bool (((((stn_Network_Latest_nil_t (i279299 : Int)).2).isSome) || !decide (((stn_Network_Latest_nil_t (i279299 : Int)).1) = x281577)))) ?_ ?_
                  · refine W_region ?_
                    refine WL_step rfl rfl (Exec.move (v := errV 30 ((stn_Network_Latest_nil_t (i279299 : Int)).2)) rfl rfl ?_)
                    refine WL_step rfl rfl (Exec.err_neq_nil (T := 30) Try.underlying26 rfl rfl rfl ?_)
                    refine WL_step rfl rfl (Exec.move (v := Value.bool (((stn_Network_Latest_nil_t (i279299 : Int)).2).isSome)) rfl rfl ?_)
                    by_cases hc281629 : (((stn_Network_Latest_nil_t (i279299 : Int)).2).isSome) = true
                    · refine WL_pass rfl (yield_of rfl (congrArg Value.bool hc281629)) rfl rfl ?_
                      refine WL_pass rfl (yield_of rfl (congrArg Value.bool hc281629)) rfl rfl ?_
                      refine WL_pass rfl (yield_of rfl (congrArg Value.bool hc281629)) rfl rfl ?_
                      refine WL_pass rfl (yield_of rfl (congrArg Value.bool hc281629)) rfl rfl ?_
                      refine WL_pass rfl (yield_of rfl (congrArg Value.bool hc281629)) rfl rfl ?_
                      refine WL_pass rfl (yield_of rfl (congrArg Value.bool hc281629)) rfl rfl ?_
                      refine WL_pass rfl (yield_of rfl (congrArg Value.bool hc281629)) rfl rfl ?_
                      refine WL_pass rfl (yield_of rfl (congrArg Value.bool hc281629)) rfl rfl ?_
                      refine WL_step rfl rfl (Exec.pick_t (v := Value.bool (true)) rfl (congrArg Value.bool hc281629) rfl ?_)
                      refine WL_nil (at_normal ?_)
                      exact ⟨s281551, (PHeap.le_refl _), hS281553, p281513, p281514, p281515, rfl, p281517, p281520, p281521, (congrArg Value.bool (or_t hc281629)).symm⟩
                    · replace hc281629 := not_true hc281629
                      refine WL_run rfl (yield_of rfl (congrArg Value.bool hc281629)) rfl (Exec.move (v := Value.int .i64 ((stn_Network_Latest_nil_t (i279299 : Int)).1)) rfl rfl ?_)
                      refine WL_run rfl (yield_of rfl (congrArg Value.bool hc281629)) rfl (Exec.move (v := v279292) rfl p281515 ?_)
                      refine WL_run rfl (yield_of rfl (congrArg Value.bool hc281629)) rfl (Exec.index_rep S61 rfl rfl rfl (r279293.mono (PHeap.le.trans (PHeap.le.trans (PHeap.le.trans (PHeap.le.trans l281183 l281446) l281463) l281511) l281552)) q281570 ?_)
                      intro b281630 o281631 a281632
                      refine WL_run rfl (yield_of rfl (congrArg Value.bool hc281629)) rfl (Exec.load_at (E := (encSlice (encInt .i64))) hS281553 A49 rfl rfl rfl a281632 ?_)
                      intro v281633 q281634
                      have r281635 := encSlice_val.1 q281634
                      refine WL_run rfl (yield_of rfl (congrArg Value.bool hc281629)) rfl (Exec.move (v := Value.int .i64 ((i279299 : Int))) rfl p281518 ?_)
                      refine WL_run rfl (yield_of rfl (congrArg Value.bool hc281629)) rfl (Exec.index_rep S49 rfl rfl rfl r281635 q281578 ?_)
                      intro b281636 o281637 a281638
                      refine WL_run rfl (yield_of rfl (congrArg Value.bool hc281629)) rfl (Exec.load_at (E := (encInt .i64)) hS281553 A3 rfl rfl rfl a281638 ?_)
                      intro v281639 q281640
                      obtain rfl := encInt_val.1 q281640
                      refine WL_run rfl (yield_of rfl (congrArg Value.bool hc281629)) rfl (Exec.neq rfl rfl rfl ?_)
                      refine WL_step rfl rfl (Exec.pick_f (v := Value.bool (!decide (((stn_Network_Latest_nil_t (i279299 : Int)).1) = x281577))) rfl (congrArg Value.bool hc281629) rfl ?_)
                      refine WL_nil (at_normal ?_)
                      exact ⟨s281551, (PHeap.le_refl _), hS281553, p281513, p281514, p281515, rfl, p281517, p281520, p281521, (congrArg Value.bool (or_f hc281629)).symm⟩
                  · intro f281641 w281642 hM281643
                    obtain ⟨s281644, l281645, hS281646, p281647, p281648, p281649, p281650, p281651, p281652, p281653, p281654⟩ := hM281643
                    refine (at_normal ?_)
                    rcases ite_some hm281178 with ⟨hc281655, hm281178⟩ | ⟨hc281655, hm281178⟩
                    · refine W_cond_t p281654 hc281655 ?_
                      refine W_seq ?_
                      refine W_region ?_
                      refine WL_step rfl rfl (Exec.assign (v := Value.bool (false)) rfl rfl ?_)
                      refine WL_nil (at_normal ?_)
                      refine W_ret (ib_ret (at_ret (at_ret (ib_ret (at_ret (at_ret ?_))))))
                      have e281656 := Option.some.inj hm281178
                      subst c281174
                      have hq281657 := hr281167 _ (hres281179 (by intro _ h; cases h))
                      have e281658 := Option.some.inj hq281657
                      subst r
                      refine ⟨_, ret1 rfl, ?_⟩
                      have hS281659 := (hS281646).drop
                      exact ⟨s281644, (PHeap.le.trans (PHeap.le.trans (PHeap.le.trans (PHeap.le.trans (PHeap.le.trans (PHeap.le.trans l279290 l281183) l281446) l281463) l281511) l281552) l281645), hS281659, rfl⟩
                    · refine W_cond_f p281654 hc281655 ?_
                      replace hc281655 := not_true hc281655
                      refine W_skip (ib_normal (at_normal ?_))
                      refine W_region ?_
                      refine WL_step rfl rfl (Exec.add rfl p281653 rfl ?_)
                      refine WL_step rfl rfl (Exec.move (v := Value.int .i64 (IntKind.i64.wrap ((i279299 : Int) + 1))) rfl rfl ?_)
                      refine WL_nil (at_normal ?_)
                      have e281660 := Option.some.inj hm281178
                      subst c281174
                      refine ⟨_, rfl, ?_⟩; exact ⟨s281644, v281543, (PHeap.le.trans (PHeap.le.trans (PHeap.le.trans (PHeap.le.trans (PHeap.le.trans l281183 l281446) l281463) l281511) l281552) l281645), hS281646, p281647, p281648, p281649, p281650, p281651, p281652, (Eq.trans rfl (wrap_up hi281181 (by have h := must_some q279298; simp at h; simp only [maxLen]; omega)))⟩
          · refine W_cond_f rfl hc281495 ?_
            replace hc281495 := not_true hc281495
            refine W_seq ?_
            refine W_mid (M := fun f' w' => ∃ (s281673 : PHeap) , PHeap.le s281462 s281673 ∧ St w0 s281673 (Res.arr (encInt .i64) 3 v279924 first279923 :: H) w' ∧ f' 0 = Value.pointer none ∧ f' 1 = Value.int .i64 (n276641) ∧ f' 7 = v279292 ∧ f' 9 = v279924 ∧ f' 10 = Value.bool (all279925) ∧ f' 11 = Value.int .i64 ((i279299 : Int)) ∧ f' 15 = Value.int .i64 ((stn_Network_Earliest_nil_t (i279299 : Int)).1) ∧ f' 28 = Value.int .i64 (n276641) ∧ f' 29 = Value.int .i64 ((i279299 : Int)) ∧ f' 89 = Value.bool (((((stn_Network_Earliest_nil_t (i279299 : Int)).2).isSome) || !decide (((stn_Network_Earliest_nil_t (i279299 : Int)).1) = (IntKind.i64.wrap (0 - x281488)))))) ?_ ?_
            · refine W_region ?_
              refine WL_step rfl rfl (Exec.move (v := errV 30 ((stn_Network_Earliest_nil_t (i279299 : Int)).2)) rfl rfl ?_)
              refine WL_step rfl rfl (Exec.err_neq_nil (T := 30) Try.underlying26 rfl rfl rfl ?_)
              refine WL_step rfl rfl (Exec.move (v := Value.bool (((stn_Network_Earliest_nil_t (i279299 : Int)).2).isSome)) rfl rfl ?_)
              by_cases hc281674 : (((stn_Network_Earliest_nil_t (i279299 : Int)).2).isSome) = true
              · refine WL_pass rfl (yield_of rfl (congrArg Value.bool hc281674)) rfl rfl ?_
                refine WL_pass rfl (yield_of rfl (congrArg Value.bool hc281674)) rfl rfl ?_
                refine WL_pass rfl (yield_of rfl (congrArg Value.bool hc281674)) rfl rfl ?_
                refine WL_pass rfl (yield_of rfl (congrArg Value.bool hc281674)) rfl rfl ?_
                refine WL_pass rfl (yield_of rfl (congrArg Value.bool hc281674)) rfl rfl ?_
                refine WL_pass rfl (yield_of rfl (congrArg Value.bool hc281674)) rfl rfl ?_
                refine WL_pass rfl (yield_of rfl (congrArg Value.bool hc281674)) rfl rfl ?_
                refine WL_pass rfl (yield_of rfl (congrArg Value.bool hc281674)) rfl rfl ?_
                refine WL_pass rfl (yield_of rfl (congrArg Value.bool hc281674)) rfl rfl ?_
                refine WL_step rfl rfl (Exec.pick_t (v := Value.bool (true)) rfl (congrArg Value.bool hc281674) rfl ?_)
                refine WL_nil (at_normal ?_)
                exact ⟨s281462, (PHeap.le_refl _), hS281464, p281448, p281449, p281450, p281451, p281452, p281453, rfl, p281454, p281455, (congrArg Value.bool (or_t hc281674)).symm⟩
              · replace hc281674 := not_true hc281674
                refine WL_run rfl (yield_of rfl (congrArg Value.bool hc281674)) rfl (Exec.move (v := Value.int .i64 ((stn_Network_Earliest_nil_t (i279299 : Int)).1)) rfl rfl ?_)
                refine WL_run rfl (yield_of rfl (congrArg Value.bool hc281674)) rfl (Exec.move (v := v279292) rfl p281450 ?_)
                refine WL_run rfl (yield_of rfl (congrArg Value.bool hc281674)) rfl (Exec.move (v := Value.int .i64 ((i279299 : Int))) rfl p281453 ?_)
                refine WL_run rfl (yield_of rfl (congrArg Value.bool hc281674)) rfl (Exec.index_rep S61 rfl rfl rfl (r279293.mono (PHeap.le.trans (PHeap.le.trans l281183 l281446) l281463)) q281481 ?_)
                intro b281675 o281676 a281677
                refine WL_run rfl (yield_of rfl (congrArg Value.bool hc281674)) rfl (Exec.load_at (E := (encSlice (encInt .i64))) hS281464 A49 rfl rfl rfl a281677 ?_)
                intro v281678 q281679
                have r281680 := encSlice_val.1 q281679
                refine WL_run rfl (yield_of rfl (congrArg Value.bool hc281674)) rfl (Exec.index_rep S49 rfl rfl rfl r281680 q281489 ?_)
                intro b281681 o281682 a281683
                refine WL_run rfl (yield_of rfl (congrArg Value.bool hc281674)) rfl (Exec.load_at (E := (encInt .i64)) hS281464 A3 rfl rfl rfl a281683 ?_)
                intro v281684 q281685
                obtain rfl := encInt_val.1 q281685
                refine WL_run rfl (yield_of rfl (congrArg Value.bool hc281674)) rfl (Exec.neg rfl rfl ?_)
                refine WL_run rfl (yield_of rfl (congrArg Value.bool hc281674)) rfl (Exec.neq rfl rfl rfl ?_)
                refine WL_step rfl rfl (Exec.pick_f (v := Value.bool (!decide (((stn_Network_Earliest_nil_t (i279299 : Int)).1) = (IntKind.i64.wrap (0 - x281488))))) rfl (congrArg Value.bool hc281674) rfl ?_)
                refine WL_nil (at_normal ?_)
                exact ⟨s281462, (PHeap.le_refl _), hS281464, p281448, p281449, p281450, p281451, p281452, p281453, rfl, p281454, p281455, (congrArg Value.bool (or_f hc281674)).symm⟩
            · intro f281686 w281687 hM281688
              obtain ⟨s281689, l281690, hS281691, p281692, p281693, p281694, p281695, p281696, p281697, p281698, p281699, p281700, p281701⟩ := hM281688
              refine (at_normal ?_)
              rcases ite_some hm281178 with ⟨hc281702, hm281178⟩ | ⟨hc281702, hm281178⟩
              · refine W_cond_t p281701 hc281702 ?_
                refine W_seq ?_
                refine W_region ?_
                refine WL_step rfl rfl (Exec.assign (v := Value.bool (false)) rfl rfl ?_)
                refine WL_nil (at_normal ?_)
                refine W_ret (at_ret (ib_ret (at_ret (at_ret (ib_ret (at_ret (at_ret ?_)))))))
                have e281703 := Option.some.inj hm281178
                subst c281174
                have hq281704 := hr281167 _ (hres281179 (by intro _ h; cases h))
                have e281705 := Option.some.inj hq281704
                subst r
                refine ⟨_, ret1 rfl, ?_⟩
                have hS281706 := (hS281691).drop
                exact ⟨s281689, (PHeap.le.trans (PHeap.le.trans (PHeap.le.trans (PHeap.le.trans l279290 l281183) l281446) l281463) l281690), hS281706, rfl⟩
              · refine W_cond_f p281701 hc281702 ?_
                replace hc281702 := not_true hc281702
                refine W_skip (at_normal ?_)
                refine W_seq ?_
                refine W_region ?_
                refine WL_step rfl rfl (Exec.move (v := v279924) rfl p281695 ?_)
                refine WL_step rfl rfl (Exec.move (v := Value.int .i64 ((stn_Network_Earliest_nil_t (i279299 : Int)).1)) rfl p281698 ?_)
                refine WL_step rfl rfl (Exec.buildSlice (Te := 3) (cs := [Value.int .i64 ((stn_Network_Earliest_nil_t (i279299 : Int)).1)]) hS281691 rfl (parts_cons (c := [Value.int .i64 ((stn_Network_Earliest_nil_t (i279299 : Int)).1)]) (cells_of rfl rfl) parts_nil) (fun _ => by kernel_rfl) ?_)
                intro b281716 w281717 hS281718
                obtain ⟨l281719, q281720, hm281178⟩ := bind_some hm281178
                have hS281721 := (hS281718).f1
                refine WL_step rfl rfl (Exec.append_box (E := (encInt .i64)) (ys := [(stn_Network_Earliest_nil_t (i279299 : Int)).1]) hS281721 S49 Z3 rfl (by decide) rfl rfl rfl rfl ⟨[Value.int .i64 ((stn_Network_Earliest_nil_t (i279299 : Int)).1)], [], rfl, rfl, rfl⟩ rfl q281720 ?_)
                intro v281722 w281723 hS281724
                refine WL_step rfl rfl (Exec.assign (v := v281722) rfl rfl ?_)
                refine WL_nil (at_normal ?_)
                refine W_seq ?_
                refine W_region ?_
                refine WL_step rfl rfl (Exec.move (v := Value.pointer none) rfl p281692 ?_)
                refine WL_step rfl rfl (Exec.move (v := Value.int .i64 ((i279299 : Int))) rfl p281697 ?_)
                refine WL_step rfl rfl (Exec.call rfl rfl Try.func17 rfl N17 (args_cons rfl (args_cons rfl args_nil)) ((stn_Network_Latest_nil_sim (stn_Network_Latest_nil_tot (i279299 : Int)) hS281724 ).mono ?_))
                rintro _ w281729 ⟨_, rfl, ⟨s281730, l281731, hS281732, rfl⟩⟩
                refine ⟨_, rfl, ?_⟩
                refine WL_step rfl rfl (Exec.move (v := Value.tuple #[Value.int .i64 ((stn_Network_Latest_nil_t (i279299 : Int)).1), errV 30 ((stn_Network_Latest_nil_t (i279299 : Int)).2)]) rfl rfl ?_)
                refine WL_step rfl rfl (Exec.extract (v := Value.int .i64 ((stn_Network_Latest_nil_t (i279299 : Int)).1)) rfl rfl rfl ?_)
                refine WL_step rfl rfl (Exec.extract (v := errV 30 ((stn_Network_Latest_nil_t (i279299 : Int)).2)) rfl rfl rfl ?_)
                refine WL_step rfl rfl (Exec.assign (v := Value.int .i64 ((stn_Network_Latest_nil_t (i279299 : Int)).1)) rfl rfl ?_)
                refine WL_step rfl rfl (Exec.assign (v := errV 30 ((stn_Network_Latest_nil_t (i279299 : Int)).2)) rfl rfl ?_)
                refine WL_nil (at_normal ?_)
                refine W_seq ?_
                refine W_region ?_
                refine WL_step rfl rfl (Exec.move (v := v279292) rfl p281694 ?_)
                obtain ⟨x281748, q281749, hm281178⟩ := bind_some hm281178
                refine WL_step rfl rfl (Exec.index_rep S61 rfl rfl rfl (r279293.mono (PHeap.le.trans (PHeap.le.trans (PHeap.le.trans (PHeap.le.trans l281183 l281446) l281463) l281690) l281731)) q281749 ?_)
                intro b281750 o281751 a281752
                refine WL_step rfl rfl (Exec.load_at (E := (encSlice (encInt .i64))) hS281732 A49 rfl rfl rfl a281752 ?_)
                intro v281753 q281754
                have r281755 := encSlice_val.1 q281754
                refine WL_step rfl rfl (Exec.move (v := Value.int .i64 ((i279299 : Int))) rfl p281697 ?_)
                obtain ⟨x281756, q281757, hm281178⟩ := bind_some hm281178
                refine WL_step rfl rfl (Exec.index_rep S49 rfl rfl rfl r281755 q281757 ?_)
                intro b281758 o281759 a281760
                refine WL_step rfl rfl (Exec.load_at (E := (encInt .i64)) hS281732 A3 rfl rfl rfl a281760 ?_)
                intro v281761 q281762
                obtain rfl := encInt_val.1 q281762
                refine WL_step rfl rfl (Exec.eql rfl rfl rfl ?_)
                refine WL_nil (at_normal ?_)
                rcases ite_some hm281178 with ⟨hc281763, hm281178⟩ | ⟨hc281763, hm281178⟩
                · refine W_cond_t rfl hc281763 ?_
                  refine W_seq ?_
                  refine W_mid (M := fun f' w' => ∃ (s281769 : PHeap) , PHeap.le s281730 s281769 ∧ St w0 s281769 (Res.arr (encInt .i64) 3 v281722 l281719 :: H) w' ∧ f' 0 = Value.pointer none ∧ f' 1 = Value.int .i64 (n276641) ∧ f' 7 = v279292 ∧ f' 9 = v281722 ∧ f' 10 = Value.bool (all279925) ∧ f' 28 = Value.int .i64 (n276641) ∧ f' 29 = Value.int .i64 ((i279299 : Int)) ∧ f' 113 = Value.bool (((!decide (((stn_Network_Latest_nil_t (i279299 : Int)).1) = 0)) || !(base_Is_t ((stn_Network_Latest_nil_t (i279299 : Int)).2) 3)))) ?_ ?_
                  · refine W_region ?_
                    refine WL_step rfl rfl (Exec.move (v := Value.int .i64 ((stn_Network_Latest_nil_t (i279299 : Int)).1)) rfl rfl ?_)
                    refine WL_step rfl rfl (Exec.neq rfl rfl rfl ?_)
                    refine WL_step rfl rfl (Exec.move (v := Value.bool (!decide (((stn_Network_Latest_nil_t (i279299 : Int)).1) = 0))) rfl rfl ?_)
                    by_cases hc281770 : (!decide (((stn_Network_Latest_nil_t (i279299 : Int)).1) = 0)) = true
                    · refine WL_pass rfl (yield_of rfl (congrArg Value.bool hc281770)) rfl rfl ?_
                      refine WL_pass rfl (yield_of rfl (congrArg Value.bool hc281770)) rfl rfl ?_
                      refine WL_pass rfl (yield_of rfl (congrArg Value.bool hc281770)) rfl rfl ?_
                      refine WL_step rfl rfl (Exec.pick_t (v := Value.bool (true)) rfl (congrArg Value.bool hc281770) rfl ?_)
                      refine WL_nil (at_normal ?_)
                      exact ⟨s281730, (PHeap.le_refl _), hS281732, p281692, p281693, p281694, rfl, p281696, p281699, p281700, (congrArg Value.bool (or_t hc281770)).symm⟩
                    · replace hc281770 := not_true hc281770
                      refine WL_run rfl (yield_of rfl (congrArg Value.bool hc281770)) rfl (Exec.move (v := errV 30 ((stn_Network_Latest_nil_t (i279299 : Int)).2)) rfl rfl ?_)
                      refine WL_run rfl (yield_of rfl (congrArg Value.bool hc281770)) rfl (Exec.call rfl rfl Try.func11 rfl N11 (args_cons rfl (args_cons rfl args_nil)) ((base_Is_sim (base_Is_tot ((stn_Network_Latest_nil_t (i279299 : Int)).2) 3) hS281732 ).mono ?_))
                      rintro _ w281771 ⟨_, rfl, ⟨s281772, l281773, hS281774, rfl⟩⟩
                      refine ⟨_, rfl, ?_⟩
                      refine WL_run rfl (yield_of rfl (congrArg Value.bool hc281770)) rfl (Exec.not rfl rfl ?_)
                      refine WL_step rfl rfl (Exec.pick_f (v := Value.bool (!(base_Is_t ((stn_Network_Latest_nil_t (i279299 : Int)).2) 3))) rfl (congrArg Value.bool hc281770) rfl ?_)
                      refine WL_nil (at_normal ?_)
                      exact ⟨s281772, l281773, hS281774, p281692, p281693, p281694, rfl, p281696, p281699, p281700, (congrArg Value.bool (or_f hc281770)).symm⟩
                  · intro f281775 w281776 hM281777
                    obtain ⟨s281778, l281779, hS281780, p281781, p281782, p281783, p281784, p281785, p281786, p281787, p281788⟩ := hM281777
                    refine (at_normal ?_)
                    rcases ite_some hm281178 with ⟨hc281789, hm281178⟩ | ⟨hc281789, hm281178⟩
                    · refine W_cond_t p281788 hc281789 ?_
                      refine W_seq ?_
                      refine W_region ?_
                      refine WL_step rfl rfl (Exec.assign (v := Value.bool (false)) rfl rfl ?_)
                      refine WL_nil (at_normal ?_)
                      refine W_ret (ib_ret (at_ret (at_ret (ib_ret (at_ret (at_ret ?_))))))
                      have e281790 := Option.some.inj hm281178
                      subst c281174
                      have hq281791 := hr281167 _ (hres281179 (by intro _ h; cases h))
                      have e281792 := Option.some.inj hq281791
                      subst r
                      refine ⟨_, ret1 rfl, ?_⟩
                      have hS281793 := (hS281780).drop
                      exact ⟨s281778, (PHeap.le.trans (PHeap.le.trans (PHeap.le.trans (PHeap.le.trans (PHeap.le.trans (PHeap.le.trans l279290 l281183) l281446) l281463) l281690) l281731) l281779), hS281793, rfl⟩
                    · refine W_cond_f p281788 hc281789 ?_
                      replace hc281789 := not_true hc281789
                      refine W_skip (ib_normal (at_normal ?_))
                      refine W_region ?_
                      refine WL_step rfl rfl (Exec.add rfl p281787 rfl ?_)
                      refine WL_step rfl rfl (Exec.move (v := Value.int .i64 (IntKind.i64.wrap ((i279299 : Int) + 1))) rfl rfl ?_)
                      refine WL_nil (at_normal ?_)
                      have e281794 := Option.some.inj hm281178
                      subst c281174
                      refine ⟨_, rfl, ?_⟩; exact ⟨s281778, v281722, (PHeap.le.trans (PHeap.le.trans (PHeap.le.trans (PHeap.le.trans (PHeap.le.trans l281183 l281446) l281463) l281690) l281731) l281779), hS281780, p281781, p281782, p281783, p281784, p281785, p281786, (Eq.trans rfl (wrap_up hi281181 (by have h := must_some q279298; simp at h; simp only [maxLen]; omega)))⟩
                · refine W_cond_f rfl hc281763 ?_
                  replace hc281763 := not_true hc281763
                  refine W_seq ?_
                  refine W_mid (M := fun f' w' => ∃ (s281807 : PHeap) , PHeap.le s281730 s281807 ∧ St w0 s281807 (Res.arr (encInt .i64) 3 v281722 l281719 :: H) w' ∧ f' 0 = Value.pointer none ∧ f' 1 = Value.int .i64 (n276641) ∧ f' 7 = v279292 ∧ f' 9 = v281722 ∧ f' 10 = Value.bool (all279925) ∧ f' 28 = Value.int .i64 (n276641) ∧ f' 29 = Value.int .i64 ((i279299 : Int)) ∧ f' 125 = Value.bool (((((stn_Network_Latest_nil_t (i279299 : Int)).2).isSome) || !decide (((stn_Network_Latest_nil_t (i279299 : Int)).1) = x281756)))) ?_ ?_
                  · refine W_region ?_
                    refine WL_step rfl rfl (Exec.move (v := errV 30 ((stn_Network_Latest_nil_t (i279299 : Int)).2)) rfl rfl ?_)
                    refine WL_step rfl rfl (Exec.err_neq_nil (T := 30) Try.underlying26 rfl rfl rfl ?_)
                    refine WL_step rfl rfl (Exec.move (v := Value.bool (((stn_Network_Latest_nil_t (i279299 : Int)).2).isSome)) rfl rfl ?_)
                    by_cases hc281808 : (((stn_Network_Latest_nil_t (i279299 : Int)).2).isSome) = true
                    · refine WL_pass rfl (yield_of rfl (congrArg Value.bool hc281808)) rfl rfl ?_
                      refine WL_pass rfl (yield_of rfl (congrArg Value.bool hc281808)) rfl rfl ?_
                      refine WL_pass rfl (yield_of rfl (congrArg Value.bool hc281808)) rfl rfl ?_
                      refine WL_pass rfl (yield_of rfl (congrArg Value.bool hc281808)) rfl rfl ?_
                      refine WL_pass rfl (yield_of rfl (congrArg Value.bool hc281808)) rfl rfl ?_
                      refine WL_pass rfl (yield_of rfl (congrArg Value.bool hc281808)) rfl rfl ?_
                      refine WL_pass rfl (yield_of rfl (congrArg Value.bool hc281808)) rfl rfl ?_
                      refine WL_pass rfl (yield_of rfl (congrArg Value.bool hc281808)) rfl rfl ?_
                      refine WL_step rfl rfl (Exec.pick_t (v := Value.bool (true)) rfl (congrArg Value.bool hc281808) rfl ?_)
                      refine WL_nil (at_normal ?_)
                      exact ⟨s281730, (PHeap.le_refl _), hS281732, p281692, p281693, p281694, rfl, p281696, p281699, p281700, (congrArg Value.bool (or_t hc281808)).symm⟩
                    · replace hc281808 := not_true hc281808
                      refine WL_run rfl (yield_of rfl (congrArg Value.bool hc281808)) rfl (Exec.move (v := Value.int .i64 ((stn_Network_Latest_nil_t (i279299 : Int)).1)) rfl rfl ?_)
                      refine WL_run rfl (yield_of rfl (congrArg Value.bool hc281808)) rfl (Exec.move (v := v279292) rfl p281694 ?_)
                      refine WL_run rfl (yield_of rfl (congrArg Value.bool hc281808)) rfl (Exec.index_rep S61 rfl rfl rfl (r279293.mono (PHeap.le.trans (PHeap.le.trans (PHeap.le.trans (PHeap.le.trans l281183 l281446) l281463) l281690) l281731)) q281749 ?_)
                      intro b281809 o281810 a281811
                      refine WL_run rfl (yield_of rfl (congrArg Value.bool hc281808)) rfl (Exec.load_at (E := (encSlice (encInt .i64))) hS281732 A49 rfl rfl rfl a281811 ?_)
                      intro v281812 q281813
                      have r281814 := encSlice_val.1 q281813
                      refine WL_run rfl (yield_of rfl (congrArg Value.bool hc281808)) rfl (Exec.move (v := Value.int .i64 ((i279299 : Int))) rfl p281697 ?_)
                      refine WL_run rfl (yield_of rfl (congrArg Value.bool hc281808)) rfl (Exec.index_rep S49 rfl rfl rfl r281814 q281757 ?_)
                      intro b281815 o281816 a281817
                      refine WL_run rfl (yield_of rfl (congrArg Value.bool hc281808)) rfl (Exec.load_at (E := (encInt .i64)) hS281732 A3 rfl rfl rfl a281817 ?_)
                      intro v281818 q281819
                      obtain rfl := encInt_val.1 q281819
                      refine WL_run rfl (yield_of rfl (congrArg Value.bool hc281808)) rfl (Exec.neq rfl rfl rfl ?_)
                      refine WL_step rfl rfl (Exec.pick_f (v := Value.bool (!decide (((stn_Network_Latest_nil_t (i279299 : Int)).1) = x281756))) rfl (congrArg Value.bool hc281808) rfl ?_)
                      refine WL_nil (at_normal ?_)
                      exact ⟨s281730, (PHeap.le_refl _), hS281732, p281692, p281693, p281694, rfl, p281696, p281699, p281700, (congrArg Value.bool (or_f hc281808)).symm⟩
                  · intro f281820 w281821 hM281822
                    obtain ⟨s281823, l281824, hS281825, p281826, p281827, p281828, p281829, p281830, p281831, p281832, p281833⟩ := hM281822
                    refine (at_normal ?_)
                    rcases ite_some hm281178 with ⟨hc281834, hm281178⟩ | ⟨hc281834, hm281178⟩
                    · refine W_cond_t p281833 hc281834 ?_
                      refine W_seq ?_
                      refine W_region ?_
                      refine WL_step rfl rfl (Exec.assign (v := Value.bool (false)) rfl rfl ?_)
                      refine WL_nil (at_normal ?_)
                      refine W_ret (ib_ret (at_ret (at_ret (ib_ret (at_ret (at_ret ?_))))))
                      have e281835 := Option.some.inj hm281178
                      subst c281174
                      have hq281836 := hr281167 _ (hres281179 (by intro _ h; cases h))
                      have e281837 := Option.some.inj hq281836
                      subst r
                      refine ⟨_, ret1 rfl, ?_⟩
                      have hS281838 := (hS281825).drop
                      exact ⟨s281823, (PHeap.le.trans (PHeap.le.trans (PHeap.le.trans (PHeap.le.trans (PHeap.le.trans (PHeap.le.trans l279290 l281183) l281446) l281463) l281690) l281731) l281824), hS281838, rfl⟩
                    · refine W_cond_f p281833 hc281834 ?_
                      replace hc281834 := not_true hc281834
                      refine W_skip (ib_normal (at_normal ?_))
                      refine W_region ?_
                      refine WL_step rfl rfl (Exec.add rfl p281832 rfl ?_)
                      refine WL_step rfl rfl (Exec.move (v := Value.int .i64 (IntKind.i64.wrap ((i279299 : Int) + 1))) rfl rfl ?_)
                      refine WL_nil (at_normal ?_)
                      have e281839 := Option.some.inj hm281178
                      subst c281174
                      refine ⟨_, rfl, ?_⟩; exact ⟨s281823, v281722, (PHeap.le.trans (PHeap.le.trans (PHeap.le.trans (PHeap.le.trans (PHeap.le.trans l281183 l281446) l281463) l281690) l281731) l281824), hS281825, p281826, p281827, p281828, p281829, p281830, p281831, (Eq.trans rfl (wrap_up hi281181 (by have h := must_some q279298; simp at h; simp only [maxLen]; omega)))⟩
      · intro t281840 f281841 w281842 hI281843 hres281844
        obtain ⟨first279923, all279925⟩ := t281840
        obtain ⟨s281845, v279924, l281846, hS281847, p281848, p281849, p281850, p281851, p281852, p281853, x281854⟩ := hI281843
        refine W_seq ?_
        refine W_region ?_
        refine WL_step rfl rfl (Exec.lss rfl x281854 p281853 ?_)
        refine WL_nil (at_normal ?_)
        refine W_seq ?_
        refine W_false (congrArg Value.bool (decide_eq_false (by omega))) ?_
        refine W_exit (at_exit (at_exit (ib_here (at_normal ?_))))
        refine ⟨_, .inl hres281844, ?_⟩; exact ⟨s281845, v279924, l281846, hS281847, p281848, p281849, p281850, p281851, p281852, p281853⟩
    · rintro f281855 w281856 ⟨t281857, hc281858, hM281859⟩
      have hm := hc281858.elim (hn281168 _) (hb281169 _)
      clear hc281858
      obtain ⟨first281162, all281163⟩ := t281857
      replace hm := un2_eq hm
      obtain ⟨s281860, v281164, l281861, hS281862, p281863, p281864, p281865, p281866, p281867, p281868⟩ := hM281859
      refine (at_normal ?_)
      refine W_seq ?_
      refine W_region ?_
      refine WL_step rfl rfl (Exec.move (v := Value.pointer none) rfl p281863 ?_)
      refine WL_step rfl rfl (Exec.call rfl rfl Try.func22 rfl N22 (args_cons rfl args_nil) ((stn_Network_Times_nil_sim stn_Network_Times_nil_tot hS281862 ).mono ?_))
      rintro _ w281875 ⟨_, rfl, ⟨s281876, v281879, l281877, hS281878, rfl, r281880⟩⟩
      refine ⟨_, rfl, ?_⟩
      refine WL_step rfl rfl (Exec.move (v := Value.tuple #[v281879, errV 30 ((stn_Network_Times_nil_t).2)]) rfl rfl ?_)
      refine WL_step rfl rfl (Exec.extract (v := v281879) rfl rfl rfl ?_)
      refine WL_step rfl rfl (Exec.extract (v := errV 30 ((stn_Network_Times_nil_t).2)) rfl rfl rfl ?_)
      refine WL_step rfl rfl (Exec.assign (v := v281879) rfl rfl ?_)
      refine WL_step rfl rfl (Exec.assign (v := errV 30 ((stn_Network_Times_nil_t).2)) rfl rfl ?_)
      refine WL_nil (at_normal ?_)
      refine W_seq ?_
      refine W_seq ?_
      refine W_region ?_
      refine WL_step rfl rfl (Exec.move (v := Value.bool (all281163)) rfl p281867 ?_)
      refine WL_step rfl rfl (Exec.not rfl rfl ?_)
      refine WL_nil (at_normal ?_)
      rcases ite_some hm with ⟨hc281881, hm⟩ | ⟨hc281881, hm⟩
      · refine W_cond_t rfl hc281881 ?_
        refine W_seq ?_
        refine W_mid (M := fun f' w' => ∃ (s281887 : PHeap) , PHeap.le s281876 s281887 ∧ St w0 s281887 (H) w' ∧ f' 6 = Value.bool (((decide ((((stn_Network_Times_nil_t).1).length : Int) = 0)) && (base_Is_t ((stn_Network_Times_nil_t).2) 3)))) ?_ ?_
        · refine W_region ?_
          refine WL_step rfl rfl (Exec.move (v := v281879) rfl rfl ?_)
          refine WL_step rfl rfl (Exec.len_rep S49 rfl rfl r281880 ?_)
          refine WL_step rfl rfl (Exec.eql rfl rfl rfl ?_)
          refine WL_step rfl rfl (Exec.move (v := Value.bool (decide ((((stn_Network_Times_nil_t).1).length : Int) = 0))) rfl rfl ?_)
          by_cases hc281888 : (decide ((((stn_Network_Times_nil_t).1).length : Int) = 0)) = true
          · refine WL_run rfl (yield_of rfl (congrArg Value.bool hc281888)) rfl (Exec.move (v := errV 30 ((stn_Network_Times_nil_t).2)) rfl rfl ?_)
            refine WL_run rfl (yield_of rfl (congrArg Value.bool hc281888)) rfl (Exec.call rfl rfl Try.func11 rfl N11 (args_cons rfl (args_cons rfl args_nil)) ((base_Is_sim (base_Is_tot ((stn_Network_Times_nil_t).2) 3) hS281878 ).mono ?_))
            rintro _ w281889 ⟨_, rfl, ⟨s281890, l281891, hS281892, rfl⟩⟩
            refine ⟨_, rfl, ?_⟩
            refine WL_step rfl rfl (Exec.pick_t (v := Value.bool ((base_Is_t ((stn_Network_Times_nil_t).2) 3))) rfl (congrArg Value.bool hc281888) rfl ?_)
            refine WL_step rfl rfl (Exec.assign (v := Value.bool ((base_Is_t ((stn_Network_Times_nil_t).2) 3))) rfl rfl ?_)
            refine WL_nil (at_normal ?_)
            have hS281893 := (hS281892).drop
            exact ⟨s281890, l281891, hS281893, (congrArg Value.bool (and_t hc281888)).symm⟩
          · replace hc281888 := not_true hc281888
            refine WL_pass rfl (yield_of rfl (congrArg Value.bool hc281888)) rfl rfl ?_
            refine WL_pass rfl (yield_of rfl (congrArg Value.bool hc281888)) rfl rfl ?_
            refine WL_step rfl rfl (Exec.pick_f (v := Value.bool (false)) rfl (congrArg Value.bool hc281888) rfl ?_)
            refine WL_step rfl rfl (Exec.assign (v := Value.bool (false)) rfl rfl ?_)
            refine WL_nil (at_normal ?_)
            have hS281894 := (hS281878).drop
            exact ⟨s281876, (PHeap.le_refl _), hS281894, (congrArg Value.bool (and_f hc281888)).symm⟩
        · intro f281895 w281896 hM281897
          obtain ⟨s281898, l281899, hS281900, p281901⟩ := hM281897
          refine (at_normal ?_)
          refine W_ret (at_ret ?_)
          have e281903 := Option.some.inj hm
          subst r
          refine ⟨_, ret1 rfl, ?_⟩
          exact ⟨s281898, (PHeap.le.trans (PHeap.le.trans (PHeap.le.trans l279290 l281861) l281877) l281899), hS281900, p281901⟩
      · refine W_cond_f rfl hc281881 ?_
        replace hc281881 := not_true hc281881
        refine W_skip (at_normal ?_)
        refine W_seq ?_
        obtain ⟨z281912, ht281913, hm⟩ := bind_some hm
        refine W_mid (M := fun f' w' => (fun (z281912 : Bool) => ∃ (s281914 : PHeap) , PHeap.le s281876 s281914 ∧ St w0 s281914 (H) w' ∧ f' 6 = Value.bool (z281912)) z281912) ?_ ?_
        · refine W_region ?_
          refine WL_step rfl rfl (Exec.move (v := errV 30 ((stn_Network_Times_nil_t).2)) rfl rfl ?_)
          refine WL_step rfl rfl (Exec.err_eql_nil (T := 30) Try.underlying26 rfl rfl rfl ?_)
          refine WL_step rfl rfl (Exec.move (v := Value.bool (((stn_Network_Times_nil_t).2).isNone)) rfl rfl ?_)
          rcases ite_some ht281913 with ⟨hc281915, ht281913⟩ | ⟨hc281915, ht281913⟩
          · refine WL_run rfl (yield_of rfl (congrArg Value.bool hc281915)) rfl (Exec.move (v := v281879) rfl rfl ?_)
            refine WL_run rfl (yield_of rfl (congrArg Value.bool hc281915)) rfl (Exec.move (v := v281164) rfl p281866 ?_)
            obtain ⟨y281918, q281917, ht281913⟩ := bind_some ht281913
            refine WL_run rfl (yield_of rfl (congrArg Value.bool hc281915)) rfl (Exec.call rfl rfl Try.func23 rfl N23 (args_cons rfl (args_cons rfl args_nil)) ((base_Ints_o_sim q281917 hS281878 r281880).mono ?_))
            rintro _ w281919 ⟨_, rfl, ⟨s281920, l281921, hS281922, rfl⟩⟩
            refine ⟨_, rfl, ?_⟩
            refine WL_step rfl rfl (Exec.pick_t (v := Value.bool (y281918)) rfl (congrArg Value.bool hc281915) rfl ?_)
            refine WL_step rfl rfl (Exec.assign (v := Value.bool (y281918)) rfl rfl ?_)
            refine WL_nil (at_normal ?_)
            have e281923 := Option.some.inj ht281913
            subst z281912
            have hS281924 := (hS281922).drop
            exact ⟨s281920, l281921, hS281924, rfl⟩
          · replace hc281915 := not_true hc281915
            refine WL_pass rfl (yield_of rfl (congrArg Value.bool hc281915)) rfl rfl ?_
            refine WL_pass rfl (yield_of rfl (congrArg Value.bool hc281915)) rfl rfl ?_
            refine WL_pass rfl (yield_of rfl (congrArg Value.bool hc281915)) rfl rfl ?_
            refine WL_step rfl rfl (Exec.pick_f (v := Value.bool (false)) rfl (congrArg Value.bool hc281915) rfl ?_)
            refine WL_step rfl rfl (Exec.assign (v := Value.bool (false)) rfl rfl ?_)
            refine WL_nil (at_normal ?_)
            have e281925 := Option.some.inj ht281913
            subst z281912
            have hS281926 := (hS281878).drop
            exact ⟨s281876, (PHeap.le_refl _), hS281926, rfl⟩
        · intro f281927 w281928 hM281929
          obtain ⟨s281930, l281931, hS281932, p281933⟩ := hM281929
          refine (at_normal ?_)
          refine W_ret ?_
          have e281935 := Option.some.inj hm
          subst r
          refine ⟨_, ret1 rfl, ?_⟩
          exact ⟨s281930, (PHeap.le.trans (PHeap.le.trans (PHeap.le.trans l279290 l281861) l281877) l281931), hS281932, p281933⟩

theorem N3 : (Try.f3.name == "runtime.NumGoroutine") = false := by kernel_rfl

theorem law54_StnPlays_sim {w0 w : World} {s : PHeap} {H : List Res} {n1 : Int} {bounds2 : (List Bound)} {v3 : Value} {r : Bool} (hm : law54_StnPlays_p n1 bounds2 = some r) (hS : St w0 s (H) w) (a4 : SliceRep encBound s v3 bounds2) :
    Calls Try.prog 3 #[Value.int .i64 (n1), v3] w fun e w' => ∃ v, e = .returned v ∧ ((fun (y281995 : Bool) => ∃ (s281996 : PHeap) , PHeap.le s s281996 ∧ St w0 s281996 (H) w' ∧ v = Value.bool (y281995)) r) := by
  unfold law54_StnPlays_p at hm
  refine calls_of_W Try.func3 rfl rfl ?_
  refine W_seq ?_
  refine W_region ?_
  refine WL_step rfl rfl (Exec.assign (v := Value.bool (false)) rfl rfl ?_)
  refine WL_nil (at_normal ?_)
  refine W_seq ?_
  refine W_seq ?_
  obtain ⟨z282007, ht282008, hm⟩ := bind_some hm
  refine W_mid (M := fun f' w' => (fun (z282007 : Bool) => ∃ (s282009 : PHeap) , PHeap.le s s282009 ∧ St w0 s282009 (H) w' ∧ f' 0 = Value.int .i64 (n1) ∧ f' 1 = v3 ∧ f' 32 = Value.bool (z282007)) z282007) ?_ ?_
  · refine W_region ?_
    obtain ⟨y282012, q282011, ht282008⟩ := bind_some ht282008
    refine WL_step rfl rfl (Exec.call rfl rfl Try.func9 rfl N9 args_nil ((law54_awake_sim q282011 hS ).mono ?_))
    rintro _ w282013 ⟨_, rfl, ⟨s282014, l282015, hS282016, rfl⟩⟩
    refine ⟨_, rfl, ?_⟩
    refine WL_step rfl rfl (Exec.not rfl rfl ?_)
    refine WL_step rfl rfl (Exec.move (v := Value.bool (!y282012)) rfl rfl ?_)
    rcases ite_some ht282008 with ⟨hc282017, ht282008⟩ | ⟨hc282017, ht282008⟩
    · refine WL_pass rfl (yield_of rfl (congrArg Value.bool hc282017)) rfl rfl ?_
      refine WL_pass rfl (yield_of rfl (congrArg Value.bool hc282017)) rfl rfl ?_
      refine WL_pass rfl (yield_of rfl (congrArg Value.bool hc282017)) rfl rfl ?_
      refine WL_pass_none rfl (yield_undef rfl rfl) rfl ?_
      refine WL_pass_none rfl (yield_undef rfl rfl) rfl ?_
      refine WL_pass rfl (yield_of rfl (congrArg Value.bool hc282017)) rfl rfl ?_
      refine WL_step rfl rfl (Exec.pick_t (v := Value.bool (true)) rfl (congrArg Value.bool hc282017) rfl ?_)
      refine WL_step rfl rfl (Exec.move (v := Value.bool (true)) rfl rfl ?_)
      refine WL_pass rfl (yield_of rfl rfl) rfl rfl ?_
      refine WL_pass rfl (yield_of rfl rfl) rfl rfl ?_
      refine WL_pass rfl (yield_of rfl rfl) rfl rfl ?_
      refine WL_step rfl rfl (Exec.pick_t (v := Value.bool (true)) rfl rfl rfl ?_)
      refine WL_nil (at_normal ?_)
      have e282018 := Option.some.inj ht282008
      subst z282007
      exact ⟨s282014, l282015, hS282016, rfl, rfl, rfl⟩
    · replace hc282017 := not_true hc282017
      refine WL_run rfl (yield_of rfl (congrArg Value.bool hc282017)) rfl (Exec.move (v := Value.int .i64 (n1)) rfl rfl ?_)
      refine WL_run rfl (yield_of rfl (congrArg Value.bool hc282017)) rfl (Exec.gtr rfl rfl rfl ?_)
      refine WL_run rfl (yield_of rfl (congrArg Value.bool hc282017)) rfl (Exec.move (v := Value.bool (decide (12 < n1))) rfl rfl ?_)
      rcases ite_some ht282008 with ⟨hc282019, ht282008⟩ | ⟨hc282019, ht282008⟩
      · refine WL_run rfl (yield_of rfl (congrArg Value.bool hc282019)) rfl (Exec.move (v := Value.int .i64 (n1)) rfl rfl ?_)
        refine WL_run rfl (yield_of rfl (congrArg Value.bool hc282019)) rfl (Exec.leq rfl rfl rfl ?_)
        refine WL_run rfl (yield_of rfl (congrArg Value.bool hc282017)) rfl (Exec.pick_t (v := Value.bool (decide (n1 ≤ 128))) rfl (congrArg Value.bool hc282019) rfl ?_)
        refine WL_step rfl rfl (Exec.pick_f (v := Value.bool (decide (n1 ≤ 128))) rfl (congrArg Value.bool hc282017) rfl ?_)
        refine WL_step rfl rfl (Exec.move (v := Value.bool (decide (n1 ≤ 128))) rfl rfl ?_)
        rcases ite_some ht282008 with ⟨hc282020, ht282008⟩ | ⟨hc282020, ht282008⟩
        · refine WL_pass rfl (yield_of rfl (congrArg Value.bool hc282020)) rfl rfl ?_
          refine WL_pass rfl (yield_of rfl (congrArg Value.bool hc282020)) rfl rfl ?_
          refine WL_pass rfl (yield_of rfl (congrArg Value.bool hc282020)) rfl rfl ?_
          refine WL_step rfl rfl (Exec.pick_t (v := Value.bool (true)) rfl (congrArg Value.bool hc282020) rfl ?_)
          refine WL_nil (at_normal ?_)
          have e282021 := Option.some.inj ht282008
          subst z282007
          exact ⟨s282014, l282015, hS282016, rfl, rfl, rfl⟩
        · replace hc282020 := not_true hc282020
          refine WL_run rfl (yield_of rfl (congrArg Value.bool hc282020)) rfl (Exec.move (v := v3) rfl rfl ?_)
          refine WL_run rfl (yield_of rfl (congrArg Value.bool hc282020)) rfl (Exec.len_rep S22 rfl rfl (a4.mono l282015) ?_)
          refine WL_run rfl (yield_of rfl (congrArg Value.bool hc282020)) rfl (Exec.gtr rfl rfl rfl ?_)
          refine WL_step rfl rfl (Exec.pick_f (v := Value.bool (decide (30 < (bounds2.length : Int)))) rfl (congrArg Value.bool hc282020) rfl ?_)
          refine WL_nil (at_normal ?_)
          have e282022 := Option.some.inj ht282008
          subst z282007
          exact ⟨s282014, l282015, hS282016, rfl, rfl, rfl⟩
      · replace hc282019 := not_true hc282019
        refine WL_pass rfl (yield_of rfl (congrArg Value.bool hc282019)) rfl rfl ?_
        refine WL_pass rfl (yield_of rfl (congrArg Value.bool hc282019)) rfl rfl ?_
        refine WL_run rfl (yield_of rfl (congrArg Value.bool hc282017)) rfl (Exec.pick_f (v := Value.bool (false)) rfl (congrArg Value.bool hc282019) rfl ?_)
        refine WL_step rfl rfl (Exec.pick_f (v := Value.bool (false)) rfl (congrArg Value.bool hc282017) rfl ?_)
        refine WL_step rfl rfl (Exec.move (v := Value.bool (false)) rfl rfl ?_)
        refine WL_run rfl (yield_of rfl rfl) rfl (Exec.move (v := v3) rfl rfl ?_)
        refine WL_run rfl (yield_of rfl rfl) rfl (Exec.len_rep S22 rfl rfl (a4.mono l282015) ?_)
        refine WL_run rfl (yield_of rfl rfl) rfl (Exec.gtr rfl rfl rfl ?_)
        refine WL_step rfl rfl (Exec.pick_f (v := Value.bool (decide (30 < (bounds2.length : Int)))) rfl rfl rfl ?_)
        refine WL_nil (at_normal ?_)
        have e282023 := Option.some.inj ht282008
        subst z282007
        exact ⟨s282014, l282015, hS282016, rfl, rfl, rfl⟩
  · intro f282024 w282025 hM282026
    obtain ⟨s282027, l282028, hS282029, p282030, p282031, p282032⟩ := hM282026
    refine (at_normal ?_)
    rcases ite_some hm with ⟨hc282033, hm⟩ | ⟨hc282033, hm⟩
    · refine W_cond_t p282032 hc282033 ?_
      refine W_seq ?_
      refine W_region ?_
      obtain ⟨y282043, q282042, hm⟩ := bind_some hm
      refine WL_step rfl rfl (Exec.call rfl rfl Try.func9 rfl N9 args_nil ((law54_awake_sim q282042 hS282029 ).mono ?_))
      rintro _ w282044 ⟨_, rfl, ⟨s282045, l282046, hS282047, rfl⟩⟩
      refine ⟨_, rfl, ?_⟩
      refine WL_step rfl rfl (Exec.assign (v := Value.bool (y282043)) rfl rfl ?_)
      refine WL_nil (at_normal ?_)
      refine W_ret (at_ret ?_)
      have e282049 := Option.some.inj hm
      subst r
      refine ⟨_, ret1 rfl, ?_⟩
      exact ⟨s282045, (PHeap.le.trans l282028 l282046), hS282047, rfl⟩
    · refine W_cond_f p282032 hc282033 ?_
      replace hc282033 := not_true hc282033
      refine W_skip (at_normal ?_)
      refine W_seq ?_
      refine W_region ?_
      refine WL_step rfl rfl (Exec.move (v := Value.int .i64 (n1)) rfl p282030 ?_)
      obtain ⟨t282068, q282069, hm⟩ := bind_some hm
      obtain ⟨pd282070, y282071⟩ := t282068
      replace hm := un2_eq hm
      refine WL_step rfl rfl (Exec.call rfl rfl Try.func10 rfl N10 (args_cons rfl args_nil) ((stn_New_sim q282069 hS282029 ).mono ?_))
      rintro _ w282072 ⟨_, rfl, hp282073⟩
      refine ⟨_, rfl, ?_⟩
      rcases hp282073 with ⟨d282074, rfl, s282075, v282078, v282079, v282080, l282076, hS282077, rfl⟩ | ⟨rfl, s282082, l282083, hS282084, rfl⟩
      · replace hm := optC_some hm
        refine WL_step rfl rfl (Exec.move (v := Value.tuple #[Value.pointer (some ⟨v282078, 0, none⟩), errV 30 (y282071)]) rfl rfl ?_)
        refine WL_step rfl rfl (Exec.extract (v := Value.pointer (some ⟨v282078, 0, none⟩)) rfl rfl rfl ?_)
        refine WL_step rfl rfl (Exec.extract (v := errV 30 (y282071)) rfl rfl rfl ?_)
        refine WL_step rfl rfl (Exec.assign (v := Value.pointer (some ⟨v282078, 0, none⟩)) rfl rfl ?_)
        refine WL_step rfl rfl (Exec.assign (v := errV 30 (y282071)) rfl rfl ?_)
        refine WL_nil (at_normal ?_)
        refine W_seq ?_
        refine W_seq ?_
        refine W_mid (M := fun f' w' => ∃ (s282087 : PHeap) , PHeap.le s282075 s282087 ∧ St w0 s282087 (Res.box v282078 63 [v282079] :: Res.arr encRaw 49 v282079 v282080 :: Res.rows (encInt .i64) 3 v282080 d282074.d :: H) w' ∧ f' 0 = Value.int .i64 (n1) ∧ f' 1 = v3 ∧ f' 5 = Value.pointer (some ⟨v282078, 0, none⟩) ∧ f' 6 = errV 30 (y282071) ∧ f' 44 = Value.bool (((decide (n1 < 1)) || decide (128 < n1)))) ?_ ?_
        · refine W_region ?_
          refine WL_step rfl rfl (Exec.move (v := Value.int .i64 (n1)) rfl p282030 ?_)
          refine WL_step rfl rfl (Exec.lss rfl rfl rfl ?_)
          refine WL_step rfl rfl (Exec.move (v := Value.bool (decide (n1 < 1))) rfl rfl ?_)
          by_cases hc282088 : (decide (n1 < 1)) = true
          · refine WL_pass rfl (yield_of rfl (congrArg Value.bool hc282088)) rfl rfl ?_
            refine WL_pass rfl (yield_of rfl (congrArg Value.bool hc282088)) rfl rfl ?_
            refine WL_step rfl rfl (Exec.pick_t (v := Value.bool (true)) rfl (congrArg Value.bool hc282088) rfl ?_)
            refine WL_nil (at_normal ?_)
            have hS282089 := ((hS282077).f2).f2
            have hS282090 := (hS282089).f2
            exact ⟨s282075, (PHeap.le_refl _), hS282090, p282030, p282031, rfl, rfl, (congrArg Value.bool (or_t hc282088)).symm⟩
          · replace hc282088 := not_true hc282088
            refine WL_run rfl (yield_of rfl (congrArg Value.bool hc282088)) rfl (Exec.move (v := Value.int .i64 (n1)) rfl p282030 ?_)
            refine WL_run rfl (yield_of rfl (congrArg Value.bool hc282088)) rfl (Exec.gtr rfl rfl rfl ?_)
            refine WL_step rfl rfl (Exec.pick_f (v := Value.bool (decide (128 < n1))) rfl (congrArg Value.bool hc282088) rfl ?_)
            refine WL_nil (at_normal ?_)
            have hS282091 := ((hS282077).f2).f2
            have hS282092 := (hS282091).f2
            exact ⟨s282075, (PHeap.le_refl _), hS282092, p282030, p282031, rfl, rfl, (congrArg Value.bool (or_f hc282088)).symm⟩
        · intro f282093 w282094 hM282095
          obtain ⟨s282096, l282097, hS282098, p282099, p282100, p282101, p282102, p282103⟩ := hM282095
          refine (at_normal ?_)
          rcases ite_some hm with ⟨hc282104, hm⟩ | ⟨hc282104, hm⟩
          · refine W_cond_t p282103 hc282104 ?_
            refine W_seq ?_
            refine W_region ?_
            refine WL_step rfl rfl (Exec.move (v := Value.pointer (some ⟨v282078, 0, none⟩)) rfl p282101 ?_)
            refine WL_step rfl rfl (Exec.ptr_eql_nil Try.underlying24 rfl rfl rfl ?_)
            refine WL_step rfl rfl (Exec.move (v := Value.bool (false)) rfl rfl ?_)
            refine WL_pass rfl (yield_of rfl rfl) rfl rfl ?_
            refine WL_pass rfl (yield_of rfl rfl) rfl rfl ?_
            refine WL_step rfl rfl (Exec.pick_f (v := Value.bool (false)) rfl rfl rfl ?_)
            refine WL_step rfl rfl (Exec.assign (v := Value.bool (false)) rfl rfl ?_)
            refine WL_nil (at_normal ?_)
            refine W_ret (at_ret ?_)
            have e282106 := Option.some.inj hm
            subst r
            refine ⟨_, ret1 rfl, ?_⟩
            have hS282107 := (hS282098).drop
            have hS282108 := ((hS282107).drop).drop
            exact ⟨s282096, (PHeap.le.trans (PHeap.le.trans l282028 l282076) l282097), hS282108, rfl⟩
          · refine W_cond_f p282103 hc282104 ?_
            replace hc282104 := not_true hc282104
            refine W_skip (at_normal ?_)
            refine W_seq ?_
            refine W_seq ?_
            refine W_region ?_
            refine WL_step rfl rfl (Exec.move (v := errV 30 (y282071)) rfl p282102 ?_)
            refine WL_step rfl rfl (Exec.err_neq_nil (T := 30) Try.underlying26 rfl rfl rfl ?_)
            refine WL_nil (at_normal ?_)
            rcases ite_some hm with ⟨hc282109, hm⟩ | ⟨hc282109, hm⟩
            · refine W_cond_t rfl hc282109 ?_
              refine W_seq ?_
              refine W_region ?_
              refine WL_step rfl rfl (Exec.assign (v := Value.bool (false)) rfl rfl ?_)
              refine WL_nil (at_normal ?_)
              refine W_ret (at_ret ?_)
              have e282111 := Option.some.inj hm
              subst r
              refine ⟨_, ret1 rfl, ?_⟩
              have hS282112 := (hS282098).drop
              have hS282113 := ((hS282112).drop).drop
              exact ⟨s282096, (PHeap.le.trans (PHeap.le.trans l282028 l282076) l282097), hS282113, rfl⟩
            · refine W_cond_f rfl hc282109 ?_
              replace hc282109 := not_true hc282109
              refine W_skip (at_normal ?_)
              refine W_seq ?_
              refine W_region ?_
              refine WL_step rfl rfl (Exec.assign (v := Value.slice none 0 0) rfl rfl ?_)
              refine WL_nil (at_normal ?_)
              refine W_seq ?_
              refine W_seq ?_
              refine W_region ?_
              refine WL_step rfl rfl (Exec.move (v := v3) rfl p282100 ?_)
              refine WL_step rfl rfl (Exec.len_rep S22 rfl rfl (a4.mono (PHeap.le.trans (PHeap.le.trans l282028 l282076) l282097)) ?_)
              refine WL_step rfl rfl (Exec.move (v := Value.int .i64 (0)) rfl rfl ?_)
              refine WL_nil (at_normal ?_)
              obtain ⟨c282349, hB282350, hr282351, hn282352, hb282353⟩ := ctl_some hm
              refine W_mid (M := fun f' w' => ∃ s', (c282349 = .next s' ∨ c282349 = .brk s') ∧ (un2 fun (l282346 : (List Bound)) (l282347 : (List (List Int))) => ∃ (s282355 : PHeap) (v282348 : Value), PHeap.le s282096 s282355 ∧ St w0 s282355 (Res.box v282078 63 [v282079] :: Res.arr encRaw 49 v282079 v282080 :: Res.rows (encInt .i64) 3 v282080 l282347 :: H) w' ∧ f' 0 = Value.int .i64 (n1) ∧ f' 5 = Value.pointer (some ⟨v282078, 0, none⟩) ∧ f' 7 = v282348 ∧ f' 53 = v3 ∧ f' 54 = Value.int .i64 ((bounds2.length : Int)) ∧ SliceRep encBound s282355 v282348 l282346) s') ?_ ?_
              · refine W_block (W_forC (fun k' s' f' w' => (un2 fun (l282189 : (List Bound)) (l282191 : (List (List Int))) => ∃ (s282354 : PHeap) (v282190 : Value), PHeap.le s282096 s282354 ∧ St w0 s282354 (Res.box v282078 63 [v282079] :: Res.arr encRaw 49 v282079 v282080 :: Res.rows (encInt .i64) 3 v282080 l282191 :: H) w' ∧ f' 0 = Value.int .i64 (n1) ∧ f' 5 = Value.pointer (some ⟨v282078, 0, none⟩) ∧ f' 7 = v282190 ∧ f' 53 = v3 ∧ f' 54 = Value.int .i64 ((bounds2.length : Int)) ∧ f' 55 = Value.int .i64 (k' : Int) ∧ SliceRep encBound s282354 v282190 l282189) s') hB282350 ?_ ?_ ?_)
                · have hS282356 := ((hS282098).f2).f2
                  have hS282357 := (hS282356).f2
                  exact ⟨s282096, (Value.slice none 0 0), (PHeap.le_refl _), hS282357, p282099, p282101, rfl, rfl, rfl, rfl, (SliceRep.nil _ _)⟩
                · intro i282114 t282365 c282359 f282360 w282361 hi282366 hI282362 hm282363 hres282364
                  obtain ⟨l282189, l282191⟩ := t282365
                  replace hm282363 := un2_eq hm282363
                  obtain ⟨s282367, v282190, l282368, hS282369, p282370, p282371, p282372, p282373, p282374, x282375, hr_v282190⟩ := hI282362
                  refine W_seq ?_
                  refine W_region ?_
                  refine WL_step rfl rfl (Exec.lss rfl x282375 p282374 ?_)
                  refine WL_nil (at_normal ?_)
                  refine W_seq ?_
                  refine W_true (congrArg Value.bool (decide_eq_true (by omega))) ?_
                  refine W_skip (at_normal ?_)
                  refine W_seq ?_
                  refine W_block ?_
                  refine W_seq ?_
                  refine W_region ?_
                  obtain ⟨x282388, q282389, hm282363⟩ := bind_some hm282363
                  refine WL_step rfl rfl (Exec.index_rep S22 rfl p282373 x282375 (a4.mono (PHeap.le.trans (PHeap.le.trans (PHeap.le.trans l282028 l282076) l282097) l282368)) q282389 ?_)
                  intro b282390 o282391 a282392
                  refine WL_step rfl rfl (Exec.load_at (E := encBound) hS282369 A32 rfl rfl rfl a282392 ?_)
                  intro v282393 q282394
                  obtain rfl := encBound_val.1 q282394
                  refine WL_step rfl rfl (Exec.alloc (cs := [Value.int .i64 (0), Value.int .i64 (0), Value.int .i64 (0)]) hS282369 Z32 rfl rfl ?_)
                  intro b282395 w282396 hS282397
                  refine WL_step rfl rfl (Exec.store_box (ds := [Value.int .i64 (x282388.A), Value.int .i64 (x282388.B), Value.int .i64 (x282388.Most)]) (es := [Value.int .i64 (x282388.A), Value.int .i64 (x282388.B), Value.int .i64 (x282388.Most)]) hS282397 A32 rfl rfl rfl rfl (one_cons rfl (one_cons rfl (one_cons rfl one_nil))) (Nat.le_of_ble_eq_true rfl) rfl ?_)
                  intro w282398 hS282399
                  refine WL_nil (at_normal ?_)
                  refine W_seq ?_
                  refine W_region ?_
                  refine WL_step rfl rfl (Exec.move (v := Value.int .i64 (n1)) rfl p282370 ?_)
                  refine WL_step rfl rfl (Exec.move (v := v282190) rfl p282372 ?_)
                  refine WL_step rfl rfl (Exec.load_box_agg (ds := [Value.int .i64 (x282388.A), Value.int .i64 (x282388.B), Value.int .i64 (x282388.Most)]) (hS282399) A32 rfl rfl rfl ?_)
                  obtain ⟨t282410, q282411, hm282363⟩ := bind_some hm282363
                  obtain ⟨y282412, y282413⟩ := t282410
                  replace hm282363 := un2_eq hm282363
                  refine WL_step rfl rfl (Exec.call rfl rfl Try.func12 rfl N12 (args_cons rfl (args_cons rfl (args_cons rfl args_nil))) ((ref54_Add_sim q282411 hS282399 hr_v282190).mono ?_))
                  rintro _ w282414 ⟨_, rfl, ⟨s282415, v282418, l282416, hS282417, rfl, r282419⟩⟩
                  refine ⟨_, rfl, ?_⟩
                  refine WL_step rfl rfl (Exec.move (v := Value.tuple #[v282418, Value.int .i64 (y282413)]) rfl rfl ?_)
                  refine WL_step rfl rfl (Exec.extract (v := v282418) rfl rfl rfl ?_)
                  refine WL_step rfl rfl (Exec.extract (v := Value.int .i64 (y282413)) rfl rfl rfl ?_)
                  refine WL_step rfl rfl (Exec.assign (v := v282418) rfl rfl ?_)
                  refine WL_step rfl rfl (Exec.assign (v := Value.int .i64 (y282413)) rfl rfl ?_)
                  refine WL_nil (at_normal ?_)
                  refine W_seq ?_
                  refine W_seq ?_
                  refine W_region ?_
                  refine WL_step rfl rfl (Exec.move (v := Value.pointer (some ⟨v282078, 0, none⟩)) rfl p282371 ?_)
                  refine WL_step rfl rfl (Exec.load_box_agg (ds := [Value.int .i64 (x282388.A), Value.int .i64 (x282388.B), Value.int .i64 (x282388.Most)]) (hS282417) A32 rfl rfl rfl ?_)
                  obtain ⟨t282434, q282435, hm282363⟩ := bind_some hm282363
                  obtain ⟨y282436, l282437⟩ := t282434
                  replace hm282363 := un2_eq hm282363
                  have hS282438 := ((hS282417).f3).f3
                  have hS282439 := (hS282438).f3
                  refine WL_step rfl rfl (Exec.call rfl rfl Try.func14 rfl N14 (args_cons rfl (args_cons rfl args_nil)) ((stn_Network_Add_sim q282435 hS282439 ).mono ?_))
                  rintro _ w282440 ⟨_, rfl, ⟨s282441, l282442, hS282443, rfl⟩⟩
                  refine ⟨_, rfl, ?_⟩
                  refine WL_step rfl rfl (Exec.call rfl rfl Try.func13 rfl N13 (args_cons rfl args_nil) ((base_Num_sim (base_Num_tot y282436) hS282443 ).mono ?_))
                  rintro _ w282444 ⟨_, rfl, ⟨s282445, l282446, hS282447, rfl⟩⟩
                  refine ⟨_, rfl, ?_⟩
                  refine WL_step rfl rfl (Exec.move (v := Value.int .i64 (y282413)) rfl rfl ?_)
                  refine WL_step rfl rfl (Exec.neq rfl rfl rfl ?_)
                  refine WL_nil (at_normal ?_)
                  rcases ite_some hm282363 with ⟨hc282448, hm282363⟩ | ⟨hc282448, hm282363⟩
                  · refine W_cond_t rfl hc282448 ?_
                    refine W_seq ?_
                    refine W_region ?_
                    refine WL_step rfl rfl (Exec.assign (v := Value.bool (false)) rfl rfl ?_)
                    refine WL_nil (at_normal ?_)
                    refine W_ret (at_ret (ib_ret (at_ret (at_ret (ib_ret (at_ret (at_ret ?_)))))))
                    have e282449 := Option.some.inj hm282363
                    subst c282359
                    have hq282450 := hr282351 _ (hres282364 (by intro _ h; cases h))
                    have e282451 := Option.some.inj hq282450
                    subst r
                    refine ⟨_, ret1 rfl, ?_⟩
                    have hS282452 := (hS282447).drop
                    have hS282453 := ((hS282452).drop).drop
                    have hS282454 := (hS282453).drop
                    exact ⟨s282445, (PHeap.le.trans (PHeap.le.trans (PHeap.le.trans (PHeap.le.trans (PHeap.le.trans (PHeap.le.trans l282028 l282076) l282097) l282368) l282416) l282442) l282446), hS282454, rfl⟩
                  · refine W_cond_f rfl hc282448 ?_
                    replace hc282448 := not_true hc282448
                    refine W_skip (at_normal ?_)
                    refine W_region ?_
                    refine WL_step rfl rfl (Exec.move (v := v282418) rfl rfl ?_)
                    refine WL_step rfl rfl (Exec.assign (v := v282418) rfl rfl ?_)
                    refine WL_nil (ib_normal (at_normal ?_))
                    refine W_region ?_
                    refine WL_step rfl rfl (Exec.add rfl x282375 rfl ?_)
                    refine WL_step rfl rfl (Exec.move (v := Value.int .i64 (IntKind.i64.wrap ((i282114 : Int) + 1))) rfl rfl ?_)
                    refine WL_nil (at_normal ?_)
                    have e282455 := Option.some.inj hm282363
                    subst c282359
                    have hS282456 := ((hS282447).f3).drop
                    have hS282457 := ((hS282456).f2).f2
                    have hS282458 := (hS282457).f2
                    refine ⟨_, rfl, ?_⟩; exact ⟨s282445, v282418, (PHeap.le.trans (PHeap.le.trans (PHeap.le.trans l282368 l282416) l282442) l282446), hS282458, p282370, p282371, rfl, p282373, p282374, (Eq.trans rfl (wrap_up hi282366 (SliceRep.le (a4.mono (PHeap.le.trans (PHeap.le.trans l282028 l282076) l282097))))), (r282419.mono (PHeap.le.trans l282442 l282446))⟩
                · intro t282459 f282460 w282461 hI282462 hres282463
                  obtain ⟨l282189, l282191⟩ := t282459
                  obtain ⟨s282464, v282190, l282465, hS282466, p282467, p282468, p282469, p282470, p282471, x282472, hr_v282190⟩ := hI282462
                  refine W_seq ?_
                  refine W_region ?_
                  refine WL_step rfl rfl (Exec.lss rfl x282472 p282471 ?_)
                  refine WL_nil (at_normal ?_)
                  refine W_seq ?_
                  refine W_false (congrArg Value.bool (decide_eq_false (by omega))) ?_
                  refine W_exit (at_exit (at_exit (ib_here (at_normal ?_))))
                  have hS282473 := ((hS282466).f2).f2
                  have hS282474 := (hS282473).f2
                  refine ⟨_, .inl hres282463, ?_⟩; exact ⟨s282464, v282190, l282465, hS282474, p282467, p282468, p282469, p282470, p282471, hr_v282190⟩
              · rintro f282475 w282476 ⟨t282477, hc282478, hM282479⟩
                have hm := hc282478.elim (hn282352 _) (hb282353 _)
                clear hc282478
                obtain ⟨l282346, l282347⟩ := t282477
                replace hm := un2_eq hm
                obtain ⟨s282480, v282348, l282481, hS282482, p282483, p282484, p282485, p282486, p282487, hr_v282348⟩ := hM282479
                refine (at_normal ?_)
                refine W_seq ?_
                refine W_region ?_
                refine WL_step rfl rfl (Exec.move (v := Value.pointer (some ⟨v282078, 0, none⟩)) rfl p282484 ?_)
                refine WL_step rfl rfl (Exec.move (v := Value.int .i64 (n1)) rfl p282483 ?_)
                obtain ⟨t282498, q282499, hm⟩ := bind_some hm
                obtain ⟨y282500, y282501⟩ := t282498
                replace hm := un2_eq hm
                have hS282502 := ((hS282482).f2).f2
                have hS282503 := (hS282502).f2
                refine WL_step rfl rfl (Exec.call rfl rfl Try.func15 rfl N15 (args_cons rfl (args_cons rfl (args_cons rfl args_nil))) ((stn_Network_Distance_sim q282499 hS282503 ).mono ?_))
                rintro _ w282504 ⟨_, rfl, ⟨s282505, l282506, hS282507, rfl⟩⟩
                refine ⟨_, rfl, ?_⟩
                refine WL_step rfl rfl (Exec.move (v := Value.tuple #[Value.int .i64 (y282500), errV 30 (y282501)]) rfl rfl ?_)
                refine WL_step rfl rfl (Exec.extract (v := Value.int .i64 (y282500)) rfl rfl rfl ?_)
                refine WL_step rfl rfl (Exec.extract (v := errV 30 (y282501)) rfl rfl rfl ?_)
                refine WL_step rfl rfl (Exec.assign (v := Value.int .i64 (y282500)) rfl rfl ?_)
                refine WL_step rfl rfl (Exec.assign (v := errV 30 (y282501)) rfl rfl ?_)
                refine WL_nil (at_normal ?_)
                refine W_seq ?_
                refine W_region ?_
                refine WL_step rfl rfl (Exec.move (v := Value.pointer (some ⟨v282078, 0, none⟩)) rfl p282484 ?_)
                obtain ⟨t282518, q282519, hm⟩ := bind_some hm
                obtain ⟨y282520, y282521⟩ := t282518
                replace hm := un2_eq hm
                have hS282522 := ((hS282507).f2).f2
                have hS282523 := (hS282522).f2
                refine WL_step rfl rfl (Exec.call rfl rfl Try.func16 rfl N16 (args_cons rfl (args_cons rfl args_nil)) ((stn_Network_Earliest_sim q282519 hS282523 ).mono ?_))
                rintro _ w282524 ⟨_, rfl, ⟨s282525, l282526, hS282527, rfl⟩⟩
                refine ⟨_, rfl, ?_⟩
                refine WL_step rfl rfl (Exec.move (v := Value.tuple #[Value.int .i64 (y282520), errV 30 (y282521)]) rfl rfl ?_)
                refine WL_step rfl rfl (Exec.extract (v := Value.int .i64 (y282520)) rfl rfl rfl ?_)
                refine WL_step rfl rfl (Exec.extract (v := errV 30 (y282521)) rfl rfl rfl ?_)
                refine WL_step rfl rfl (Exec.assign (v := Value.int .i64 (y282520)) rfl rfl ?_)
                refine WL_step rfl rfl (Exec.assign (v := errV 30 (y282521)) rfl rfl ?_)
                refine WL_nil (at_normal ?_)
                refine W_seq ?_
                refine W_region ?_
                refine WL_step rfl rfl (Exec.move (v := Value.pointer (some ⟨v282078, 0, none⟩)) rfl p282484 ?_)
                refine WL_step rfl rfl (Exec.move (v := Value.int .i64 (n1)) rfl p282483 ?_)
                obtain ⟨t282538, q282539, hm⟩ := bind_some hm
                obtain ⟨y282540, y282541⟩ := t282538
                replace hm := un2_eq hm
                have hS282542 := ((hS282527).f2).f2
                have hS282543 := (hS282542).f2
                refine WL_step rfl rfl (Exec.call rfl rfl Try.func17 rfl N17 (args_cons rfl (args_cons rfl args_nil)) ((stn_Network_Latest_sim q282539 hS282543 ).mono ?_))
                rintro _ w282544 ⟨_, rfl, ⟨s282545, l282546, hS282547, rfl⟩⟩
                refine ⟨_, rfl, ?_⟩
                refine WL_step rfl rfl (Exec.move (v := Value.tuple #[Value.int .i64 (y282540), errV 30 (y282541)]) rfl rfl ?_)
                refine WL_step rfl rfl (Exec.extract (v := Value.int .i64 (y282540)) rfl rfl rfl ?_)
                refine WL_step rfl rfl (Exec.extract (v := errV 30 (y282541)) rfl rfl rfl ?_)
                refine WL_step rfl rfl (Exec.assign (v := Value.int .i64 (y282540)) rfl rfl ?_)
                refine WL_step rfl rfl (Exec.assign (v := errV 30 (y282541)) rfl rfl ?_)
                refine WL_nil (at_normal ?_)
                refine W_seq ?_
                obtain ⟨z282572, ht282573, hm⟩ := bind_some hm
                refine W_mid (M := fun f' w' => (fun (z282572 : Bool) => ∃ (s282574 : PHeap) , PHeap.le s282545 s282574 ∧ St w0 s282574 (H) w' ∧ f' 4 = Value.bool (z282572)) z282572) ?_ ?_
                · refine W_region ?_
                  refine WL_step rfl rfl (Exec.move (v := Value.pointer (some ⟨v282078, 0, none⟩)) rfl p282484 ?_)
                  refine WL_step rfl rfl (Exec.move (v := Value.int .i64 (n1)) rfl p282483 ?_)
                  refine WL_step rfl rfl (Exec.move (v := v282348) rfl p282485 ?_)
                  obtain ⟨y282577, q282576, ht282573⟩ := bind_some ht282573
                  have hS282578 := ((hS282547).f2).f2
                  have hS282579 := (hS282578).f2
                  refine WL_step rfl rfl (Exec.call rfl rfl Try.func18 rfl N18 (args_cons rfl (args_cons rfl (args_cons rfl args_nil))) ((law54_is_sim q282576 hS282579 (hr_v282348.mono (PHeap.le.trans (PHeap.le.trans l282506 l282526) l282546))).mono ?_))
                  rintro _ w282580 ⟨_, rfl, ⟨s282581, l282582, hS282583, rfl⟩⟩
                  refine ⟨_, rfl, ?_⟩
                  refine WL_step rfl rfl (Exec.move (v := Value.bool (y282577)) rfl rfl ?_)
                  rcases ite_some ht282573 with ⟨hc282584, ht282573⟩ | ⟨hc282584, ht282573⟩
                  · refine WL_run rfl (yield_of rfl (congrArg Value.bool hc282584)) rfl (Exec.move (v := errV 30 (y282501)) rfl rfl ?_)
                    refine WL_run rfl (yield_of rfl (congrArg Value.bool hc282584)) rfl (Exec.call rfl rfl Try.func11 rfl N11 (args_cons rfl (args_cons rfl args_nil)) ((base_Is_sim (base_Is_tot y282501 1) hS282583 ).mono ?_))
                    rintro _ w282585 ⟨_, rfl, ⟨s282586, l282587, hS282588, rfl⟩⟩
                    refine ⟨_, rfl, ?_⟩
                    refine WL_step rfl rfl (Exec.pick_t (v := Value.bool ((base_Is_t y282501 1))) rfl (congrArg Value.bool hc282584) rfl ?_)
                    refine WL_step rfl rfl (Exec.move (v := Value.bool ((base_Is_t y282501 1))) rfl rfl ?_)
                    rcases ite_some ht282573 with ⟨hc282589, ht282573⟩ | ⟨hc282589, ht282573⟩
                    · refine WL_run rfl (yield_of rfl (congrArg Value.bool hc282589)) rfl (Exec.move (v := errV 30 (y282521)) rfl rfl ?_)
                      refine WL_run rfl (yield_of rfl (congrArg Value.bool hc282589)) rfl (Exec.call rfl rfl Try.func11 rfl N11 (args_cons rfl (args_cons rfl args_nil)) ((base_Is_sim (base_Is_tot y282521 1) hS282588 ).mono ?_))
                      rintro _ w282590 ⟨_, rfl, ⟨s282591, l282592, hS282593, rfl⟩⟩
                      refine ⟨_, rfl, ?_⟩
                      refine WL_step rfl rfl (Exec.pick_t (v := Value.bool ((base_Is_t y282521 1))) rfl (congrArg Value.bool hc282589) rfl ?_)
                      refine WL_step rfl rfl (Exec.move (v := Value.bool ((base_Is_t y282521 1))) rfl rfl ?_)
                      rcases ite_some ht282573 with ⟨hc282594, ht282573⟩ | ⟨hc282594, ht282573⟩
                      · refine WL_run rfl (yield_of rfl (congrArg Value.bool hc282594)) rfl (Exec.move (v := errV 30 (y282541)) rfl rfl ?_)
                        refine WL_run rfl (yield_of rfl (congrArg Value.bool hc282594)) rfl (Exec.call rfl rfl Try.func11 rfl N11 (args_cons rfl (args_cons rfl args_nil)) ((base_Is_sim (base_Is_tot y282541 1) hS282593 ).mono ?_))
                        rintro _ w282595 ⟨_, rfl, ⟨s282596, l282597, hS282598, rfl⟩⟩
                        refine ⟨_, rfl, ?_⟩
                        refine WL_step rfl rfl (Exec.pick_t (v := Value.bool ((base_Is_t y282541 1))) rfl (congrArg Value.bool hc282594) rfl ?_)
                        refine WL_step rfl rfl (Exec.assign (v := Value.bool ((base_Is_t y282541 1))) rfl rfl ?_)
                        refine WL_nil (at_normal ?_)
                        have e282599 := Option.some.inj ht282573
                        subst z282572
                        have hS282600 := (hS282598).drop
                        have hS282601 := ((hS282600).drop).drop
                        exact ⟨s282596, (PHeap.le.trans (PHeap.le.trans (PHeap.le.trans l282582 l282587) l282592) l282597), hS282601, rfl⟩
                      · replace hc282594 := not_true hc282594
                        refine WL_pass rfl (yield_of rfl (congrArg Value.bool hc282594)) rfl rfl ?_
                        refine WL_pass rfl (yield_of rfl (congrArg Value.bool hc282594)) rfl rfl ?_
                        refine WL_step rfl rfl (Exec.pick_f (v := Value.bool (false)) rfl (congrArg Value.bool hc282594) rfl ?_)
                        refine WL_step rfl rfl (Exec.assign (v := Value.bool (false)) rfl rfl ?_)
                        refine WL_nil (at_normal ?_)
                        have e282602 := Option.some.inj ht282573
                        subst z282572
                        have hS282603 := (hS282593).drop
                        have hS282604 := ((hS282603).drop).drop
                        exact ⟨s282591, (PHeap.le.trans (PHeap.le.trans l282582 l282587) l282592), hS282604, rfl⟩
                    · replace hc282589 := not_true hc282589
                      refine WL_pass rfl (yield_of rfl (congrArg Value.bool hc282589)) rfl rfl ?_
                      refine WL_pass rfl (yield_of rfl (congrArg Value.bool hc282589)) rfl rfl ?_
                      refine WL_step rfl rfl (Exec.pick_f (v := Value.bool (false)) rfl (congrArg Value.bool hc282589) rfl ?_)
                      refine WL_step rfl rfl (Exec.move (v := Value.bool (false)) rfl rfl ?_)
                      refine WL_pass rfl (yield_of rfl rfl) rfl rfl ?_
                      refine WL_pass rfl (yield_of rfl rfl) rfl rfl ?_
                      refine WL_step rfl rfl (Exec.pick_f (v := Value.bool (false)) rfl rfl rfl ?_)
                      refine WL_step rfl rfl (Exec.assign (v := Value.bool (false)) rfl rfl ?_)
                      refine WL_nil (at_normal ?_)
                      have e282605 := Option.some.inj ht282573
                      subst z282572
                      have hS282606 := (hS282588).drop
                      have hS282607 := ((hS282606).drop).drop
                      exact ⟨s282586, (PHeap.le.trans l282582 l282587), hS282607, rfl⟩
                  · replace hc282584 := not_true hc282584
                    refine WL_pass rfl (yield_of rfl (congrArg Value.bool hc282584)) rfl rfl ?_
                    refine WL_pass rfl (yield_of rfl (congrArg Value.bool hc282584)) rfl rfl ?_
                    refine WL_step rfl rfl (Exec.pick_f (v := Value.bool (false)) rfl (congrArg Value.bool hc282584) rfl ?_)
                    refine WL_step rfl rfl (Exec.move (v := Value.bool (false)) rfl rfl ?_)
                    refine WL_pass rfl (yield_of rfl rfl) rfl rfl ?_
                    refine WL_pass rfl (yield_of rfl rfl) rfl rfl ?_
                    refine WL_step rfl rfl (Exec.pick_f (v := Value.bool (false)) rfl rfl rfl ?_)
                    refine WL_step rfl rfl (Exec.move (v := Value.bool (false)) rfl rfl ?_)
                    refine WL_pass rfl (yield_of rfl rfl) rfl rfl ?_
                    refine WL_pass rfl (yield_of rfl rfl) rfl rfl ?_
                    refine WL_step rfl rfl (Exec.pick_f (v := Value.bool (false)) rfl rfl rfl ?_)
                    refine WL_step rfl rfl (Exec.assign (v := Value.bool (false)) rfl rfl ?_)
                    refine WL_nil (at_normal ?_)
                    have e282608 := Option.some.inj ht282573
                    subst z282572
                    have hS282609 := (hS282583).drop
                    have hS282610 := ((hS282609).drop).drop
                    exact ⟨s282581, l282582, hS282610, rfl⟩
                · intro f282611 w282612 hM282613
                  obtain ⟨s282614, l282615, hS282616, p282617⟩ := hM282613
                  refine (at_normal ?_)
                  refine W_ret ?_
                  have e282619 := Option.some.inj hm
                  subst r
                  refine ⟨_, ret1 rfl, ?_⟩
                  exact ⟨s282614, (PHeap.le.trans (PHeap.le.trans (PHeap.le.trans (PHeap.le.trans (PHeap.le.trans (PHeap.le.trans (PHeap.le.trans l282028 l282076) l282097) l282481) l282506) l282526) l282546) l282615), hS282616, p282617⟩
      · replace hm := optC_none hm
        refine WL_step rfl rfl (Exec.move (v := Value.tuple #[Value.pointer none, errV 30 (y282071)]) rfl rfl ?_)
        refine WL_step rfl rfl (Exec.extract (v := Value.pointer none) rfl rfl rfl ?_)
        refine WL_step rfl rfl (Exec.extract (v := errV 30 (y282071)) rfl rfl rfl ?_)
        refine WL_step rfl rfl (Exec.assign (v := Value.pointer none) rfl rfl ?_)
        refine WL_step rfl rfl (Exec.assign (v := errV 30 (y282071)) rfl rfl ?_)
        refine WL_nil (at_normal ?_)
        refine W_seq ?_
        refine W_seq ?_
        refine W_mid (M := fun f' w' => ∃ (s282621 : PHeap) , PHeap.le s282082 s282621 ∧ St w0 s282621 (H) w' ∧ f' 0 = Value.int .i64 (n1) ∧ f' 1 = v3 ∧ f' 5 = Value.pointer none ∧ f' 6 = errV 30 (y282071) ∧ f' 44 = Value.bool (((decide (n1 < 1)) || decide (128 < n1)))) ?_ ?_
        · refine W_region ?_
          refine WL_step rfl rfl (Exec.move (v := Value.int .i64 (n1)) rfl p282030 ?_)
          refine WL_step rfl rfl (Exec.lss rfl rfl rfl ?_)
          refine WL_step rfl rfl (Exec.move (v := Value.bool (decide (n1 < 1))) rfl rfl ?_)
          by_cases hc282622 : (decide (n1 < 1)) = true
          · refine WL_pass rfl (yield_of rfl (congrArg Value.bool hc282622)) rfl rfl ?_
            refine WL_pass rfl (yield_of rfl (congrArg Value.bool hc282622)) rfl rfl ?_
            refine WL_step rfl rfl (Exec.pick_t (v := Value.bool (true)) rfl (congrArg Value.bool hc282622) rfl ?_)
            refine WL_nil (at_normal ?_)
            exact ⟨s282082, (PHeap.le_refl _), hS282084, p282030, p282031, rfl, rfl, (congrArg Value.bool (or_t hc282622)).symm⟩
          · replace hc282622 := not_true hc282622
            refine WL_run rfl (yield_of rfl (congrArg Value.bool hc282622)) rfl (Exec.move (v := Value.int .i64 (n1)) rfl p282030 ?_)
            refine WL_run rfl (yield_of rfl (congrArg Value.bool hc282622)) rfl (Exec.gtr rfl rfl rfl ?_)
            refine WL_step rfl rfl (Exec.pick_f (v := Value.bool (decide (128 < n1))) rfl (congrArg Value.bool hc282622) rfl ?_)
            refine WL_nil (at_normal ?_)
            exact ⟨s282082, (PHeap.le_refl _), hS282084, p282030, p282031, rfl, rfl, (congrArg Value.bool (or_f hc282622)).symm⟩
        · intro f282623 w282624 hM282625
          obtain ⟨s282626, l282627, hS282628, p282629, p282630, p282631, p282632, p282633⟩ := hM282625
          refine (at_normal ?_)
          rcases ite_some hm with ⟨hc282634, hm⟩ | ⟨hc282634, hm⟩
          · refine W_cond_t p282633 hc282634 ?_
            refine W_seq ?_
            refine W_region ?_
            refine WL_step rfl rfl (Exec.move (v := Value.pointer none) rfl p282631 ?_)
            refine WL_step rfl rfl (Exec.ptr_eql_nil Try.underlying24 rfl rfl rfl ?_)
            refine WL_step rfl rfl (Exec.move (v := Value.bool (true)) rfl rfl ?_)
            refine WL_run rfl (yield_of rfl rfl) rfl (Exec.move (v := errV 30 (y282071)) rfl p282632 ?_)
            refine WL_run rfl (yield_of rfl rfl) rfl (Exec.call rfl rfl Try.func11 rfl N11 (args_cons rfl (args_cons rfl args_nil)) ((base_Is_sim (base_Is_tot y282071 1) hS282628 ).mono ?_))
            rintro _ w282639 ⟨_, rfl, ⟨s282640, l282641, hS282642, rfl⟩⟩
            refine ⟨_, rfl, ?_⟩
            refine WL_step rfl rfl (Exec.pick_t (v := Value.bool ((base_Is_t y282071 1))) rfl rfl rfl ?_)
            refine WL_step rfl rfl (Exec.assign (v := Value.bool ((base_Is_t y282071 1))) rfl rfl ?_)
            refine WL_nil (at_normal ?_)
            refine W_ret (at_ret ?_)
            have e282644 := Option.some.inj hm
            subst r
            refine ⟨_, ret1 rfl, ?_⟩
            exact ⟨s282640, (PHeap.le.trans (PHeap.le.trans (PHeap.le.trans l282028 l282083) l282627) l282641), hS282642, rfl⟩
          · refine W_cond_f p282633 hc282634 ?_
            replace hc282634 := not_true hc282634
            refine W_skip (at_normal ?_)
            refine W_seq ?_
            refine W_seq ?_
            refine W_region ?_
            refine WL_step rfl rfl (Exec.move (v := errV 30 (y282071)) rfl p282632 ?_)
            refine WL_step rfl rfl (Exec.err_neq_nil (T := 30) Try.underlying26 rfl rfl rfl ?_)
            refine WL_nil (at_normal ?_)
            rcases ite_some hm with ⟨hc282645, hm⟩ | ⟨hc282645, hm⟩
            · refine W_cond_t rfl hc282645 ?_
              refine W_seq ?_
              refine W_region ?_
              refine WL_step rfl rfl (Exec.assign (v := Value.bool (false)) rfl rfl ?_)
              refine WL_nil (at_normal ?_)
              refine W_ret (at_ret ?_)
              have e282647 := Option.some.inj hm
              subst r
              refine ⟨_, ret1 rfl, ?_⟩
              exact ⟨s282626, (PHeap.le.trans (PHeap.le.trans l282028 l282083) l282627), hS282628, rfl⟩
            · refine W_cond_f rfl hc282645 ?_
              replace hc282645 := not_true hc282645
              refine W_skip (at_normal ?_)
              refine W_seq ?_
              refine W_region ?_
              refine WL_step rfl rfl (Exec.assign (v := Value.slice none 0 0) rfl rfl ?_)
              refine WL_nil (at_normal ?_)
              refine W_seq ?_
              refine W_seq ?_
              refine W_region ?_
              refine WL_step rfl rfl (Exec.move (v := v3) rfl p282630 ?_)
              refine WL_step rfl rfl (Exec.len_rep S22 rfl rfl (a4.mono (PHeap.le.trans (PHeap.le.trans l282028 l282083) l282627)) ?_)
              refine WL_step rfl rfl (Exec.move (v := Value.int .i64 (0)) rfl rfl ?_)
              refine WL_nil (at_normal ?_)
              obtain ⟨c282843, hB282844, hr282845, hn282846, hb282847⟩ := ctl_some hm
              refine W_mid (M := fun f' w' => ∃ s', (c282843 = .next s' ∨ c282843 = .brk s') ∧ (fun (l282841 : (List Bound)) => ∃ (s282849 : PHeap) (v282842 : Value), PHeap.le s282626 s282849 ∧ St w0 s282849 (H) w' ∧ f' 0 = Value.int .i64 (n1) ∧ f' 5 = Value.pointer none ∧ f' 7 = v282842 ∧ f' 53 = v3 ∧ f' 54 = Value.int .i64 ((bounds2.length : Int)) ∧ SliceRep encBound s282849 v282842 l282841) s') ?_ ?_
              · refine W_block (W_forC (fun k' s' f' w' => (fun (l282711 : (List Bound)) => ∃ (s282848 : PHeap) (v282712 : Value), PHeap.le s282626 s282848 ∧ St w0 s282848 (H) w' ∧ f' 0 = Value.int .i64 (n1) ∧ f' 5 = Value.pointer none ∧ f' 7 = v282712 ∧ f' 53 = v3 ∧ f' 54 = Value.int .i64 ((bounds2.length : Int)) ∧ f' 55 = Value.int .i64 (k' : Int) ∧ SliceRep encBound s282848 v282712 l282711) s') hB282844 ?_ ?_ ?_)
                · exact ⟨s282626, (Value.slice none 0 0), (PHeap.le_refl _), hS282628, p282629, p282631, rfl, rfl, rfl, rfl, (SliceRep.nil _ _)⟩
                · intro i282648 l282711 c282851 f282852 w282853 hi282857 hI282854 hm282855 hres282856
                  obtain ⟨s282858, v282712, l282859, hS282860, p282861, p282862, p282863, p282864, p282865, x282866, hr_v282712⟩ := hI282854
                  refine W_seq ?_
                  refine W_region ?_
                  refine WL_step rfl rfl (Exec.lss rfl x282866 p282865 ?_)
                  refine WL_nil (at_normal ?_)
                  refine W_seq ?_
                  refine W_true (congrArg Value.bool (decide_eq_true (by omega))) ?_
                  refine W_skip (at_normal ?_)
                  refine W_seq ?_
                  refine W_block ?_
                  refine W_seq ?_
                  refine W_region ?_
                  obtain ⟨x282879, q282880, hm282855⟩ := bind_some hm282855
                  refine WL_step rfl rfl (Exec.index_rep S22 rfl p282864 x282866 (a4.mono (PHeap.le.trans (PHeap.le.trans (PHeap.le.trans l282028 l282083) l282627) l282859)) q282880 ?_)
                  intro b282881 o282882 a282883
                  refine WL_step rfl rfl (Exec.load_at (E := encBound) hS282860 A32 rfl rfl rfl a282883 ?_)
                  intro v282884 q282885
                  obtain rfl := encBound_val.1 q282885
                  refine WL_step rfl rfl (Exec.alloc (cs := [Value.int .i64 (0), Value.int .i64 (0), Value.int .i64 (0)]) hS282860 Z32 rfl rfl ?_)
                  intro b282886 w282887 hS282888
                  refine WL_step rfl rfl (Exec.store_box (ds := [Value.int .i64 (x282879.A), Value.int .i64 (x282879.B), Value.int .i64 (x282879.Most)]) (es := [Value.int .i64 (x282879.A), Value.int .i64 (x282879.B), Value.int .i64 (x282879.Most)]) hS282888 A32 rfl rfl rfl rfl (one_cons rfl (one_cons rfl (one_cons rfl one_nil))) (Nat.le_of_ble_eq_true rfl) rfl ?_)
                  intro w282889 hS282890
                  refine WL_nil (at_normal ?_)
                  refine W_seq ?_
                  refine W_region ?_
                  refine WL_step rfl rfl (Exec.move (v := Value.int .i64 (n1)) rfl p282861 ?_)
                  refine WL_step rfl rfl (Exec.move (v := v282712) rfl p282863 ?_)
                  refine WL_step rfl rfl (Exec.load_box_agg (ds := [Value.int .i64 (x282879.A), Value.int .i64 (x282879.B), Value.int .i64 (x282879.Most)]) (hS282890) A32 rfl rfl rfl ?_)
                  obtain ⟨t282901, q282902, hm282855⟩ := bind_some hm282855
                  obtain ⟨y282903, y282904⟩ := t282901
                  replace hm282855 := un2_eq hm282855
                  refine WL_step rfl rfl (Exec.call rfl rfl Try.func12 rfl N12 (args_cons rfl (args_cons rfl (args_cons rfl args_nil))) ((ref54_Add_sim q282902 hS282890 hr_v282712).mono ?_))
                  rintro _ w282905 ⟨_, rfl, ⟨s282906, v282909, l282907, hS282908, rfl, r282910⟩⟩
                  refine ⟨_, rfl, ?_⟩
                  refine WL_step rfl rfl (Exec.move (v := Value.tuple #[v282909, Value.int .i64 (y282904)]) rfl rfl ?_)
                  refine WL_step rfl rfl (Exec.extract (v := v282909) rfl rfl rfl ?_)
                  refine WL_step rfl rfl (Exec.extract (v := Value.int .i64 (y282904)) rfl rfl rfl ?_)
                  refine WL_step rfl rfl (Exec.assign (v := v282909) rfl rfl ?_)
                  refine WL_step rfl rfl (Exec.assign (v := Value.int .i64 (y282904)) rfl rfl ?_)
                  refine WL_nil (at_normal ?_)
                  refine W_seq ?_
                  refine W_seq ?_
                  refine W_region ?_
                  refine WL_step rfl rfl (Exec.move (v := Value.pointer none) rfl p282862 ?_)
                  refine WL_step rfl rfl (Exec.load_box_agg (ds := [Value.int .i64 (x282879.A), Value.int .i64 (x282879.B), Value.int .i64 (x282879.Most)]) (hS282908) A32 rfl rfl rfl ?_)
                  refine WL_step rfl rfl (Exec.call rfl rfl Try.func14 rfl N14 (args_cons rfl (args_cons rfl args_nil)) ((stn_Network_Add_nil_sim (stn_Network_Add_nil_tot x282879) hS282908 ).mono ?_))
                  rintro _ w282919 ⟨_, rfl, ⟨s282920, l282921, hS282922, rfl⟩⟩
                  refine ⟨_, rfl, ?_⟩
                  refine WL_step rfl rfl (Exec.call rfl rfl Try.func13 rfl N13 (args_cons rfl args_nil) ((base_Num_sim (base_Num_tot (stn_Network_Add_nil_t x282879)) hS282922 ).mono ?_))
                  rintro _ w282923 ⟨_, rfl, ⟨s282924, l282925, hS282926, rfl⟩⟩
                  refine ⟨_, rfl, ?_⟩
                  refine WL_step rfl rfl (Exec.move (v := Value.int .i64 (y282904)) rfl rfl ?_)
                  refine WL_step rfl rfl (Exec.neq rfl rfl rfl ?_)
                  refine WL_nil (at_normal ?_)
                  rcases ite_some hm282855 with ⟨hc282927, hm282855⟩ | ⟨hc282927, hm282855⟩
                  · refine W_cond_t rfl hc282927 ?_
                    refine W_seq ?_
                    refine W_region ?_
                    refine WL_step rfl rfl (Exec.assign (v := Value.bool (false)) rfl rfl ?_)
                    refine WL_nil (at_normal ?_)
                    refine W_ret (at_ret (ib_ret (at_ret (at_ret (ib_ret (at_ret (at_ret ?_)))))))
                    have e282928 := Option.some.inj hm282855
                    subst c282851
                    have hq282929 := hr282845 _ (hres282856 (by intro _ h; cases h))
                    have e282930 := Option.some.inj hq282929
                    subst r
                    refine ⟨_, ret1 rfl, ?_⟩
                    have hS282931 := (hS282926).drop
                    exact ⟨s282924, (PHeap.le.trans (PHeap.le.trans (PHeap.le.trans (PHeap.le.trans (PHeap.le.trans (PHeap.le.trans l282028 l282083) l282627) l282859) l282907) l282921) l282925), hS282931, rfl⟩
                  · refine W_cond_f rfl hc282927 ?_
                    replace hc282927 := not_true hc282927
                    refine W_skip (at_normal ?_)
                    refine W_region ?_
                    refine WL_step rfl rfl (Exec.move (v := v282909) rfl rfl ?_)
                    refine WL_step rfl rfl (Exec.assign (v := v282909) rfl rfl ?_)
                    refine WL_nil (ib_normal (at_normal ?_))
                    refine W_region ?_
                    refine WL_step rfl rfl (Exec.add rfl x282866 rfl ?_)
                    refine WL_step rfl rfl (Exec.move (v := Value.int .i64 (IntKind.i64.wrap ((i282648 : Int) + 1))) rfl rfl ?_)
                    refine WL_nil (at_normal ?_)
                    have e282932 := Option.some.inj hm282855
                    subst c282851
                    have hS282933 := (hS282926).drop
                    refine ⟨_, rfl, ?_⟩; exact ⟨s282924, v282909, (PHeap.le.trans (PHeap.le.trans (PHeap.le.trans l282859 l282907) l282921) l282925), hS282933, p282861, p282862, rfl, p282864, p282865, (Eq.trans rfl (wrap_up hi282857 (SliceRep.le (a4.mono (PHeap.le.trans (PHeap.le.trans l282028 l282083) l282627))))), (r282910.mono (PHeap.le.trans l282921 l282925))⟩
                · intro l282711 f282934 w282935 hI282936 hres282937
                  obtain ⟨s282938, v282712, l282939, hS282940, p282941, p282942, p282943, p282944, p282945, x282946, hr_v282712⟩ := hI282936
                  refine W_seq ?_
                  refine W_region ?_
                  refine WL_step rfl rfl (Exec.lss rfl x282946 p282945 ?_)
                  refine WL_nil (at_normal ?_)
                  refine W_seq ?_
                  refine W_false (congrArg Value.bool (decide_eq_false (by omega))) ?_
                  refine W_exit (at_exit (at_exit (ib_here (at_normal ?_))))
                  refine ⟨_, .inl hres282937, ?_⟩; exact ⟨s282938, v282712, l282939, hS282940, p282941, p282942, p282943, p282944, p282945, hr_v282712⟩
              · rintro f282947 w282948 ⟨l282841, hc282949, hM282950⟩
                have hm := hc282949.elim (hn282846 _) (hb282847 _)
                clear hc282949
                obtain ⟨s282951, v282842, l282952, hS282953, p282954, p282955, p282956, p282957, p282958, hr_v282842⟩ := hM282950
                refine (at_normal ?_)
                refine W_seq ?_
                refine W_region ?_
                refine WL_step rfl rfl (Exec.move (v := Value.pointer none) rfl p282955 ?_)
                refine WL_step rfl rfl (Exec.move (v := Value.int .i64 (n1)) rfl p282954 ?_)
                refine WL_step rfl rfl (Exec.call rfl rfl Try.func15 rfl N15 (args_cons rfl (args_cons rfl (args_cons rfl args_nil))) ((stn_Network_Distance_nil_sim (stn_Network_Distance_nil_tot 0 n1) hS282953 ).mono ?_))
                rintro _ w282963 ⟨_, rfl, ⟨s282964, l282965, hS282966, rfl⟩⟩
                refine ⟨_, rfl, ?_⟩
                refine WL_step rfl rfl (Exec.move (v := Value.tuple #[Value.int .i64 ((stn_Network_Distance_nil_t 0 n1).1), errV 30 ((stn_Network_Distance_nil_t 0 n1).2)]) rfl rfl ?_)
                refine WL_step rfl rfl (Exec.extract (v := Value.int .i64 ((stn_Network_Distance_nil_t 0 n1).1)) rfl rfl rfl ?_)
                refine WL_step rfl rfl (Exec.extract (v := errV 30 ((stn_Network_Distance_nil_t 0 n1).2)) rfl rfl rfl ?_)
                refine WL_step rfl rfl (Exec.assign (v := Value.int .i64 ((stn_Network_Distance_nil_t 0 n1).1)) rfl rfl ?_)
                refine WL_step rfl rfl (Exec.assign (v := errV 30 ((stn_Network_Distance_nil_t 0 n1).2)) rfl rfl ?_)
                refine WL_nil (at_normal ?_)
                refine W_seq ?_
                refine W_region ?_
                refine WL_step rfl rfl (Exec.move (v := Value.pointer none) rfl p282955 ?_)
                refine WL_step rfl rfl (Exec.call rfl rfl Try.func16 rfl N16 (args_cons rfl (args_cons rfl args_nil)) ((stn_Network_Earliest_nil_sim (stn_Network_Earliest_nil_tot (-1)) hS282966 ).mono ?_))
                rintro _ w282971 ⟨_, rfl, ⟨s282972, l282973, hS282974, rfl⟩⟩
                refine ⟨_, rfl, ?_⟩
                refine WL_step rfl rfl (Exec.move (v := Value.tuple #[Value.int .i64 ((stn_Network_Earliest_nil_t (-1)).1), errV 30 ((stn_Network_Earliest_nil_t (-1)).2)]) rfl rfl ?_)
                refine WL_step rfl rfl (Exec.extract (v := Value.int .i64 ((stn_Network_Earliest_nil_t (-1)).1)) rfl rfl rfl ?_)
                refine WL_step rfl rfl (Exec.extract (v := errV 30 ((stn_Network_Earliest_nil_t (-1)).2)) rfl rfl rfl ?_)
                refine WL_step rfl rfl (Exec.assign (v := Value.int .i64 ((stn_Network_Earliest_nil_t (-1)).1)) rfl rfl ?_)
                refine WL_step rfl rfl (Exec.assign (v := errV 30 ((stn_Network_Earliest_nil_t (-1)).2)) rfl rfl ?_)
                refine WL_nil (at_normal ?_)
                refine W_seq ?_
                refine W_region ?_
                refine WL_step rfl rfl (Exec.move (v := Value.pointer none) rfl p282955 ?_)
                refine WL_step rfl rfl (Exec.move (v := Value.int .i64 (n1)) rfl p282954 ?_)
                refine WL_step rfl rfl (Exec.call rfl rfl Try.func17 rfl N17 (args_cons rfl (args_cons rfl args_nil)) ((stn_Network_Latest_nil_sim (stn_Network_Latest_nil_tot n1) hS282974 ).mono ?_))
                rintro _ w282979 ⟨_, rfl, ⟨s282980, l282981, hS282982, rfl⟩⟩
                refine ⟨_, rfl, ?_⟩
                refine WL_step rfl rfl (Exec.move (v := Value.tuple #[Value.int .i64 ((stn_Network_Latest_nil_t n1).1), errV 30 ((stn_Network_Latest_nil_t n1).2)]) rfl rfl ?_)
                refine WL_step rfl rfl (Exec.extract (v := Value.int .i64 ((stn_Network_Latest_nil_t n1).1)) rfl rfl rfl ?_)
                refine WL_step rfl rfl (Exec.extract (v := errV 30 ((stn_Network_Latest_nil_t n1).2)) rfl rfl rfl ?_)
                refine WL_step rfl rfl (Exec.assign (v := Value.int .i64 ((stn_Network_Latest_nil_t n1).1)) rfl rfl ?_)
                refine WL_step rfl rfl (Exec.assign (v := errV 30 ((stn_Network_Latest_nil_t n1).2)) rfl rfl ?_)
                refine WL_nil (at_normal ?_)
                refine W_seq ?_
                obtain ⟨z283005, ht283006, hm⟩ := bind_some hm
                refine W_mid (M := fun f' w' => (fun (z283005 : Bool) => ∃ (s283007 : PHeap) , PHeap.le s282980 s283007 ∧ St w0 s283007 (H) w' ∧ f' 4 = Value.bool (z283005)) z283005) ?_ ?_
                · refine W_region ?_
                  refine WL_step rfl rfl (Exec.move (v := Value.pointer none) rfl p282955 ?_)
                  refine WL_step rfl rfl (Exec.move (v := Value.int .i64 (n1)) rfl p282954 ?_)
                  refine WL_step rfl rfl (Exec.move (v := v282842) rfl p282956 ?_)
                  obtain ⟨y283010, q283009, ht283006⟩ := bind_some ht283006
                  refine WL_step rfl rfl (Exec.call rfl rfl Try.func18 rfl N18 (args_cons rfl (args_cons rfl (args_cons rfl args_nil))) ((law54_is_nil_sim q283009 hS282982 (hr_v282842.mono (PHeap.le.trans (PHeap.le.trans l282965 l282973) l282981))).mono ?_))
                  rintro _ w283011 ⟨_, rfl, ⟨s283012, l283013, hS283014, rfl⟩⟩
                  refine ⟨_, rfl, ?_⟩
                  refine WL_step rfl rfl (Exec.move (v := Value.bool (y283010)) rfl rfl ?_)
                  rcases ite_some ht283006 with ⟨hc283015, ht283006⟩ | ⟨hc283015, ht283006⟩
                  · refine WL_run rfl (yield_of rfl (congrArg Value.bool hc283015)) rfl (Exec.move (v := errV 30 ((stn_Network_Distance_nil_t 0 n1).2)) rfl rfl ?_)
                    refine WL_run rfl (yield_of rfl (congrArg Value.bool hc283015)) rfl (Exec.call rfl rfl Try.func11 rfl N11 (args_cons rfl (args_cons rfl args_nil)) ((base_Is_sim (base_Is_tot ((stn_Network_Distance_nil_t 0 n1).2) 1) hS283014 ).mono ?_))
                    rintro _ w283016 ⟨_, rfl, ⟨s283017, l283018, hS283019, rfl⟩⟩
                    refine ⟨_, rfl, ?_⟩
                    refine WL_step rfl rfl (Exec.pick_t (v := Value.bool ((base_Is_t ((stn_Network_Distance_nil_t 0 n1).2) 1))) rfl (congrArg Value.bool hc283015) rfl ?_)
                    refine WL_step rfl rfl (Exec.move (v := Value.bool ((base_Is_t ((stn_Network_Distance_nil_t 0 n1).2) 1))) rfl rfl ?_)
                    rcases ite_some ht283006 with ⟨hc283020, ht283006⟩ | ⟨hc283020, ht283006⟩
                    · refine WL_run rfl (yield_of rfl (congrArg Value.bool hc283020)) rfl (Exec.move (v := errV 30 ((stn_Network_Earliest_nil_t (-1)).2)) rfl rfl ?_)
                      refine WL_run rfl (yield_of rfl (congrArg Value.bool hc283020)) rfl (Exec.call rfl rfl Try.func11 rfl N11 (args_cons rfl (args_cons rfl args_nil)) ((base_Is_sim (base_Is_tot ((stn_Network_Earliest_nil_t (-1)).2) 1) hS283019 ).mono ?_))
                      rintro _ w283021 ⟨_, rfl, ⟨s283022, l283023, hS283024, rfl⟩⟩
                      refine ⟨_, rfl, ?_⟩
                      refine WL_step rfl rfl (Exec.pick_t (v := Value.bool ((base_Is_t ((stn_Network_Earliest_nil_t (-1)).2) 1))) rfl (congrArg Value.bool hc283020) rfl ?_)
                      refine WL_step rfl rfl (Exec.move (v := Value.bool ((base_Is_t ((stn_Network_Earliest_nil_t (-1)).2) 1))) rfl rfl ?_)
                      rcases ite_some ht283006 with ⟨hc283025, ht283006⟩ | ⟨hc283025, ht283006⟩
                      · refine WL_run rfl (yield_of rfl (congrArg Value.bool hc283025)) rfl (Exec.move (v := errV 30 ((stn_Network_Latest_nil_t n1).2)) rfl rfl ?_)
                        refine WL_run rfl (yield_of rfl (congrArg Value.bool hc283025)) rfl (Exec.call rfl rfl Try.func11 rfl N11 (args_cons rfl (args_cons rfl args_nil)) ((base_Is_sim (base_Is_tot ((stn_Network_Latest_nil_t n1).2) 1) hS283024 ).mono ?_))
                        rintro _ w283026 ⟨_, rfl, ⟨s283027, l283028, hS283029, rfl⟩⟩
                        refine ⟨_, rfl, ?_⟩
                        refine WL_step rfl rfl (Exec.pick_t (v := Value.bool ((base_Is_t ((stn_Network_Latest_nil_t n1).2) 1))) rfl (congrArg Value.bool hc283025) rfl ?_)
                        refine WL_step rfl rfl (Exec.assign (v := Value.bool ((base_Is_t ((stn_Network_Latest_nil_t n1).2) 1))) rfl rfl ?_)
                        refine WL_nil (at_normal ?_)
                        have e283030 := Option.some.inj ht283006
                        subst z283005
                        exact ⟨s283027, (PHeap.le.trans (PHeap.le.trans (PHeap.le.trans l283013 l283018) l283023) l283028), hS283029, rfl⟩
                      · replace hc283025 := not_true hc283025
                        refine WL_pass rfl (yield_of rfl (congrArg Value.bool hc283025)) rfl rfl ?_
                        refine WL_pass rfl (yield_of rfl (congrArg Value.bool hc283025)) rfl rfl ?_
                        refine WL_step rfl rfl (Exec.pick_f (v := Value.bool (false)) rfl (congrArg Value.bool hc283025) rfl ?_)
                        refine WL_step rfl rfl (Exec.assign (v := Value.bool (false)) rfl rfl ?_)
                        refine WL_nil (at_normal ?_)
                        have e283031 := Option.some.inj ht283006
                        subst z283005
                        exact ⟨s283022, (PHeap.le.trans (PHeap.le.trans l283013 l283018) l283023), hS283024, rfl⟩
                    · replace hc283020 := not_true hc283020
                      refine WL_pass rfl (yield_of rfl (congrArg Value.bool hc283020)) rfl rfl ?_
                      refine WL_pass rfl (yield_of rfl (congrArg Value.bool hc283020)) rfl rfl ?_
                      refine WL_step rfl rfl (Exec.pick_f (v := Value.bool (false)) rfl (congrArg Value.bool hc283020) rfl ?_)
                      refine WL_step rfl rfl (Exec.move (v := Value.bool (false)) rfl rfl ?_)
                      refine WL_pass rfl (yield_of rfl rfl) rfl rfl ?_
                      refine WL_pass rfl (yield_of rfl rfl) rfl rfl ?_
                      refine WL_step rfl rfl (Exec.pick_f (v := Value.bool (false)) rfl rfl rfl ?_)
                      refine WL_step rfl rfl (Exec.assign (v := Value.bool (false)) rfl rfl ?_)
                      refine WL_nil (at_normal ?_)
                      have e283032 := Option.some.inj ht283006
                      subst z283005
                      exact ⟨s283017, (PHeap.le.trans l283013 l283018), hS283019, rfl⟩
                  · replace hc283015 := not_true hc283015
                    refine WL_pass rfl (yield_of rfl (congrArg Value.bool hc283015)) rfl rfl ?_
                    refine WL_pass rfl (yield_of rfl (congrArg Value.bool hc283015)) rfl rfl ?_
                    refine WL_step rfl rfl (Exec.pick_f (v := Value.bool (false)) rfl (congrArg Value.bool hc283015) rfl ?_)
                    refine WL_step rfl rfl (Exec.move (v := Value.bool (false)) rfl rfl ?_)
                    refine WL_pass rfl (yield_of rfl rfl) rfl rfl ?_
                    refine WL_pass rfl (yield_of rfl rfl) rfl rfl ?_
                    refine WL_step rfl rfl (Exec.pick_f (v := Value.bool (false)) rfl rfl rfl ?_)
                    refine WL_step rfl rfl (Exec.move (v := Value.bool (false)) rfl rfl ?_)
                    refine WL_pass rfl (yield_of rfl rfl) rfl rfl ?_
                    refine WL_pass rfl (yield_of rfl rfl) rfl rfl ?_
                    refine WL_step rfl rfl (Exec.pick_f (v := Value.bool (false)) rfl rfl rfl ?_)
                    refine WL_step rfl rfl (Exec.assign (v := Value.bool (false)) rfl rfl ?_)
                    refine WL_nil (at_normal ?_)
                    have e283033 := Option.some.inj ht283006
                    subst z283005
                    exact ⟨s283012, l283013, hS283014, rfl⟩
                · intro f283034 w283035 hM283036
                  obtain ⟨s283037, l283038, hS283039, p283040⟩ := hM283036
                  refine (at_normal ?_)
                  refine W_ret ?_
                  have e283042 := Option.some.inj hm
                  subst r
                  refine ⟨_, ret1 rfl, ?_⟩
                  exact ⟨s283037, (PHeap.le.trans (PHeap.le.trans (PHeap.le.trans (PHeap.le.trans (PHeap.le.trans (PHeap.le.trans (PHeap.le.trans l282028 l282083) l282627) l282952) l282965) l282973) l282981) l283038), hS283039, p283040⟩

end Go.Pw
