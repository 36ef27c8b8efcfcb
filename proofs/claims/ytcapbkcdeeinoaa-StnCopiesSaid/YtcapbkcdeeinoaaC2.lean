/-
  The walks (printed by my generator).
-/
import Derived.Test.YtcapbkcdeeinoaaC1
set_option maxRecDepth 100000
set_option linter.unusedVariables false
namespace Go.Pw
open Go.Proofs
theorem law54_is_sim {w0 w : World} {s : PHeap} {H : List Res} {x150252 : stn_Network} {n150256 : Int} {bounds150257 : (List Bound)} {b150253 : Nat} {v150254 : Value} {hs150255 : List Value} {v150258 : Value} {r : Bool} (hm : law54_is_p x150252 n150256 bounds150257 = some r) (hS : St w0 s (Res.box b150253 63 [v150254] :: Res.arr encRaw 49 v150254 hs150255 :: Res.rows (encInt .i64) 3 hs150255 x150252.d :: H) w) (a150259 : SliceRep encBound s v150258 bounds150257) :
    Calls Try.prog 18 #[Value.pointer (some ⟨b150253, 0, none⟩), Value.int .i64 (n150256), v150258] w fun e w' => ∃ v, e = .returned v ∧ ((fun (y275921 : Bool) => ∃ (s275922 : PHeap) , PHeap.le s s275922 ∧ St w0 s275922 (Res.box b150253 63 [v150254] :: Res.arr encRaw 49 v150254 hs150255 :: Res.rows (encInt .i64) 3 hs150255 x150252.d :: H) w' ∧ v = Value.bool (y275921)) r) := by
  unfold law54_is_p at hm
  refine calls_of_W Try.func18 rfl rfl ?_
  refine W_seq ?_
  refine W_region ?_
  refine WL_step rfl rfl (Exec.assign (v := Value.bool (false)) rfl rfl ?_)
  refine WL_nil (at_normal ?_)
  refine W_seq ?_
  refine W_region ?_
  refine WL_step rfl rfl (Exec.move (v := Value.int .i64 (n150256)) rfl rfl ?_)
  refine WL_step rfl rfl (Exec.move (v := v150258) rfl rfl ?_)
  obtain ⟨t275933, q275934, hm⟩ := bind_some hm
  obtain ⟨y275935, y275936⟩ := t275933
  replace hm := un2_eq hm
  refine WL_step rfl rfl (Exec.call rfl rfl Try.func25 rfl N25 (args_cons rfl (args_cons rfl args_nil)) ((ref54_Distances_sim q275934 hS a150259).mono ?_))
  rintro _ w275937 ⟨_, rfl, ⟨s275938, v275941, l275939, hS275940, rfl, r275942⟩⟩
  refine ⟨_, rfl, ?_⟩
  refine WL_step rfl rfl (Exec.move (v := Value.tuple #[v275941, Value.bool (y275936)]) rfl rfl ?_)
  refine WL_step rfl rfl (Exec.extract (v := v275941) rfl rfl rfl ?_)
  refine WL_step rfl rfl (Exec.extract (v := Value.bool (y275936)) rfl rfl rfl ?_)
  refine WL_step rfl rfl (Exec.assign (v := v275941) rfl rfl ?_)
  refine WL_step rfl rfl (Exec.assign (v := Value.bool (y275936)) rfl rfl ?_)
  refine WL_nil (at_normal ?_)
  refine W_seq ?_
  refine W_seq ?_
  refine W_region ?_
  refine WL_step rfl rfl (Exec.move (v := Value.bool (y275936)) rfl rfl ?_)
  refine WL_step rfl rfl (Exec.not rfl rfl ?_)
  refine WL_nil (at_normal ?_)
  rcases ite_some hm with ⟨hc275943, hm⟩ | ⟨hc275943, hm⟩
  · refine W_cond_t rfl hc275943 ?_
    refine W_seq ?_
    refine W_region ?_
    refine WL_step rfl rfl (Exec.assign (v := Value.bool (false)) rfl rfl ?_)
    refine WL_nil (at_normal ?_)
    refine W_ret (at_ret ?_)
    have e275945 := Option.some.inj hm
    subst r
    refine ⟨_, ret1 rfl, ?_⟩
    have hS275946 := ((hS275940).f2).f2
    have hS275947 := (hS275946).f2
    exact ⟨s275938, l275939, hS275947, rfl⟩
  · refine W_cond_f rfl hc275943 ?_
    replace hc275943 := not_true hc275943
    refine W_skip (at_normal ?_)
    refine W_seq ?_
    refine W_region ?_
    refine WL_step rfl rfl (Exec.assign (v := Value.slice none 0 0) rfl rfl ?_)
    refine WL_nil (at_normal ?_)
    refine W_seq ?_
    refine W_region ?_
    refine WL_step rfl rfl (Exec.assign (v := Value.bool (true)) rfl rfl ?_)
    refine WL_nil (at_normal ?_)
    refine W_seq ?_
    refine W_seq ?_
    refine W_region ?_
    refine WL_step rfl rfl (Exec.move (v := Value.int .i64 (n150256)) rfl rfl ?_)
    refine WL_step rfl rfl (Exec.move (v := Value.int .i64 (0)) rfl rfl ?_)
    refine WL_nil (at_normal ?_)
    obtain ⟨u275948, q275949, hm⟩ := bind_some hm
    obtain ⟨c278208, hB278209, hr278210, hn278211, hb278212⟩ := ctl_some hm
    refine W_mid (M := fun f' w' => ∃ s', (c278208 = .next s' ∨ c278208 = .brk s') ∧ (un2 fun (first278205 : (List Int)) (all278206 : Bool) => ∃ (s278214 : PHeap) (v278207 : Value), PHeap.le s275938 s278214 ∧ St w0 s278214 (Res.box b150253 63 [v150254] :: Res.arr encRaw 49 v150254 hs150255 :: Res.rows (encInt .i64) 3 hs150255 x150252.d :: Res.arr (encInt .i64) 3 v278207 first278205 :: H) w' ∧ f' 0 = Value.pointer (some ⟨b150253, 0, none⟩) ∧ f' 1 = Value.int .i64 (n150256) ∧ f' 7 = v275941 ∧ f' 9 = v278207 ∧ f' 10 = Value.bool (all278206) ∧ f' 28 = Value.int .i64 (n150256)) s') ?_ ?_
    · refine W_block (W_forC (fun k' s' f' w' => (un2 fun (first276696 : (List Int)) (all276698 : Bool) => ∃ (s278213 : PHeap) (v276697 : Value), PHeap.le s275938 s278213 ∧ St w0 s278213 (Res.box b150253 63 [v150254] :: Res.arr encRaw 49 v150254 hs150255 :: Res.rows (encInt .i64) 3 hs150255 x150252.d :: Res.arr (encInt .i64) 3 v276697 first276696 :: H) w' ∧ f' 0 = Value.pointer (some ⟨b150253, 0, none⟩) ∧ f' 1 = Value.int .i64 (n150256) ∧ f' 7 = v275941 ∧ f' 9 = v276697 ∧ f' 10 = Value.bool (all276698) ∧ f' 28 = Value.int .i64 (n150256) ∧ f' 29 = Value.int .i64 (k' : Int)) s') hB278209 ?_ ?_ ?_)
      · have hS278215 := hS275940.nilArr (encInt .i64) 3
        have hS278216 := ((hS278215).f3).f3
        have hS278217 := (hS278216).f3
        exact ⟨s275938, (Value.slice none 0 0), (PHeap.le_refl _), hS278217, rfl, rfl, rfl, rfl, rfl, rfl, rfl⟩
      · intro i275950 t278225 c278219 f278220 w278221 hi278226 hI278222 hm278223 hres278224
        obtain ⟨first276696, all276698⟩ := t278225
        replace hm278223 := un2_eq hm278223
        obtain ⟨s278227, v276697, l278228, hS278229, p278230, p278231, p278232, p278233, p278234, p278235, x278236⟩ := hI278222
        refine W_seq ?_
        refine W_region ?_
        refine WL_step rfl rfl (Exec.lss rfl x278236 p278235 ?_)
        refine WL_nil (at_normal ?_)
        refine W_seq ?_
        refine W_true (congrArg Value.bool (decide_eq_true (by omega))) ?_
        refine W_skip (at_normal ?_)
        refine W_seq ?_
        refine W_block ?_
        refine W_seq ?_
        refine W_region ?_
        refine WL_step rfl rfl (Exec.move (v := Value.int .i64 ((i275950 : Int))) rfl x278236 ?_)
        refine WL_step rfl rfl (Exec.assign (v := Value.int .i64 ((i275950 : Int))) rfl rfl ?_)
        refine WL_nil (at_normal ?_)
        refine W_seq ?_
        refine W_seq ?_
        refine W_region ?_
        refine WL_step rfl rfl (Exec.move (v := Value.int .i64 (n150256)) rfl p278231 ?_)
        refine WL_step rfl rfl (Exec.move (v := Value.int .i64 (0)) rfl rfl ?_)
        refine WL_nil (at_normal ?_)
        obtain ⟨u278237, q278238, hm278223⟩ := bind_some hm278223
        obtain ⟨c278404, hB278405, hr278406, hn278407, hb278408⟩ := ctl_some hm278223
        refine W_mid (M := fun f' w' => ∃ s', (c278404 = .next s' ∨ c278404 = .brk s') ∧ (fun (_ : Unit) => ∃ (s278410 : PHeap) , PHeap.le s278227 s278410 ∧ St w0 s278410 (Res.box b150253 63 [v150254] :: Res.arr encRaw 49 v150254 hs150255 :: Res.rows (encInt .i64) 3 hs150255 x150252.d :: Res.arr (encInt .i64) 3 v276697 first276696 :: H) w' ∧ f' 0 = Value.pointer (some ⟨b150253, 0, none⟩) ∧ f' 1 = Value.int .i64 (n150256) ∧ f' 7 = v275941 ∧ f' 9 = v276697 ∧ f' 10 = Value.bool (all276698) ∧ f' 11 = Value.int .i64 ((i275950 : Int)) ∧ f' 28 = Value.int .i64 (n150256) ∧ f' 29 = Value.int .i64 ((i275950 : Int)) ∧ f' 32 = Value.int .i64 (n150256)) s') ?_ ?_
        · refine W_block (W_forC (fun k' s' f' w' => (fun (_ : Unit) => ∃ (s278409 : PHeap) , PHeap.le s278227 s278409 ∧ St w0 s278409 (Res.box b150253 63 [v150254] :: Res.arr encRaw 49 v150254 hs150255 :: Res.rows (encInt .i64) 3 hs150255 x150252.d :: Res.arr (encInt .i64) 3 v276697 first276696 :: H) w' ∧ f' 0 = Value.pointer (some ⟨b150253, 0, none⟩) ∧ f' 1 = Value.int .i64 (n150256) ∧ f' 7 = v275941 ∧ f' 9 = v276697 ∧ f' 10 = Value.bool (all276698) ∧ f' 11 = Value.int .i64 ((i275950 : Int)) ∧ f' 28 = Value.int .i64 (n150256) ∧ f' 29 = Value.int .i64 ((i275950 : Int)) ∧ f' 32 = Value.int .i64 (n150256) ∧ f' 33 = Value.int .i64 (k' : Int)) s') hB278405 ?_ ?_ ?_)
          · have hS278411 := (hS278229).f3
            have hS278412 := ((hS278411).f3).f3
            have hS278413 := (hS278412).f3
            exact ⟨s278227, (PHeap.le_refl _), hS278413, p278230, p278231, p278232, p278233, p278234, rfl, p278235, x278236, rfl, rfl⟩
          · intro i278239 t278421 c278415 f278416 w278417 hi278422 hI278418 hm278419 hres278420
            obtain ⟨s278423, l278424, hS278425, p278426, p278427, p278428, p278429, p278430, p278431, p278432, p278433, p278434, x278435⟩ := hI278418
            refine W_seq ?_
            refine W_region ?_
            refine WL_step rfl rfl (Exec.lss rfl x278435 p278434 ?_)
            refine WL_nil (at_normal ?_)
            refine W_seq ?_
            refine W_true (congrArg Value.bool (decide_eq_true (by omega))) ?_
            refine W_skip (at_normal ?_)
            refine W_seq ?_
            refine W_block ?_
            refine W_seq ?_
            refine W_region ?_
            refine WL_step rfl rfl (Exec.move (v := Value.int .i64 ((i278239 : Int))) rfl x278435 ?_)
            refine WL_step rfl rfl (Exec.assign (v := Value.int .i64 ((i278239 : Int))) rfl rfl ?_)
            refine WL_nil (at_normal ?_)
            refine W_seq ?_
            refine W_region ?_
            refine WL_step rfl rfl (Exec.move (v := Value.pointer (some ⟨b150253, 0, none⟩)) rfl p278426 ?_)
            refine WL_step rfl rfl (Exec.move (v := Value.int .i64 ((i275950 : Int))) rfl p278431 ?_)
            refine WL_step rfl rfl (Exec.move (v := Value.int .i64 ((i278239 : Int))) rfl rfl ?_)
            obtain ⟨t278446, q278447, hm278419⟩ := bind_some hm278419
            obtain ⟨y278448, y278449⟩ := t278446
            replace hm278419 := un2_eq hm278419
            have hS278450 := ((hS278425).f2).f2
            have hS278451 := (hS278450).f2
            refine WL_step rfl rfl (Exec.call rfl rfl Try.func15 rfl N15 (args_cons rfl (args_cons rfl (args_cons rfl args_nil))) ((stn_Network_Distance_sim q278447 hS278451 ).mono ?_))
            rintro _ w278452 ⟨_, rfl, ⟨s278453, l278454, hS278455, rfl⟩⟩
            refine ⟨_, rfl, ?_⟩
            refine WL_step rfl rfl (Exec.move (v := Value.tuple #[Value.int .i64 (y278448), errV 30 (y278449)]) rfl rfl ?_)
            refine WL_step rfl rfl (Exec.extract (v := Value.int .i64 (y278448)) rfl rfl rfl ?_)
            refine WL_step rfl rfl (Exec.extract (v := errV 30 (y278449)) rfl rfl rfl ?_)
            refine WL_step rfl rfl (Exec.assign (v := Value.int .i64 (y278448)) rfl rfl ?_)
            refine WL_step rfl rfl (Exec.assign (v := errV 30 (y278449)) rfl rfl ?_)
            refine WL_nil (at_normal ?_)
            refine W_seq ?_
            obtain ⟨z278472, ht278473, hm278419⟩ := bind_some hm278419
            refine W_mid (M := fun f' w' => (fun (z278472 : Bool) => ∃ (s278474 : PHeap) , PHeap.le s278453 s278474 ∧ St w0 s278474 (Res.box b150253 63 [v150254] :: Res.arr encRaw 49 v150254 hs150255 :: Res.rows (encInt .i64) 3 hs150255 x150252.d :: Res.arr (encInt .i64) 3 v276697 first276696 :: H) w' ∧ f' 0 = Value.pointer (some ⟨b150253, 0, none⟩) ∧ f' 1 = Value.int .i64 (n150256) ∧ f' 7 = v275941 ∧ f' 9 = v276697 ∧ f' 10 = Value.bool (all276698) ∧ f' 11 = Value.int .i64 ((i275950 : Int)) ∧ f' 28 = Value.int .i64 (n150256) ∧ f' 29 = Value.int .i64 ((i275950 : Int)) ∧ f' 32 = Value.int .i64 (n150256) ∧ f' 33 = Value.int .i64 ((i278239 : Int)) ∧ f' 55 = Value.bool (z278472)) z278472) ?_ ?_
            · refine W_region ?_
              refine WL_step rfl rfl (Exec.move (v := errV 30 (y278449)) rfl rfl ?_)
              refine WL_step rfl rfl (Exec.err_neq_nil (T := 30) Try.underlying26 rfl rfl rfl ?_)
              refine WL_step rfl rfl (Exec.move (v := Value.bool (y278449.isSome)) rfl rfl ?_)
              rcases ite_some ht278473 with ⟨hc278475, ht278473⟩ | ⟨hc278475, ht278473⟩
              · refine WL_pass rfl (yield_of rfl (congrArg Value.bool hc278475)) rfl rfl ?_
                refine WL_pass rfl (yield_of rfl (congrArg Value.bool hc278475)) rfl rfl ?_
                refine WL_pass rfl (yield_of rfl (congrArg Value.bool hc278475)) rfl rfl ?_
                refine WL_pass rfl (yield_of rfl (congrArg Value.bool hc278475)) rfl rfl ?_
                refine WL_pass rfl (yield_of rfl (congrArg Value.bool hc278475)) rfl rfl ?_
                refine WL_pass rfl (yield_of rfl (congrArg Value.bool hc278475)) rfl rfl ?_
                refine WL_pass rfl (yield_of rfl (congrArg Value.bool hc278475)) rfl rfl ?_
                refine WL_pass rfl (yield_of rfl (congrArg Value.bool hc278475)) rfl rfl ?_
                refine WL_pass rfl (yield_of rfl (congrArg Value.bool hc278475)) rfl rfl ?_
                refine WL_step rfl rfl (Exec.pick_t (v := Value.bool (true)) rfl (congrArg Value.bool hc278475) rfl ?_)
                refine WL_nil (at_normal ?_)
                have e278476 := Option.some.inj ht278473
                subst z278472
                have hS278477 := (hS278455).f3
                have hS278478 := ((hS278477).f3).f3
                have hS278479 := (hS278478).f3
                exact ⟨s278453, (PHeap.le_refl _), hS278479, p278426, p278427, p278428, p278429, p278430, p278431, p278432, p278433, p278434, x278435, rfl⟩
              · replace hc278475 := not_true hc278475
                refine WL_run rfl (yield_of rfl (congrArg Value.bool hc278475)) rfl (Exec.move (v := Value.int .i64 (y278448)) rfl rfl ?_)
                refine WL_run rfl (yield_of rfl (congrArg Value.bool hc278475)) rfl (Exec.move (v := v275941) rfl p278428 ?_)
                refine WL_run rfl (yield_of rfl (congrArg Value.bool hc278475)) rfl (Exec.move (v := Value.int .i64 ((i275950 : Int))) rfl p278431 ?_)
                obtain ⟨x278480, q278481, ht278473⟩ := bind_some ht278473
                refine WL_run rfl (yield_of rfl (congrArg Value.bool hc278475)) rfl (Exec.index_rep S61 rfl rfl rfl (r275942.mono (PHeap.le.trans (PHeap.le.trans l278228 l278424) l278454)) q278481 ?_)
                intro b278482 o278483 a278484
                refine WL_run rfl (yield_of rfl (congrArg Value.bool hc278475)) rfl (Exec.load_at (E := (encSlice (encInt .i64))) hS278455 A49 rfl rfl rfl a278484 ?_)
                intro v278485 q278486
                have r278487 := encSlice_val.1 q278486
                refine WL_run rfl (yield_of rfl (congrArg Value.bool hc278475)) rfl (Exec.move (v := Value.int .i64 ((i278239 : Int))) rfl rfl ?_)
                obtain ⟨x278488, q278489, ht278473⟩ := bind_some ht278473
                refine WL_run rfl (yield_of rfl (congrArg Value.bool hc278475)) rfl (Exec.index_rep S49 rfl rfl rfl r278487 q278489 ?_)
                intro b278490 o278491 a278492
                refine WL_run rfl (yield_of rfl (congrArg Value.bool hc278475)) rfl (Exec.load_at (E := (encInt .i64)) hS278455 A3 rfl rfl rfl a278492 ?_)
                intro v278493 q278494
                obtain rfl := encInt_val.1 q278494
                refine WL_run rfl (yield_of rfl (congrArg Value.bool hc278475)) rfl (Exec.neq rfl rfl rfl ?_)
                refine WL_step rfl rfl (Exec.pick_f (v := Value.bool (!decide (y278448 = x278488))) rfl (congrArg Value.bool hc278475) rfl ?_)
                refine WL_nil (at_normal ?_)
                have e278495 := Option.some.inj ht278473
                subst z278472
                have hS278496 := (hS278455).f3
                have hS278497 := ((hS278496).f3).f3
                have hS278498 := (hS278497).f3
                exact ⟨s278453, (PHeap.le_refl _), hS278498, p278426, p278427, p278428, p278429, p278430, p278431, p278432, p278433, p278434, x278435, rfl⟩
            · intro f278499 w278500 hM278501
              obtain ⟨s278502, l278503, hS278504, p278505, p278506, p278507, p278508, p278509, p278510, p278511, p278512, p278513, p278514, p278515⟩ := hM278501
              refine (at_normal ?_)
              rcases ite_some hm278419 with ⟨hc278516, hm278419⟩ | ⟨hc278516, hm278419⟩
              · refine W_cond_t p278515 hc278516 ?_
                refine W_seq ?_
                refine W_region ?_
                refine WL_step rfl rfl (Exec.assign (v := Value.bool (false)) rfl rfl ?_)
                refine WL_nil (at_normal ?_)
                refine W_ret (ib_ret (at_ret (at_ret (ib_ret (at_ret (at_ret (ib_ret (at_ret (at_ret (ib_ret (at_ret (at_ret ?_))))))))))))
                have e278517 := Option.some.inj hm278419
                subst c278415
                have hq278518 := hr278406 _ (hres278420 (by intro _ h; cases h))
                have e278519 := Option.some.inj hq278518
                subst c278219
                have hq278520 := hr278210 _ (hres278224 (by intro _ h; cases h))
                have e278521 := Option.some.inj hq278520
                subst r
                refine ⟨_, ret1 rfl, ?_⟩
                have hS278522 := ((hS278504).f3).drop
                have hS278523 := ((hS278522).f2).f2
                have hS278524 := (hS278523).f2
                exact ⟨s278502, (PHeap.le.trans (PHeap.le.trans (PHeap.le.trans (PHeap.le.trans l275939 l278228) l278424) l278454) l278503), hS278524, rfl⟩
              · refine W_cond_f p278515 hc278516 ?_
                replace hc278516 := not_true hc278516
                refine W_skip (ib_normal (at_normal ?_))
                refine W_region ?_
                refine WL_step rfl rfl (Exec.add rfl p278514 rfl ?_)
                refine WL_step rfl rfl (Exec.move (v := Value.int .i64 (IntKind.i64.wrap ((i278239 : Int) + 1))) rfl rfl ?_)
                refine WL_nil (at_normal ?_)
                have e278525 := Option.some.inj hm278419
                subst c278415
                have hS278526 := (hS278504).f3
                have hS278527 := ((hS278526).f3).f3
                have hS278528 := (hS278527).f3
                refine ⟨_, rfl, ?_⟩; exact ⟨s278502, (PHeap.le.trans (PHeap.le.trans l278424 l278454) l278503), hS278528, p278505, p278506, p278507, p278508, p278509, p278510, p278511, p278512, p278513, (Eq.trans rfl (wrap_up hi278422 (by have h := must_some q278238; simp at h; simp only [maxLen]; omega)))⟩
          · intro t278529 f278530 w278531 hI278532 hres278533
            obtain ⟨s278534, l278535, hS278536, p278537, p278538, p278539, p278540, p278541, p278542, p278543, p278544, p278545, x278546⟩ := hI278532
            refine W_seq ?_
            refine W_region ?_
            refine WL_step rfl rfl (Exec.lss rfl x278546 p278545 ?_)
            refine WL_nil (at_normal ?_)
            refine W_seq ?_
            refine W_false (congrArg Value.bool (decide_eq_false (by omega))) ?_
            refine W_exit (at_exit (at_exit (ib_here (at_normal ?_))))
            have hS278547 := (hS278536).f3
            have hS278548 := ((hS278547).f3).f3
            have hS278549 := (hS278548).f3
            refine ⟨_, .inl hres278533, ?_⟩; exact ⟨s278534, l278535, hS278549, p278537, p278538, p278539, p278540, p278541, p278542, p278543, p278544, p278545⟩
        · rintro f278550 w278551 ⟨t278552, hc278553, hM278554⟩
          have hm278223 := hc278553.elim (hn278407 _) (hb278408 _)
          clear hc278553
          obtain ⟨s278555, l278556, hS278557, p278558, p278559, p278560, p278561, p278562, p278563, p278564, p278565, p278566⟩ := hM278554
          refine (at_normal ?_)
          refine W_seq ?_
          refine W_region ?_
          refine WL_step rfl rfl (Exec.move (v := Value.pointer (some ⟨b150253, 0, none⟩)) rfl p278558 ?_)
          refine WL_step rfl rfl (Exec.move (v := Value.int .i64 ((i275950 : Int))) rfl p278563 ?_)
          obtain ⟨t278577, q278578, hm278223⟩ := bind_some hm278223
          obtain ⟨y278579, y278580⟩ := t278577
          replace hm278223 := un2_eq hm278223
          have hS278581 := ((hS278557).f2).f2
          have hS278582 := (hS278581).f2
          refine WL_step rfl rfl (Exec.call rfl rfl Try.func16 rfl N16 (args_cons rfl (args_cons rfl args_nil)) ((stn_Network_Earliest_sim q278578 hS278582 ).mono ?_))
          rintro _ w278583 ⟨_, rfl, ⟨s278584, l278585, hS278586, rfl⟩⟩
          refine ⟨_, rfl, ?_⟩
          refine WL_step rfl rfl (Exec.move (v := Value.tuple #[Value.int .i64 (y278579), errV 30 (y278580)]) rfl rfl ?_)
          refine WL_step rfl rfl (Exec.extract (v := Value.int .i64 (y278579)) rfl rfl rfl ?_)
          refine WL_step rfl rfl (Exec.extract (v := errV 30 (y278580)) rfl rfl rfl ?_)
          refine WL_step rfl rfl (Exec.assign (v := Value.int .i64 (y278579)) rfl rfl ?_)
          refine WL_step rfl rfl (Exec.assign (v := errV 30 (y278580)) rfl rfl ?_)
          refine WL_nil (at_normal ?_)
          refine W_seq ?_
          refine W_seq ?_
          refine W_region ?_
          refine WL_step rfl rfl (Exec.move (v := v275941) rfl p278560 ?_)
          refine WL_step rfl rfl (Exec.move (v := Value.int .i64 ((i275950 : Int))) rfl p278563 ?_)
          obtain ⟨x278602, q278603, hm278223⟩ := bind_some hm278223
          refine WL_step rfl rfl (Exec.index_rep S61 rfl rfl rfl (r275942.mono (PHeap.le.trans (PHeap.le.trans l278228 l278556) l278585)) q278603 ?_)
          intro b278604 o278605 a278606
          refine WL_step rfl rfl (Exec.load_at (E := (encSlice (encInt .i64))) hS278586 A49 rfl rfl rfl a278606 ?_)
          intro v278607 q278608
          have r278609 := encSlice_val.1 q278608
          obtain ⟨x278610, q278611, hm278223⟩ := bind_some hm278223
          refine WL_step rfl rfl (Exec.index_rep S49 rfl rfl rfl r278609 q278611 ?_)
          intro b278612 o278613 a278614
          refine WL_step rfl rfl (Exec.load_at (E := (encInt .i64)) hS278586 A3 rfl rfl rfl a278614 ?_)
          intro v278615 q278616
          obtain rfl := encInt_val.1 q278616
          refine WL_step rfl rfl (Exec.eql rfl rfl rfl ?_)
          refine WL_nil (at_normal ?_)
          rcases ite_some hm278223 with ⟨hc278617, hm278223⟩ | ⟨hc278617, hm278223⟩
          · refine W_cond_t rfl hc278617 ?_
            refine W_seq ?_
            refine W_region ?_
            refine WL_step rfl rfl (Exec.assign (v := Value.bool (false)) rfl rfl ?_)
            refine WL_nil (at_normal ?_)
            refine W_seq ?_
            refine W_mid (M := fun f' w' => ∃ (s278623 : PHeap) , PHeap.le s278584 s278623 ∧ St w0 s278623 (Res.box b150253 63 [v150254] :: Res.arr encRaw 49 v150254 hs150255 :: Res.rows (encInt .i64) 3 hs150255 x150252.d :: Res.arr (encInt .i64) 3 v276697 first276696 :: H) w' ∧ f' 0 = Value.pointer (some ⟨b150253, 0, none⟩) ∧ f' 1 = Value.int .i64 (n150256) ∧ f' 7 = v275941 ∧ f' 9 = v276697 ∧ f' 10 = Value.bool (false) ∧ f' 11 = Value.int .i64 ((i275950 : Int)) ∧ f' 15 = Value.int .i64 (y278579) ∧ f' 28 = Value.int .i64 (n150256) ∧ f' 29 = Value.int .i64 ((i275950 : Int)) ∧ f' 76 = Value.bool (((!decide (y278579 = 0)) || !(base_Is_t y278580 3)))) ?_ ?_
            · refine W_region ?_
              refine WL_step rfl rfl (Exec.move (v := Value.int .i64 (y278579)) rfl rfl ?_)
              refine WL_step rfl rfl (Exec.neq rfl rfl rfl ?_)
              refine WL_step rfl rfl (Exec.move (v := Value.bool (!decide (y278579 = 0))) rfl rfl ?_)
              by_cases hc278624 : (!decide (y278579 = 0)) = true
              · refine WL_pass rfl (yield_of rfl (congrArg Value.bool hc278624)) rfl rfl ?_
                refine WL_pass rfl (yield_of rfl (congrArg Value.bool hc278624)) rfl rfl ?_
                refine WL_pass rfl (yield_of rfl (congrArg Value.bool hc278624)) rfl rfl ?_
                refine WL_step rfl rfl (Exec.pick_t (v := Value.bool (true)) rfl (congrArg Value.bool hc278624) rfl ?_)
                refine WL_nil (at_normal ?_)
                have hS278625 := (hS278586).f3
                have hS278626 := ((hS278625).f3).f3
                have hS278627 := (hS278626).f3
                exact ⟨s278584, (PHeap.le_refl _), hS278627, p278558, p278559, p278560, p278561, rfl, p278563, rfl, p278564, p278565, (congrArg Value.bool (or_t hc278624)).symm⟩
              · replace hc278624 := not_true hc278624
                refine WL_run rfl (yield_of rfl (congrArg Value.bool hc278624)) rfl (Exec.move (v := errV 30 (y278580)) rfl rfl ?_)
                refine WL_run rfl (yield_of rfl (congrArg Value.bool hc278624)) rfl (Exec.call rfl rfl Try.func11 rfl N11 (args_cons rfl (args_cons rfl args_nil)) ((base_Is_sim (base_Is_tot y278580 3) hS278586 ).mono ?_))
                rintro _ w278628 ⟨_, rfl, ⟨s278629, l278630, hS278631, rfl⟩⟩
                refine ⟨_, rfl, ?_⟩
                refine WL_run rfl (yield_of rfl (congrArg Value.bool hc278624)) rfl (Exec.not rfl rfl ?_)
                refine WL_step rfl rfl (Exec.pick_f (v := Value.bool (!(base_Is_t y278580 3))) rfl (congrArg Value.bool hc278624) rfl ?_)
                refine WL_nil (at_normal ?_)
                have hS278632 := (hS278631).f3
                have hS278633 := ((hS278632).f3).f3
                have hS278634 := (hS278633).f3
                exact ⟨s278629, l278630, hS278634, p278558, p278559, p278560, p278561, rfl, p278563, rfl, p278564, p278565, (congrArg Value.bool (or_f hc278624)).symm⟩
            · intro f278635 w278636 hM278637
              obtain ⟨s278638, l278639, hS278640, p278641, p278642, p278643, p278644, p278645, p278646, p278647, p278648, p278649, p278650⟩ := hM278637
              refine (at_normal ?_)
              rcases ite_some hm278223 with ⟨hc278651, hm278223⟩ | ⟨hc278651, hm278223⟩
              · refine W_cond_t p278650 hc278651 ?_
                refine W_seq ?_
                refine W_region ?_
                refine WL_step rfl rfl (Exec.assign (v := Value.bool (false)) rfl rfl ?_)
                refine WL_nil (at_normal ?_)
                refine W_ret (at_ret (ib_ret (at_ret (at_ret (ib_ret (at_ret (at_ret ?_)))))))
                have e278652 := Option.some.inj hm278223
                subst c278219
                have hq278653 := hr278210 _ (hres278224 (by intro _ h; cases h))
                have e278654 := Option.some.inj hq278653
                subst r
                refine ⟨_, ret1 rfl, ?_⟩
                have hS278655 := ((hS278640).f3).drop
                have hS278656 := ((hS278655).f2).f2
                have hS278657 := (hS278656).f2
                exact ⟨s278638, (PHeap.le.trans (PHeap.le.trans (PHeap.le.trans (PHeap.le.trans l275939 l278228) l278556) l278585) l278639), hS278657, rfl⟩
              · refine W_cond_f p278650 hc278651 ?_
                replace hc278651 := not_true hc278651
                refine W_skip (at_normal ?_)
                refine W_seq ?_
                refine W_region ?_
                refine WL_step rfl rfl (Exec.move (v := v276697) rfl p278644 ?_)
                refine WL_step rfl rfl (Exec.move (v := Value.int .i64 (y278579)) rfl p278647 ?_)
                refine WL_step rfl rfl (Exec.buildSlice (Te := 3) (cs := [Value.int .i64 (y278579)]) hS278640 rfl (parts_cons (c := [Value.int .i64 (y278579)]) (cells_of rfl rfl) parts_nil) (fun _ => by kernel_rfl) ?_)
                intro b278667 w278668 hS278669
                obtain ⟨l278670, q278671, hm278223⟩ := bind_some hm278223
                have hS278672 := (hS278669).f4
                refine WL_step rfl rfl (Exec.append_box (E := (encInt .i64)) (ys := [y278579]) hS278672 S49 Z3 rfl (by decide) rfl rfl rfl rfl ⟨[Value.int .i64 (y278579)], [], rfl, rfl, rfl⟩ rfl q278671 ?_)
                intro v278673 w278674 hS278675
                refine WL_step rfl rfl (Exec.assign (v := v278673) rfl rfl ?_)
                refine WL_nil (at_normal ?_)
                refine W_seq ?_
                refine W_region ?_
                refine WL_step rfl rfl (Exec.move (v := Value.pointer (some ⟨b150253, 0, none⟩)) rfl p278641 ?_)
                refine WL_step rfl rfl (Exec.move (v := Value.int .i64 ((i275950 : Int))) rfl p278646 ?_)
                obtain ⟨t278686, q278687, hm278223⟩ := bind_some hm278223
                obtain ⟨y278688, y278689⟩ := t278686
                replace hm278223 := un2_eq hm278223
                have hS278690 := ((hS278675).f3).f3
                have hS278691 := (hS278690).f3
                refine WL_step rfl rfl (Exec.call rfl rfl Try.func17 rfl N17 (args_cons rfl (args_cons rfl args_nil)) ((stn_Network_Latest_sim q278687 hS278691 ).mono ?_))
                rintro _ w278692 ⟨_, rfl, ⟨s278693, l278694, hS278695, rfl⟩⟩
                refine ⟨_, rfl, ?_⟩
                refine WL_step rfl rfl (Exec.move (v := Value.tuple #[Value.int .i64 (y278688), errV 30 (y278689)]) rfl rfl ?_)
                refine WL_step rfl rfl (Exec.extract (v := Value.int .i64 (y278688)) rfl rfl rfl ?_)
                refine WL_step rfl rfl (Exec.extract (v := errV 30 (y278689)) rfl rfl rfl ?_)
                refine WL_step rfl rfl (Exec.assign (v := Value.int .i64 (y278688)) rfl rfl ?_)
                refine WL_step rfl rfl (Exec.assign (v := errV 30 (y278689)) rfl rfl ?_)
                refine WL_nil (at_normal ?_)
                refine W_seq ?_
                refine W_region ?_
                refine WL_step rfl rfl (Exec.move (v := v275941) rfl p278643 ?_)
                obtain ⟨x278711, q278712, hm278223⟩ := bind_some hm278223
                refine WL_step rfl rfl (Exec.index_rep S61 rfl rfl rfl (r275942.mono (PHeap.le.trans (PHeap.le.trans (PHeap.le.trans (PHeap.le.trans l278228 l278556) l278585) l278639) l278694)) q278712 ?_)
                intro b278713 o278714 a278715
                refine WL_step rfl rfl (Exec.load_at (E := (encSlice (encInt .i64))) hS278695 A49 rfl rfl rfl a278715 ?_)
                intro v278716 q278717
                have r278718 := encSlice_val.1 q278717
                refine WL_step rfl rfl (Exec.move (v := Value.int .i64 ((i275950 : Int))) rfl p278646 ?_)
                obtain ⟨x278719, q278720, hm278223⟩ := bind_some hm278223
                refine WL_step rfl rfl (Exec.index_rep S49 rfl rfl rfl r278718 q278720 ?_)
                intro b278721 o278722 a278723
                refine WL_step rfl rfl (Exec.load_at (E := (encInt .i64)) hS278695 A3 rfl rfl rfl a278723 ?_)
                intro v278724 q278725
                obtain rfl := encInt_val.1 q278725
                refine WL_step rfl rfl (Exec.eql rfl rfl rfl ?_)
                refine WL_nil (at_normal ?_)
                rcases ite_some hm278223 with ⟨hc278726, hm278223⟩ | ⟨hc278726, hm278223⟩
                · refine W_cond_t rfl hc278726 ?_
                  refine W_seq ?_
                  refine W_mid (M := fun f' w' => ∃ (s278732 : PHeap) , PHeap.le s278693 s278732 ∧ St w0 s278732 (Res.box b150253 63 [v150254] :: Res.arr encRaw 49 v150254 hs150255 :: Res.rows (encInt .i64) 3 hs150255 x150252.d :: Res.arr (encInt .i64) 3 v278673 l278670 :: H) w' ∧ f' 0 = Value.pointer (some ⟨b150253, 0, none⟩) ∧ f' 1 = Value.int .i64 (n150256) ∧ f' 7 = v275941 ∧ f' 9 = v278673 ∧ f' 10 = Value.bool (false) ∧ f' 28 = Value.int .i64 (n150256) ∧ f' 29 = Value.int .i64 ((i275950 : Int)) ∧ f' 113 = Value.bool (((!decide (y278688 = 0)) || !(base_Is_t y278689 3)))) ?_ ?_
                  · refine W_region ?_
                    refine WL_step rfl rfl (Exec.move (v := Value.int .i64 (y278688)) rfl rfl ?_)
                    refine WL_step rfl rfl (Exec.neq rfl rfl rfl ?_)
                    refine WL_step rfl rfl (Exec.move (v := Value.bool (!decide (y278688 = 0))) rfl rfl ?_)
                    by_cases hc278733 : (!decide (y278688 = 0)) = true
                    · refine WL_pass rfl (yield_of rfl (congrArg Value.bool hc278733)) rfl rfl ?_
                      refine WL_pass rfl (yield_of rfl (congrArg Value.bool hc278733)) rfl rfl ?_
                      refine WL_pass rfl (yield_of rfl (congrArg Value.bool hc278733)) rfl rfl ?_
                      refine WL_step rfl rfl (Exec.pick_t (v := Value.bool (true)) rfl (congrArg Value.bool hc278733) rfl ?_)
                      refine WL_nil (at_normal ?_)
                      have hS278734 := (hS278695).f3
                      have hS278735 := ((hS278734).f3).f3
                      have hS278736 := (hS278735).f3
                      exact ⟨s278693, (PHeap.le_refl _), hS278736, p278641, p278642, p278643, rfl, p278645, p278648, p278649, (congrArg Value.bool (or_t hc278733)).symm⟩
                    · replace hc278733 := not_true hc278733
                      refine WL_run rfl (yield_of rfl (congrArg Value.bool hc278733)) rfl (Exec.move (v := errV 30 (y278689)) rfl rfl ?_)
                      refine WL_run rfl (yield_of rfl (congrArg Value.bool hc278733)) rfl (Exec.call rfl rfl Try.func11 rfl N11 (args_cons rfl (args_cons rfl args_nil)) ((base_Is_sim (base_Is_tot y278689 3) hS278695 ).mono ?_))
                      rintro _ w278737 ⟨_, rfl, ⟨s278738, l278739, hS278740, rfl⟩⟩
                      refine ⟨_, rfl, ?_⟩
                      refine WL_run rfl (yield_of rfl (congrArg Value.bool hc278733)) rfl (Exec.not rfl rfl ?_)
                      refine WL_step rfl rfl (Exec.pick_f (v := Value.bool (!(base_Is_t y278689 3))) rfl (congrArg Value.bool hc278733) rfl ?_)
                      refine WL_nil (at_normal ?_)
                      have hS278741 := (hS278740).f3
                      have hS278742 := ((hS278741).f3).f3
                      have hS278743 := (hS278742).f3
                      exact ⟨s278738, l278739, hS278743, p278641, p278642, p278643, rfl, p278645, p278648, p278649, (congrArg Value.bool (or_f hc278733)).symm⟩
                  · intro f278744 w278745 hM278746
                    obtain ⟨s278747, l278748, hS278749, p278750, p278751, p278752, p278753, p278754, p278755, p278756, p278757⟩ := hM278746
                    refine (at_normal ?_)
                    rcases ite_some hm278223 with ⟨hc278758, hm278223⟩ | ⟨hc278758, hm278223⟩
                    · refine W_cond_t p278757 hc278758 ?_
                      refine W_seq ?_
                      refine W_region ?_
                      refine WL_step rfl rfl (Exec.assign (v := Value.bool (false)) rfl rfl ?_)
                      refine WL_nil (at_normal ?_)
                      refine W_ret (ib_ret (at_ret (at_ret (ib_ret (at_ret (at_ret ?_))))))
                      have e278759 := Option.some.inj hm278223
                      subst c278219
                      have hq278760 := hr278210 _ (hres278224 (by intro _ h; cases h))
                      have e278761 := Option.some.inj hq278760
                      subst r
                      refine ⟨_, ret1 rfl, ?_⟩
                      have hS278762 := ((hS278749).f3).drop
                      have hS278763 := ((hS278762).f2).f2
                      have hS278764 := (hS278763).f2
                      exact ⟨s278747, (PHeap.le.trans (PHeap.le.trans (PHeap.le.trans (PHeap.le.trans (PHeap.le.trans (PHeap.le.trans l275939 l278228) l278556) l278585) l278639) l278694) l278748), hS278764, rfl⟩
                    · refine W_cond_f p278757 hc278758 ?_
                      replace hc278758 := not_true hc278758
                      refine W_skip (ib_normal (at_normal ?_))
                      refine W_region ?_
                      refine WL_step rfl rfl (Exec.add rfl p278756 rfl ?_)
                      refine WL_step rfl rfl (Exec.move (v := Value.int .i64 (IntKind.i64.wrap ((i275950 : Int) + 1))) rfl rfl ?_)
                      refine WL_nil (at_normal ?_)
                      have e278765 := Option.some.inj hm278223
                      subst c278219
                      have hS278766 := (hS278749).f3
                      have hS278767 := ((hS278766).f3).f3
                      have hS278768 := (hS278767).f3
                      refine ⟨_, rfl, ?_⟩; exact ⟨s278747, v278673, (PHeap.le.trans (PHeap.le.trans (PHeap.le.trans (PHeap.le.trans (PHeap.le.trans l278228 l278556) l278585) l278639) l278694) l278748), hS278768, p278750, p278751, p278752, p278753, p278754, p278755, (Eq.trans rfl (wrap_up hi278226 (by have h := must_some q275949; simp at h; simp only [maxLen]; omega)))⟩
                · refine W_cond_f rfl hc278726 ?_
                  replace hc278726 := not_true hc278726
                  refine W_seq ?_
                  refine W_mid (M := fun f' w' => ∃ (s278781 : PHeap) , PHeap.le s278693 s278781 ∧ St w0 s278781 (Res.box b150253 63 [v150254] :: Res.arr encRaw 49 v150254 hs150255 :: Res.rows (encInt .i64) 3 hs150255 x150252.d :: Res.arr (encInt .i64) 3 v278673 l278670 :: H) w' ∧ f' 0 = Value.pointer (some ⟨b150253, 0, none⟩) ∧ f' 1 = Value.int .i64 (n150256) ∧ f' 7 = v275941 ∧ f' 9 = v278673 ∧ f' 10 = Value.bool (false) ∧ f' 28 = Value.int .i64 (n150256) ∧ f' 29 = Value.int .i64 ((i275950 : Int)) ∧ f' 125 = Value.bool ((y278689.isSome || !decide (y278688 = x278719)))) ?_ ?_
                  · refine W_region ?_
                    refine WL_step rfl rfl (Exec.move (v := errV 30 (y278689)) rfl rfl ?_)
                    refine WL_step rfl rfl (Exec.err_neq_nil (T := 30) Try.underlying26 rfl rfl rfl ?_)
                    refine WL_step rfl rfl (Exec.move (v := Value.bool (y278689.isSome)) rfl rfl ?_)
                    by_cases hc278782 : y278689.isSome = true
                    · refine WL_pass rfl (yield_of rfl (congrArg Value.bool hc278782)) rfl rfl ?_
                      refine WL_pass rfl (yield_of rfl (congrArg Value.bool hc278782)) rfl rfl ?_
                      refine WL_pass rfl (yield_of rfl (congrArg Value.bool hc278782)) rfl rfl ?_
                      refine WL_pass rfl (yield_of rfl (congrArg Value.bool hc278782)) rfl rfl ?_
                      refine WL_pass rfl (yield_of rfl (congrArg Value.bool hc278782)) rfl rfl ?_
                      refine WL_pass rfl (yield_of rfl (congrArg Value.bool hc278782)) rfl rfl ?_
                      refine WL_pass rfl (yield_of rfl (congrArg Value.bool hc278782)) rfl rfl ?_
                      refine WL_pass rfl (yield_of rfl (congrArg Value.bool hc278782)) rfl rfl ?_
                      refine WL_step rfl rfl (Exec.pick_t (v := Value.bool (true)) rfl (congrArg Value.bool hc278782) rfl ?_)
                      refine WL_nil (at_normal ?_)
                      have hS278783 := (hS278695).f3
                      have hS278784 := ((hS278783).f3).f3
                      have hS278785 := (hS278784).f3
                      exact ⟨s278693, (PHeap.le_refl _), hS278785, p278641, p278642, p278643, rfl, p278645, p278648, p278649, (congrArg Value.bool (or_t hc278782)).symm⟩
                    · replace hc278782 := not_true hc278782
                      refine WL_run rfl (yield_of rfl (congrArg Value.bool hc278782)) rfl (Exec.move (v := Value.int .i64 (y278688)) rfl rfl ?_)
                      refine WL_run rfl (yield_of rfl (congrArg Value.bool hc278782)) rfl (Exec.move (v := v275941) rfl p278643 ?_)
                      refine WL_run rfl (yield_of rfl (congrArg Value.bool hc278782)) rfl (Exec.index_rep S61 rfl rfl rfl (r275942.mono (PHeap.le.trans (PHeap.le.trans (PHeap.le.trans (PHeap.le.trans l278228 l278556) l278585) l278639) l278694)) q278712 ?_)
                      intro b278786 o278787 a278788
                      refine WL_run rfl (yield_of rfl (congrArg Value.bool hc278782)) rfl (Exec.load_at (E := (encSlice (encInt .i64))) hS278695 A49 rfl rfl rfl a278788 ?_)
                      intro v278789 q278790
                      have r278791 := encSlice_val.1 q278790
                      refine WL_run rfl (yield_of rfl (congrArg Value.bool hc278782)) rfl (Exec.move (v := Value.int .i64 ((i275950 : Int))) rfl p278646 ?_)
                      refine WL_run rfl (yield_of rfl (congrArg Value.bool hc278782)) rfl (Exec.index_rep S49 rfl rfl rfl r278791 q278720 ?_)
                      intro b278792 o278793 a278794
                      refine WL_run rfl (yield_of rfl (congrArg Value.bool hc278782)) rfl (Exec.load_at (E := (encInt .i64)) hS278695 A3 rfl rfl rfl a278794 ?_)
                      intro v278795 q278796
                      obtain rfl := encInt_val.1 q278796
                      refine WL_run rfl (yield_of rfl (congrArg Value.bool hc278782)) rfl (Exec.neq rfl rfl rfl ?_)
                      refine WL_step rfl rfl (Exec.pick_f (v := Value.bool (!decide (y278688 = x278719))) rfl (congrArg Value.bool hc278782) rfl ?_)
                      refine WL_nil (at_normal ?_)
                      have hS278797 := (hS278695).f3
                      have hS278798 := ((hS278797).f3).f3
                      have hS278799 := (hS278798).f3
                      exact ⟨s278693, (PHeap.le_refl _), hS278799, p278641, p278642, p278643, rfl, p278645, p278648, p278649, (congrArg Value.bool (or_f hc278782)).symm⟩
                  · intro f278800 w278801 hM278802
                    obtain ⟨s278803, l278804, hS278805, p278806, p278807, p278808, p278809, p278810, p278811, p278812, p278813⟩ := hM278802
                    refine (at_normal ?_)
                    rcases ite_some hm278223 with ⟨hc278814, hm278223⟩ | ⟨hc278814, hm278223⟩
                    · refine W_cond_t p278813 hc278814 ?_
                      refine W_seq ?_
                      refine W_region ?_
                      refine WL_step rfl rfl (Exec.assign (v := Value.bool (false)) rfl rfl ?_)
                      refine WL_nil (at_normal ?_)
                      refine W_ret (ib_ret (at_ret (at_ret (ib_ret (at_ret (at_ret ?_))))))
                      have e278815 := Option.some.inj hm278223
                      subst c278219
                      have hq278816 := hr278210 _ (hres278224 (by intro _ h; cases h))
                      have e278817 := Option.some.inj hq278816
                      subst r
                      refine ⟨_, ret1 rfl, ?_⟩
                      have hS278818 := ((hS278805).f3).drop
                      have hS278819 := ((hS278818).f2).f2
                      have hS278820 := (hS278819).f2
                      exact ⟨s278803, (PHeap.le.trans (PHeap.le.trans (PHeap.le.trans (PHeap.le.trans (PHeap.le.trans (PHeap.le.trans l275939 l278228) l278556) l278585) l278639) l278694) l278804), hS278820, rfl⟩
                    · refine W_cond_f p278813 hc278814 ?_
                      replace hc278814 := not_true hc278814
                      refine W_skip (ib_normal (at_normal ?_))
                      refine W_region ?_
                      refine WL_step rfl rfl (Exec.add rfl p278812 rfl ?_)
                      refine WL_step rfl rfl (Exec.move (v := Value.int .i64 (IntKind.i64.wrap ((i275950 : Int) + 1))) rfl rfl ?_)
                      refine WL_nil (at_normal ?_)
                      have e278821 := Option.some.inj hm278223
                      subst c278219
                      have hS278822 := (hS278805).f3
                      have hS278823 := ((hS278822).f3).f3
                      have hS278824 := (hS278823).f3
                      refine ⟨_, rfl, ?_⟩; exact ⟨s278803, v278673, (PHeap.le.trans (PHeap.le.trans (PHeap.le.trans (PHeap.le.trans (PHeap.le.trans l278228 l278556) l278585) l278639) l278694) l278804), hS278824, p278806, p278807, p278808, p278809, p278810, p278811, (Eq.trans rfl (wrap_up hi278226 (by have h := must_some q275949; simp at h; simp only [maxLen]; omega)))⟩
          · refine W_cond_f rfl hc278617 ?_
            replace hc278617 := not_true hc278617
            refine W_seq ?_
            refine W_mid (M := fun f' w' => ∃ (s278837 : PHeap) , PHeap.le s278584 s278837 ∧ St w0 s278837 (Res.box b150253 63 [v150254] :: Res.arr encRaw 49 v150254 hs150255 :: Res.rows (encInt .i64) 3 hs150255 x150252.d :: Res.arr (encInt .i64) 3 v276697 first276696 :: H) w' ∧ f' 0 = Value.pointer (some ⟨b150253, 0, none⟩) ∧ f' 1 = Value.int .i64 (n150256) ∧ f' 7 = v275941 ∧ f' 9 = v276697 ∧ f' 10 = Value.bool (all276698) ∧ f' 11 = Value.int .i64 ((i275950 : Int)) ∧ f' 15 = Value.int .i64 (y278579) ∧ f' 28 = Value.int .i64 (n150256) ∧ f' 29 = Value.int .i64 ((i275950 : Int)) ∧ f' 89 = Value.bool ((y278580.isSome || !decide (y278579 = (IntKind.i64.wrap (0 - x278610)))))) ?_ ?_
            · refine W_region ?_
              refine WL_step rfl rfl (Exec.move (v := errV 30 (y278580)) rfl rfl ?_)
              refine WL_step rfl rfl (Exec.err_neq_nil (T := 30) Try.underlying26 rfl rfl rfl ?_)
              refine WL_step rfl rfl (Exec.move (v := Value.bool (y278580.isSome)) rfl rfl ?_)
              by_cases hc278838 : y278580.isSome = true
              · refine WL_pass rfl (yield_of rfl (congrArg Value.bool hc278838)) rfl rfl ?_
                refine WL_pass rfl (yield_of rfl (congrArg Value.bool hc278838)) rfl rfl ?_
                refine WL_pass rfl (yield_of rfl (congrArg Value.bool hc278838)) rfl rfl ?_
                refine WL_pass rfl (yield_of rfl (congrArg Value.bool hc278838)) rfl rfl ?_
                refine WL_pass rfl (yield_of rfl (congrArg Value.bool hc278838)) rfl rfl ?_
                refine WL_pass rfl (yield_of rfl (congrArg Value.bool hc278838)) rfl rfl ?_
                refine WL_pass rfl (yield_of rfl (congrArg Value.bool hc278838)) rfl rfl ?_
                refine WL_pass rfl (yield_of rfl (congrArg Value.bool hc278838)) rfl rfl ?_
                refine WL_pass rfl (yield_of rfl (congrArg Value.bool hc278838)) rfl rfl ?_
                refine WL_step rfl rfl (Exec.pick_t (v := Value.bool (true)) rfl (congrArg Value.bool hc278838) rfl ?_)
                refine WL_nil (at_normal ?_)
                have hS278839 := (hS278586).f3
                have hS278840 := ((hS278839).f3).f3
                have hS278841 := (hS278840).f3
                exact ⟨s278584, (PHeap.le_refl _), hS278841, p278558, p278559, p278560, p278561, p278562, p278563, rfl, p278564, p278565, (congrArg Value.bool (or_t hc278838)).symm⟩
              · replace hc278838 := not_true hc278838
                refine WL_run rfl (yield_of rfl (congrArg Value.bool hc278838)) rfl (Exec.move (v := Value.int .i64 (y278579)) rfl rfl ?_)
                refine WL_run rfl (yield_of rfl (congrArg Value.bool hc278838)) rfl (Exec.move (v := v275941) rfl p278560 ?_)
                refine WL_run rfl (yield_of rfl (congrArg Value.bool hc278838)) rfl (Exec.move (v := Value.int .i64 ((i275950 : Int))) rfl p278563 ?_)
                refine WL_run rfl (yield_of rfl (congrArg Value.bool hc278838)) rfl (Exec.index_rep S61 rfl rfl rfl (r275942.mono (PHeap.le.trans (PHeap.le.trans l278228 l278556) l278585)) q278603 ?_)
                intro b278842 o278843 a278844
                refine WL_run rfl (yield_of rfl (congrArg Value.bool hc278838)) rfl (Exec.load_at (E := (encSlice (encInt .i64))) hS278586 A49 rfl rfl rfl a278844 ?_)
                intro v278845 q278846
                have r278847 := encSlice_val.1 q278846
                refine WL_run rfl (yield_of rfl (congrArg Value.bool hc278838)) rfl (Exec.index_rep S49 rfl rfl rfl r278847 q278611 ?_)
                intro b278848 o278849 a278850
                refine WL_run rfl (yield_of rfl (congrArg Value.bool hc278838)) rfl (Exec.load_at (E := (encInt .i64)) hS278586 A3 rfl rfl rfl a278850 ?_)
                intro v278851 q278852
                obtain rfl := encInt_val.1 q278852
                refine WL_run rfl (yield_of rfl (congrArg Value.bool hc278838)) rfl (Exec.neg rfl rfl ?_)
                refine WL_run rfl (yield_of rfl (congrArg Value.bool hc278838)) rfl (Exec.neq rfl rfl rfl ?_)
                refine WL_step rfl rfl (Exec.pick_f (v := Value.bool (!decide (y278579 = (IntKind.i64.wrap (0 - x278610))))) rfl (congrArg Value.bool hc278838) rfl ?_)
                refine WL_nil (at_normal ?_)
                have hS278853 := (hS278586).f3
                have hS278854 := ((hS278853).f3).f3
                have hS278855 := (hS278854).f3
                exact ⟨s278584, (PHeap.le_refl _), hS278855, p278558, p278559, p278560, p278561, p278562, p278563, rfl, p278564, p278565, (congrArg Value.bool (or_f hc278838)).symm⟩
            · intro f278856 w278857 hM278858
              obtain ⟨s278859, l278860, hS278861, p278862, p278863, p278864, p278865, p278866, p278867, p278868, p278869, p278870, p278871⟩ := hM278858
              refine (at_normal ?_)
              rcases ite_some hm278223 with ⟨hc278872, hm278223⟩ | ⟨hc278872, hm278223⟩
              · refine W_cond_t p278871 hc278872 ?_
                refine W_seq ?_
                refine W_region ?_
                refine WL_step rfl rfl (Exec.assign (v := Value.bool (false)) rfl rfl ?_)
                refine WL_nil (at_normal ?_)
                refine W_ret (at_ret (ib_ret (at_ret (at_ret (ib_ret (at_ret (at_ret ?_)))))))
                have e278873 := Option.some.inj hm278223
                subst c278219
                have hq278874 := hr278210 _ (hres278224 (by intro _ h; cases h))
                have e278875 := Option.some.inj hq278874
                subst r
                refine ⟨_, ret1 rfl, ?_⟩
                have hS278876 := ((hS278861).f3).drop
                have hS278877 := ((hS278876).f2).f2
                have hS278878 := (hS278877).f2
                exact ⟨s278859, (PHeap.le.trans (PHeap.le.trans (PHeap.le.trans (PHeap.le.trans l275939 l278228) l278556) l278585) l278860), hS278878, rfl⟩
              · refine W_cond_f p278871 hc278872 ?_
                replace hc278872 := not_true hc278872
                refine W_skip (at_normal ?_)
                refine W_seq ?_
                refine W_region ?_
                refine WL_step rfl rfl (Exec.move (v := v276697) rfl p278865 ?_)
                refine WL_step rfl rfl (Exec.move (v := Value.int .i64 (y278579)) rfl p278868 ?_)
                refine WL_step rfl rfl (Exec.buildSlice (Te := 3) (cs := [Value.int .i64 (y278579)]) hS278861 rfl (parts_cons (c := [Value.int .i64 (y278579)]) (cells_of rfl rfl) parts_nil) (fun _ => by kernel_rfl) ?_)
                intro b278888 w278889 hS278890
                obtain ⟨l278891, q278892, hm278223⟩ := bind_some hm278223
                have hS278893 := (hS278890).f4
                refine WL_step rfl rfl (Exec.append_box (E := (encInt .i64)) (ys := [y278579]) hS278893 S49 Z3 rfl (by decide) rfl rfl rfl rfl ⟨[Value.int .i64 (y278579)], [], rfl, rfl, rfl⟩ rfl q278892 ?_)
                intro v278894 w278895 hS278896
                refine WL_step rfl rfl (Exec.assign (v := v278894) rfl rfl ?_)
                refine WL_nil (at_normal ?_)
                refine W_seq ?_
                refine W_region ?_
                refine WL_step rfl rfl (Exec.move (v := Value.pointer (some ⟨b150253, 0, none⟩)) rfl p278862 ?_)
                refine WL_step rfl rfl (Exec.move (v := Value.int .i64 ((i275950 : Int))) rfl p278867 ?_)
                obtain ⟨t278907, q278908, hm278223⟩ := bind_some hm278223
                obtain ⟨y278909, y278910⟩ := t278907
                replace hm278223 := un2_eq hm278223
                have hS278911 := ((hS278896).f3).f3
                have hS278912 := (hS278911).f3
                refine WL_step rfl rfl (Exec.call rfl rfl Try.func17 rfl N17 (args_cons rfl (args_cons rfl args_nil)) ((stn_Network_Latest_sim q278908 hS278912 ).mono ?_))
                rintro _ w278913 ⟨_, rfl, ⟨s278914, l278915, hS278916, rfl⟩⟩
                refine ⟨_, rfl, ?_⟩
                refine WL_step rfl rfl (Exec.move (v := Value.tuple #[Value.int .i64 (y278909), errV 30 (y278910)]) rfl rfl ?_)
                refine WL_step rfl rfl (Exec.extract (v := Value.int .i64 (y278909)) rfl rfl rfl ?_)
                refine WL_step rfl rfl (Exec.extract (v := errV 30 (y278910)) rfl rfl rfl ?_)
                refine WL_step rfl rfl (Exec.assign (v := Value.int .i64 (y278909)) rfl rfl ?_)
                refine WL_step rfl rfl (Exec.assign (v := errV 30 (y278910)) rfl rfl ?_)
                refine WL_nil (at_normal ?_)
                refine W_seq ?_
                refine W_region ?_
                refine WL_step rfl rfl (Exec.move (v := v275941) rfl p278864 ?_)
                obtain ⟨x278932, q278933, hm278223⟩ := bind_some hm278223
                refine WL_step rfl rfl (Exec.index_rep S61 rfl rfl rfl (r275942.mono (PHeap.le.trans (PHeap.le.trans (PHeap.le.trans (PHeap.le.trans l278228 l278556) l278585) l278860) l278915)) q278933 ?_)
                intro b278934 o278935 a278936
                refine WL_step rfl rfl (Exec.load_at (E := (encSlice (encInt .i64))) hS278916 A49 rfl rfl rfl a278936 ?_)
                intro v278937 q278938
                have r278939 := encSlice_val.1 q278938
                refine WL_step rfl rfl (Exec.move (v := Value.int .i64 ((i275950 : Int))) rfl p278867 ?_)
                obtain ⟨x278940, q278941, hm278223⟩ := bind_some hm278223
                refine WL_step rfl rfl (Exec.index_rep S49 rfl rfl rfl r278939 q278941 ?_)
                intro b278942 o278943 a278944
                refine WL_step rfl rfl (Exec.load_at (E := (encInt .i64)) hS278916 A3 rfl rfl rfl a278944 ?_)
                intro v278945 q278946
                obtain rfl := encInt_val.1 q278946
                refine WL_step rfl rfl (Exec.eql rfl rfl rfl ?_)
                refine WL_nil (at_normal ?_)
                rcases ite_some hm278223 with ⟨hc278947, hm278223⟩ | ⟨hc278947, hm278223⟩
                · refine W_cond_t rfl hc278947 ?_
                  refine W_seq ?_
                  refine W_mid (M := fun f' w' => ∃ (s278953 : PHeap) , PHeap.le s278914 s278953 ∧ St w0 s278953 (Res.box b150253 63 [v150254] :: Res.arr encRaw 49 v150254 hs150255 :: Res.rows (encInt .i64) 3 hs150255 x150252.d :: Res.arr (encInt .i64) 3 v278894 l278891 :: H) w' ∧ f' 0 = Value.pointer (some ⟨b150253, 0, none⟩) ∧ f' 1 = Value.int .i64 (n150256) ∧ f' 7 = v275941 ∧ f' 9 = v278894 ∧ f' 10 = Value.bool (all276698) ∧ f' 28 = Value.int .i64 (n150256) ∧ f' 29 = Value.int .i64 ((i275950 : Int)) ∧ f' 113 = Value.bool (((!decide (y278909 = 0)) || !(base_Is_t y278910 3)))) ?_ ?_
                  · refine W_region ?_
                    refine WL_step rfl rfl (Exec.move (v := Value.int .i64 (y278909)) rfl rfl ?_)
                    refine WL_step rfl rfl (Exec.neq rfl rfl rfl ?_)
                    refine WL_step rfl rfl (Exec.move (v := Value.bool (!decide (y278909 = 0))) rfl rfl ?_)
                    by_cases hc278954 : (!decide (y278909 = 0)) = true
                    · refine WL_pass rfl (yield_of rfl (congrArg Value.bool hc278954)) rfl rfl ?_
                      refine WL_pass rfl (yield_of rfl (congrArg Value.bool hc278954)) rfl rfl ?_
                      refine WL_pass rfl (yield_of rfl (congrArg Value.bool hc278954)) rfl rfl ?_
                      refine WL_step rfl rfl (Exec.pick_t (v := Value.bool (true)) rfl (congrArg Value.bool hc278954) rfl ?_)
                      refine WL_nil (at_normal ?_)
                      have hS278955 := (hS278916).f3
                      have hS278956 := ((hS278955).f3).f3
                      have hS278957 := (hS278956).f3
                      exact ⟨s278914, (PHeap.le_refl _), hS278957, p278862, p278863, p278864, rfl, p278866, p278869, p278870, (congrArg Value.bool (or_t hc278954)).symm⟩
                    · replace hc278954 := not_true hc278954
                      refine WL_run rfl (yield_of rfl (congrArg Value.bool hc278954)) rfl (Exec.move (v := errV 30 (y278910)) rfl rfl ?_)
                      refine WL_run rfl (yield_of rfl (congrArg Value.bool hc278954)) rfl (Exec.call rfl rfl Try.func11 rfl N11 (args_cons rfl (args_cons rfl args_nil)) ((base_Is_sim (base_Is_tot y278910 3) hS278916 ).mono ?_))
                      rintro _ w278958 ⟨_, rfl, ⟨s278959, l278960, hS278961, rfl⟩⟩
                      refine ⟨_, rfl, ?_⟩
                      refine WL_run rfl (yield_of rfl (congrArg Value.bool hc278954)) rfl (Exec.not rfl rfl ?_)
                      refine WL_step rfl rfl (Exec.pick_f (v := Value.bool (!(base_Is_t y278910 3))) rfl (congrArg Value.bool hc278954) rfl ?_)
                      refine WL_nil (at_normal ?_)
                      have hS278962 := (hS278961).f3
                      have hS278963 := ((hS278962).f3).f3
                      have hS278964 := (hS278963).f3
                      exact ⟨s278959, l278960, hS278964, p278862, p278863, p278864, rfl, p278866, p278869, p278870, (congrArg Value.bool (or_f hc278954)).symm⟩
                  · intro f278965 w278966 hM278967
                    obtain ⟨s278968, l278969, hS278970, p278971, p278972, p278973, p278974, p278975, p278976, p278977, p278978⟩ := hM278967
                    refine (at_normal ?_)
                    rcases ite_some hm278223 with ⟨hc278979, hm278223⟩ | ⟨hc278979, hm278223⟩
                    · refine W_cond_t p278978 hc278979 ?_
                      refine W_seq ?_
                      refine W_region ?_
                      refine WL_step rfl rfl (Exec.assign (v := Value.bool (false)) rfl rfl ?_)
                      refine WL_nil (at_normal ?_)
                      refine W_ret (ib_ret (at_ret (at_ret (ib_ret (at_ret (at_ret ?_))))))
                      have e278980 := Option.some.inj hm278223
                      subst c278219
                      have hq278981 := hr278210 _ (hres278224 (by intro _ h; cases h))
                      have e278982 := Option.some.inj hq278981
                      subst r
                      refine ⟨_, ret1 rfl, ?_⟩
                      have hS278983 := ((hS278970).f3).drop
                      have hS278984 := ((hS278983).f2).f2
                      have hS278985 := (hS278984).f2
                      exact ⟨s278968, (PHeap.le.trans (PHeap.le.trans (PHeap.le.trans (PHeap.le.trans (PHeap.le.trans (PHeap.le.trans l275939 l278228) l278556) l278585) l278860) l278915) l278969), hS278985, rfl⟩
                    · refine W_cond_f p278978 hc278979 ?_
                      replace hc278979 := not_true hc278979
                      refine W_skip (ib_normal (at_normal ?_))
                      refine W_region ?_
                      refine WL_step rfl rfl (Exec.add rfl p278977 rfl ?_)
                      refine WL_step rfl rfl (Exec.move (v := Value.int .i64 (IntKind.i64.wrap ((i275950 : Int) + 1))) rfl rfl ?_)
                      refine WL_nil (at_normal ?_)
                      have e278986 := Option.some.inj hm278223
                      subst c278219
                      have hS278987 := (hS278970).f3
                      have hS278988 := ((hS278987).f3).f3
                      have hS278989 := (hS278988).f3
                      refine ⟨_, rfl, ?_⟩; exact ⟨s278968, v278894, (PHeap.le.trans (PHeap.le.trans (PHeap.le.trans (PHeap.le.trans (PHeap.le.trans l278228 l278556) l278585) l278860) l278915) l278969), hS278989, p278971, p278972, p278973, p278974, p278975, p278976, (Eq.trans rfl (wrap_up hi278226 (by have h := must_some q275949; simp at h; simp only [maxLen]; omega)))⟩
                · refine W_cond_f rfl hc278947 ?_
                  replace hc278947 := not_true hc278947
                  refine W_seq ?_
                  refine W_mid (M := fun f' w' => ∃ (s279002 : PHeap) , PHeap.le s278914 s279002 ∧ St w0 s279002 (Res.box b150253 63 [v150254] :: Res.arr encRaw 49 v150254 hs150255 :: Res.rows (encInt .i64) 3 hs150255 x150252.d :: Res.arr (encInt .i64) 3 v278894 l278891 :: H) w' ∧ f' 0 = Value.pointer (some ⟨b150253, 0, none⟩) ∧ f' 1 = Value.int .i64 (n150256) ∧ f' 7 = v275941 ∧ f' 9 = v278894 ∧ f' 10 = Value.bool (all276698) ∧ f' 28 = Value.int .i64 (n150256) ∧ f' 29 = Value.int .i64 ((i275950 : Int)) ∧ f' 125 = Value.bool ((y278910.isSome || !decide (y278909 = x278940)))) ?_ ?_
                  · refine W_region ?_
                    refine WL_step rfl rfl (Exec.move (v := errV 30 (y278910)) rfl rfl ?_)
                    refine WL_step rfl rfl (Exec.err_neq_nil (T := 30) Try.underlying26 rfl rfl rfl ?_)
                    refine WL_step rfl rfl (Exec.move (v := Value.bool (y278910.isSome)) rfl rfl ?_)
                    by_cases hc279003 : y278910.isSome = true
                    · refine WL_pass rfl (yield_of rfl (congrArg Value.bool hc279003)) rfl rfl ?_
                      refine WL_pass rfl (yield_of rfl (congrArg Value.bool hc279003)) rfl rfl ?_
                      refine WL_pass rfl (yield_of rfl (congrArg Value.bool hc279003)) rfl rfl ?_
                      refine WL_pass rfl (yield_of rfl (congrArg Value.bool hc279003)) rfl rfl ?_
                      refine WL_pass rfl (yield_of rfl (congrArg Value.bool hc279003)) rfl rfl ?_
                      refine WL_pass rfl (yield_of rfl (congrArg Value.bool hc279003)) rfl rfl ?_
                      refine WL_pass rfl (yield_of rfl (congrArg Value.bool hc279003)) rfl rfl ?_
                      refine WL_pass rfl (yield_of rfl (congrArg Value.bool hc279003)) rfl rfl ?_
                      refine WL_step rfl rfl (Exec.pick_t (v := Value.bool (true)) rfl (congrArg Value.bool hc279003) rfl ?_)
                      refine WL_nil (at_normal ?_)
                      have hS279004 := (hS278916).f3
                      have hS279005 := ((hS279004).f3).f3
                      have hS279006 := (hS279005).f3
                      exact ⟨s278914, (PHeap.le_refl _), hS279006, p278862, p278863, p278864, rfl, p278866, p278869, p278870, (congrArg Value.bool (or_t hc279003)).symm⟩
                    · replace hc279003 := not_true hc279003
                      refine WL_run rfl (yield_of rfl (congrArg Value.bool hc279003)) rfl (Exec.move (v := Value.int .i64 (y278909)) rfl rfl ?_)
                      refine WL_run rfl (yield_of rfl (congrArg Value.bool hc279003)) rfl (Exec.move (v := v275941) rfl p278864 ?_)
                      refine WL_run rfl (yield_of rfl (congrArg Value.bool hc279003)) rfl (Exec.index_rep S61 rfl rfl rfl (r275942.mono (PHeap.le.trans (PHeap.le.trans (PHeap.le.trans (PHeap.le.trans l278228 l278556) l278585) l278860) l278915)) q278933 ?_)
                      intro b279007 o279008 a279009
                      refine WL_run rfl (yield_of rfl (congrArg Value.bool hc279003)) rfl (Exec.load_at (E := (encSlice (encInt .i64))) hS278916 A49 rfl rfl rfl a279009 ?_)
                      intro v279010 q279011
                      have r279012 := encSlice_val.1 q279011
                      refine WL_run rfl (yield_of rfl (congrArg Value.bool hc279003)) rfl (Exec.move (v := Value.int .i64 ((i275950 : Int))) rfl p278867 ?_)
                      refine WL_run rfl (yield_of rfl (congrArg Value.bool hc279003)) rfl (Exec.index_rep S49 rfl rfl rfl r279012 q278941 ?_)
                      intro b279013 o279014 a279015
                      refine WL_run rfl (yield_of rfl (congrArg Value.bool hc279003)) rfl (Exec.load_at (E := (encInt .i64)) hS278916 A3 rfl rfl rfl a279015 ?_)
                      intro v279016 q279017
                      obtain rfl := encInt_val.1 q279017
                      refine WL_run rfl (yield_of rfl (congrArg Value.bool hc279003)) rfl (Exec.neq rfl rfl rfl ?_)
                      refine WL_step rfl rfl (Exec.pick_f (v := Value.bool (!decide (y278909 = x278940))) rfl (congrArg Value.bool hc279003) rfl ?_)
                      refine WL_nil (at_normal ?_)
                      have hS279018 := (hS278916).f3
                      have hS279019 := ((hS279018).f3).f3
                      have hS279020 := (hS279019).f3
                      exact ⟨s278914, (PHeap.le_refl _), hS279020, p278862, p278863, p278864, rfl, p278866, p278869, p278870, (congrArg Value.bool (or_f hc279003)).symm⟩
                  · intro f279021 w279022 hM279023
                    obtain ⟨s279024, l279025, hS279026, p279027, p279028, p279029, p279030, p279031, p279032, p279033, p279034⟩ := hM279023
                    refine (at_normal ?_)
                    rcases ite_some hm278223 with ⟨hc279035, hm278223⟩ | ⟨hc279035, hm278223⟩
                    · refine W_cond_t p279034 hc279035 ?_
                      refine W_seq ?_
                      refine W_region ?_
                      refine WL_step rfl rfl (Exec.assign (v := Value.bool (false)) rfl rfl ?_)
                      refine WL_nil (at_normal ?_)
                      refine W_ret (ib_ret (at_ret (at_ret (ib_ret (at_ret (at_ret ?_))))))
                      have e279036 := Option.some.inj hm278223
                      subst c278219
                      have hq279037 := hr278210 _ (hres278224 (by intro _ h; cases h))
                      have e279038 := Option.some.inj hq279037
                      subst r
                      refine ⟨_, ret1 rfl, ?_⟩
                      have hS279039 := ((hS279026).f3).drop
                      have hS279040 := ((hS279039).f2).f2
                      have hS279041 := (hS279040).f2
                      exact ⟨s279024, (PHeap.le.trans (PHeap.le.trans (PHeap.le.trans (PHeap.le.trans (PHeap.le.trans (PHeap.le.trans l275939 l278228) l278556) l278585) l278860) l278915) l279025), hS279041, rfl⟩
                    · refine W_cond_f p279034 hc279035 ?_
                      replace hc279035 := not_true hc279035
                      refine W_skip (ib_normal (at_normal ?_))
                      refine W_region ?_
                      refine WL_step rfl rfl (Exec.add rfl p279033 rfl ?_)
                      refine WL_step rfl rfl (Exec.move (v := Value.int .i64 (IntKind.i64.wrap ((i275950 : Int) + 1))) rfl rfl ?_)
                      refine WL_nil (at_normal ?_)
                      have e279042 := Option.some.inj hm278223
                      subst c278219
                      have hS279043 := (hS279026).f3
                      have hS279044 := ((hS279043).f3).f3
                      have hS279045 := (hS279044).f3
                      refine ⟨_, rfl, ?_⟩; exact ⟨s279024, v278894, (PHeap.le.trans (PHeap.le.trans (PHeap.le.trans (PHeap.le.trans (PHeap.le.trans l278228 l278556) l278585) l278860) l278915) l279025), hS279045, p279027, p279028, p279029, p279030, p279031, p279032, (Eq.trans rfl (wrap_up hi278226 (by have h := must_some q275949; simp at h; simp only [maxLen]; omega)))⟩
      · intro t279046 f279047 w279048 hI279049 hres279050
        obtain ⟨first276696, all276698⟩ := t279046
        obtain ⟨s279051, v276697, l279052, hS279053, p279054, p279055, p279056, p279057, p279058, p279059, x279060⟩ := hI279049
        refine W_seq ?_
        refine W_region ?_
        refine WL_step rfl rfl (Exec.lss rfl x279060 p279059 ?_)
        refine WL_nil (at_normal ?_)
        refine W_seq ?_
        refine W_false (congrArg Value.bool (decide_eq_false (by omega))) ?_
        refine W_exit (at_exit (at_exit (ib_here (at_normal ?_))))
        have hS279061 := (hS279053).f3
        have hS279062 := ((hS279061).f3).f3
        have hS279063 := (hS279062).f3
        refine ⟨_, .inl hres279050, ?_⟩; exact ⟨s279051, v276697, l279052, hS279063, p279054, p279055, p279056, p279057, p279058, p279059⟩
    · rintro f279064 w279065 ⟨t279066, hc279067, hM279068⟩
      have hm := hc279067.elim (hn278211 _) (hb278212 _)
      clear hc279067
      obtain ⟨first278205, all278206⟩ := t279066
      replace hm := un2_eq hm
      obtain ⟨s279069, v278207, l279070, hS279071, p279072, p279073, p279074, p279075, p279076, p279077⟩ := hM279068
      refine (at_normal ?_)
      refine W_seq ?_
      refine W_region ?_
      refine WL_step rfl rfl (Exec.move (v := Value.pointer (some ⟨b150253, 0, none⟩)) rfl p279072 ?_)
      obtain ⟨t279090, q279091, hm⟩ := bind_some hm
      obtain ⟨y279092, y279093⟩ := t279090
      replace hm := un2_eq hm
      have hS279094 := ((hS279071).f2).f2
      have hS279095 := (hS279094).f2
      refine WL_step rfl rfl (Exec.call rfl rfl Try.func22 rfl N22 (args_cons rfl args_nil) ((stn_Network_Times_sim q279091 hS279095 ).mono ?_))
      rintro _ w279096 ⟨_, rfl, ⟨s279097, v279100, l279098, hS279099, rfl, r279101⟩⟩
      refine ⟨_, rfl, ?_⟩
      refine WL_step rfl rfl (Exec.move (v := Value.tuple #[v279100, errV 30 (y279093)]) rfl rfl ?_)
      refine WL_step rfl rfl (Exec.extract (v := v279100) rfl rfl rfl ?_)
      refine WL_step rfl rfl (Exec.extract (v := errV 30 (y279093)) rfl rfl rfl ?_)
      refine WL_step rfl rfl (Exec.assign (v := v279100) rfl rfl ?_)
      refine WL_step rfl rfl (Exec.assign (v := errV 30 (y279093)) rfl rfl ?_)
      refine WL_nil (at_normal ?_)
      refine W_seq ?_
      refine W_seq ?_
      refine W_region ?_
      refine WL_step rfl rfl (Exec.move (v := Value.bool (all278206)) rfl p279076 ?_)
      refine WL_step rfl rfl (Exec.not rfl rfl ?_)
      refine WL_nil (at_normal ?_)
      rcases ite_some hm with ⟨hc279102, hm⟩ | ⟨hc279102, hm⟩
      · refine W_cond_t rfl hc279102 ?_
        refine W_seq ?_
        refine W_mid (M := fun f' w' => ∃ (s279108 : PHeap) , PHeap.le s279097 s279108 ∧ St w0 s279108 (Res.box b150253 63 [v150254] :: Res.arr encRaw 49 v150254 hs150255 :: Res.rows (encInt .i64) 3 hs150255 x150252.d :: H) w' ∧ f' 6 = Value.bool (((decide ((y279092.length : Int) = 0)) && (base_Is_t y279093 3)))) ?_ ?_
        · refine W_region ?_
          refine WL_step rfl rfl (Exec.move (v := v279100) rfl rfl ?_)
          refine WL_step rfl rfl (Exec.len_rep S49 rfl rfl r279101 ?_)
          refine WL_step rfl rfl (Exec.eql rfl rfl rfl ?_)
          refine WL_step rfl rfl (Exec.move (v := Value.bool (decide ((y279092.length : Int) = 0))) rfl rfl ?_)
          by_cases hc279109 : (decide ((y279092.length : Int) = 0)) = true
          · refine WL_run rfl (yield_of rfl (congrArg Value.bool hc279109)) rfl (Exec.move (v := errV 30 (y279093)) rfl rfl ?_)
            refine WL_run rfl (yield_of rfl (congrArg Value.bool hc279109)) rfl (Exec.call rfl rfl Try.func11 rfl N11 (args_cons rfl (args_cons rfl args_nil)) ((base_Is_sim (base_Is_tot y279093 3) hS279099 ).mono ?_))
            rintro _ w279110 ⟨_, rfl, ⟨s279111, l279112, hS279113, rfl⟩⟩
            refine ⟨_, rfl, ?_⟩
            refine WL_step rfl rfl (Exec.pick_t (v := Value.bool ((base_Is_t y279093 3))) rfl (congrArg Value.bool hc279109) rfl ?_)
            refine WL_step rfl rfl (Exec.assign (v := Value.bool ((base_Is_t y279093 3))) rfl rfl ?_)
            refine WL_nil (at_normal ?_)
            have hS279114 := ((hS279113).f3).drop
            have hS279115 := ((hS279114).f2).f2
            have hS279116 := (hS279115).f2
            exact ⟨s279111, l279112, hS279116, (congrArg Value.bool (and_t hc279109)).symm⟩
          · replace hc279109 := not_true hc279109
            refine WL_pass rfl (yield_of rfl (congrArg Value.bool hc279109)) rfl rfl ?_
            refine WL_pass rfl (yield_of rfl (congrArg Value.bool hc279109)) rfl rfl ?_
            refine WL_step rfl rfl (Exec.pick_f (v := Value.bool (false)) rfl (congrArg Value.bool hc279109) rfl ?_)
            refine WL_step rfl rfl (Exec.assign (v := Value.bool (false)) rfl rfl ?_)
            refine WL_nil (at_normal ?_)
            have hS279117 := ((hS279099).f3).drop
            have hS279118 := ((hS279117).f2).f2
            have hS279119 := (hS279118).f2
            exact ⟨s279097, (PHeap.le_refl _), hS279119, (congrArg Value.bool (and_f hc279109)).symm⟩
        · intro f279120 w279121 hM279122
          obtain ⟨s279123, l279124, hS279125, p279126⟩ := hM279122
          refine (at_normal ?_)
          refine W_ret (at_ret ?_)
          have e279128 := Option.some.inj hm
          subst r
          refine ⟨_, ret1 rfl, ?_⟩
          have hS279129 := ((hS279125).f2).f2
          have hS279130 := (hS279129).f2
          exact ⟨s279123, (PHeap.le.trans (PHeap.le.trans (PHeap.le.trans l275939 l279070) l279098) l279124), hS279130, p279126⟩
      · refine W_cond_f rfl hc279102 ?_
        replace hc279102 := not_true hc279102
        refine W_skip (at_normal ?_)
        refine W_seq ?_
        obtain ⟨z279140, ht279141, hm⟩ := bind_some hm
        refine W_mid (M := fun f' w' => (fun (z279140 : Bool) => ∃ (s279142 : PHeap) , PHeap.le s279097 s279142 ∧ St w0 s279142 (Res.box b150253 63 [v150254] :: Res.arr encRaw 49 v150254 hs150255 :: Res.rows (encInt .i64) 3 hs150255 x150252.d :: H) w' ∧ f' 6 = Value.bool (z279140)) z279140) ?_ ?_
        · refine W_region ?_
          refine WL_step rfl rfl (Exec.move (v := errV 30 (y279093)) rfl rfl ?_)
          refine WL_step rfl rfl (Exec.err_eql_nil (T := 30) Try.underlying26 rfl rfl rfl ?_)
          refine WL_step rfl rfl (Exec.move (v := Value.bool (y279093.isNone)) rfl rfl ?_)
          rcases ite_some ht279141 with ⟨hc279143, ht279141⟩ | ⟨hc279143, ht279141⟩
          · refine WL_run rfl (yield_of rfl (congrArg Value.bool hc279143)) rfl (Exec.move (v := v279100) rfl rfl ?_)
            refine WL_run rfl (yield_of rfl (congrArg Value.bool hc279143)) rfl (Exec.move (v := v278207) rfl p279075 ?_)
            obtain ⟨y279146, q279145, ht279141⟩ := bind_some ht279141
            have hS279147 := (hS279099).f3
            refine WL_run rfl (yield_of rfl (congrArg Value.bool hc279143)) rfl (Exec.call rfl rfl Try.func23 rfl N23 (args_cons rfl (args_cons rfl args_nil)) ((base_Ints_o_sim q279145 hS279147 r279101).mono ?_))
            rintro _ w279148 ⟨_, rfl, ⟨s279149, l279150, hS279151, rfl⟩⟩
            refine ⟨_, rfl, ?_⟩
            refine WL_step rfl rfl (Exec.pick_t (v := Value.bool (y279146)) rfl (congrArg Value.bool hc279143) rfl ?_)
            refine WL_step rfl rfl (Exec.assign (v := Value.bool (y279146)) rfl rfl ?_)
            refine WL_nil (at_normal ?_)
            have e279152 := Option.some.inj ht279141
            subst z279140
            have hS279153 := (hS279151).drop
            have hS279154 := ((hS279153).f2).f2
            have hS279155 := (hS279154).f2
            exact ⟨s279149, l279150, hS279155, rfl⟩
          · replace hc279143 := not_true hc279143
            refine WL_pass rfl (yield_of rfl (congrArg Value.bool hc279143)) rfl rfl ?_
            refine WL_pass rfl (yield_of rfl (congrArg Value.bool hc279143)) rfl rfl ?_
            refine WL_pass rfl (yield_of rfl (congrArg Value.bool hc279143)) rfl rfl ?_
            refine WL_step rfl rfl (Exec.pick_f (v := Value.bool (false)) rfl (congrArg Value.bool hc279143) rfl ?_)
            refine WL_step rfl rfl (Exec.assign (v := Value.bool (false)) rfl rfl ?_)
            refine WL_nil (at_normal ?_)
            have e279156 := Option.some.inj ht279141
            subst z279140
            have hS279157 := ((hS279099).f3).drop
            have hS279158 := ((hS279157).f2).f2
            have hS279159 := (hS279158).f2
            exact ⟨s279097, (PHeap.le_refl _), hS279159, rfl⟩
        · intro f279160 w279161 hM279162
          obtain ⟨s279163, l279164, hS279165, p279166⟩ := hM279162
          refine (at_normal ?_)
          refine W_ret ?_
          have e279168 := Option.some.inj hm
          subst r
          refine ⟨_, ret1 rfl, ?_⟩
          have hS279169 := ((hS279165).f2).f2
          have hS279170 := (hS279169).f2
          exact ⟨s279163, (PHeap.le.trans (PHeap.le.trans (PHeap.le.trans l275939 l279070) l279098) l279164), hS279170, p279166⟩

theorem stn_Network_Copy_nil_sim {w0 w : World} {s : PHeap} {H : List Res}   {r : Unit} (hm : stn_Network_Copy_nil_p  = some r) (hS : St w0 s (H) w)  :
    Calls Try.prog 21 #[Value.pointer none] w fun e w' => ∃ v, e = .returned v ∧ ((fun (_ : Unit) => ∃ (s280623 : PHeap) , PHeap.le s s280623 ∧ St w0 s280623 (H) w' ∧ v = Value.pointer none) r) := by
  unfold stn_Network_Copy_nil_p at hm
  refine calls_of_W Try.func21 rfl rfl ?_
  refine W_seq ?_
  refine W_region ?_
  refine WL_step rfl rfl (Exec.assign (v := Value.pointer none) rfl rfl ?_)
  refine WL_nil (at_normal ?_)
  refine W_seq ?_
  refine W_seq ?_
  refine W_region ?_
  refine WL_step rfl rfl (Exec.move (v := Value.pointer none) rfl rfl ?_)
  refine WL_step rfl rfl (Exec.ptr_eql_nil Try.underlying24 rfl rfl rfl ?_)
  refine WL_nil (at_normal ?_)
  refine W_true rfl ?_
  refine W_seq ?_
  refine W_region ?_
  refine WL_step rfl rfl (Exec.assign (v := Value.pointer none) rfl rfl ?_)
  refine WL_nil (at_normal ?_)
  refine W_ret (at_ret ?_)
  have e280625 := Option.some.inj hm
  subst r
  refine ⟨_, ret1 rfl, ?_⟩
  exact ⟨s, (PHeap.le_refl _), hS, rfl⟩

theorem N6 : (Try.f6.name == "runtime.NumGoroutine") = false := by kernel_rfl

theorem law54_StnCopies_sim {w0 w : World} {s : PHeap} {H : List Res} {n1 : Int} {bounds2 : (List Bound)} {more5 : (List Bound)} {v3 : Value} {v6 : Value} {r : Bool} (hm : law54_StnCopies_p n1 bounds2 more5 = some r) (hS : St w0 s (H) w) (a4 : SliceRep encBound s v3 bounds2) (a7 : SliceRep encBound s v6 more5) :
    Calls Try.prog 6 #[Value.int .u8 (n1), v3, v6] w fun e w' => ∃ v, e = .returned v ∧ ((fun (y280635 : Bool) => ∃ (s280636 : PHeap) , PHeap.le s s280636 ∧ St w0 s280636 (H) w' ∧ v = Value.bool (y280635)) r) := by
  unfold law54_StnCopies_p at hm
  refine calls_of_W Try.func6 rfl rfl ?_
  refine W_seq ?_
  refine W_region ?_
  refine WL_step rfl rfl (Exec.assign (v := Value.bool (false)) rfl rfl ?_)
  refine WL_nil (at_normal ?_)
  refine W_seq ?_
  refine W_seq ?_
  obtain ⟨z280646, ht280647, hm⟩ := bind_some hm
  refine W_mid (M := fun f' w' => (fun (z280646 : Bool) => ∃ (s280648 : PHeap) , PHeap.le s s280648 ∧ St w0 s280648 (H) w' ∧ f' 0 = Value.int .u8 (n1) ∧ f' 1 = v3 ∧ f' 2 = v6 ∧ f' 30 = Value.bool (z280646)) z280646) ?_ ?_
  · refine W_region ?_
    obtain ⟨y280651, q280650, ht280647⟩ := bind_some ht280647
    refine WL_step rfl rfl (Exec.call rfl rfl Try.func9 rfl N9 args_nil ((law54_awake_sim q280650 hS ).mono ?_))
    rintro _ w280652 ⟨_, rfl, ⟨s280653, l280654, hS280655, rfl⟩⟩
    refine ⟨_, rfl, ?_⟩
    refine WL_step rfl rfl (Exec.not rfl rfl ?_)
    refine WL_step rfl rfl (Exec.move (v := Value.bool (!y280651)) rfl rfl ?_)
    rcases ite_some ht280647 with ⟨hc280656, ht280647⟩ | ⟨hc280656, ht280647⟩
    · refine WL_pass rfl (yield_of rfl (congrArg Value.bool hc280656)) rfl rfl ?_
      refine WL_pass rfl (yield_of rfl (congrArg Value.bool hc280656)) rfl rfl ?_
      refine WL_pass rfl (yield_of rfl (congrArg Value.bool hc280656)) rfl rfl ?_
      refine WL_step rfl rfl (Exec.pick_t (v := Value.bool (true)) rfl (congrArg Value.bool hc280656) rfl ?_)
      refine WL_step rfl rfl (Exec.move (v := Value.bool (true)) rfl rfl ?_)
      refine WL_pass rfl (yield_of rfl rfl) rfl rfl ?_
      refine WL_pass rfl (yield_of rfl rfl) rfl rfl ?_
      refine WL_pass rfl (yield_of rfl rfl) rfl rfl ?_
      refine WL_step rfl rfl (Exec.pick_t (v := Value.bool (true)) rfl rfl rfl ?_)
      refine WL_nil (at_normal ?_)
      have e280657 := Option.some.inj ht280647
      subst z280646
      exact ⟨s280653, l280654, hS280655, rfl, rfl, rfl, rfl⟩
    · replace hc280656 := not_true hc280656
      refine WL_run rfl (yield_of rfl (congrArg Value.bool hc280656)) rfl (Exec.move (v := v3) rfl rfl ?_)
      refine WL_run rfl (yield_of rfl (congrArg Value.bool hc280656)) rfl (Exec.len_rep S22 rfl rfl (a4.mono l280654) ?_)
      refine WL_run rfl (yield_of rfl (congrArg Value.bool hc280656)) rfl (Exec.gtr rfl rfl rfl ?_)
      refine WL_step rfl rfl (Exec.pick_f (v := Value.bool (decide (20 < (bounds2.length : Int)))) rfl (congrArg Value.bool hc280656) rfl ?_)
      refine WL_step rfl rfl (Exec.move (v := Value.bool (decide (20 < (bounds2.length : Int)))) rfl rfl ?_)
      rcases ite_some ht280647 with ⟨hc280658, ht280647⟩ | ⟨hc280658, ht280647⟩
      · refine WL_pass rfl (yield_of rfl (congrArg Value.bool hc280658)) rfl rfl ?_
        refine WL_pass rfl (yield_of rfl (congrArg Value.bool hc280658)) rfl rfl ?_
        refine WL_pass rfl (yield_of rfl (congrArg Value.bool hc280658)) rfl rfl ?_
        refine WL_step rfl rfl (Exec.pick_t (v := Value.bool (true)) rfl (congrArg Value.bool hc280658) rfl ?_)
        refine WL_nil (at_normal ?_)
        have e280659 := Option.some.inj ht280647
        subst z280646
        exact ⟨s280653, l280654, hS280655, rfl, rfl, rfl, rfl⟩
      · replace hc280658 := not_true hc280658
        refine WL_run rfl (yield_of rfl (congrArg Value.bool hc280658)) rfl (Exec.move (v := v6) rfl rfl ?_)
        refine WL_run rfl (yield_of rfl (congrArg Value.bool hc280658)) rfl (Exec.len_rep S22 rfl rfl (a7.mono l280654) ?_)
        refine WL_run rfl (yield_of rfl (congrArg Value.bool hc280658)) rfl (Exec.gtr rfl rfl rfl ?_)
        refine WL_step rfl rfl (Exec.pick_f (v := Value.bool (decide (20 < (more5.length : Int)))) rfl (congrArg Value.bool hc280658) rfl ?_)
        refine WL_nil (at_normal ?_)
        have e280660 := Option.some.inj ht280647
        subst z280646
        exact ⟨s280653, l280654, hS280655, rfl, rfl, rfl, rfl⟩
  · intro f280661 w280662 hM280663
    obtain ⟨s280664, l280665, hS280666, p280667, p280668, p280669, p280670⟩ := hM280663
    refine (at_normal ?_)
    rcases ite_some hm with ⟨hc280671, hm⟩ | ⟨hc280671, hm⟩
    · refine W_cond_t p280670 hc280671 ?_
      refine W_seq ?_
      refine W_region ?_
      obtain ⟨y280681, q280680, hm⟩ := bind_some hm
      refine WL_step rfl rfl (Exec.call rfl rfl Try.func9 rfl N9 args_nil ((law54_awake_sim q280680 hS280666 ).mono ?_))
      rintro _ w280682 ⟨_, rfl, ⟨s280683, l280684, hS280685, rfl⟩⟩
      refine ⟨_, rfl, ?_⟩
      refine WL_step rfl rfl (Exec.assign (v := Value.bool (y280681)) rfl rfl ?_)
      refine WL_nil (at_normal ?_)
      refine W_ret (at_ret ?_)
      have e280687 := Option.some.inj hm
      subst r
      refine ⟨_, ret1 rfl, ?_⟩
      exact ⟨s280683, (PHeap.le.trans l280665 l280684), hS280685, rfl⟩
    · refine W_cond_f p280670 hc280671 ?_
      replace hc280671 := not_true hc280671
      refine W_skip (at_normal ?_)
      refine W_seq ?_
      refine W_region ?_
      refine WL_step rfl rfl (Exec.move (v := Value.int .u8 (n1)) rfl p280667 ?_)
      refine WL_step rfl rfl (Exec.convert_int (by rw [Try.underlying5]; rfl) Try.underlying3 rfl rfl ?_)
      refine WL_step rfl rfl (Exec.rem rfl rfl rfl (by decide) ?_)
      refine WL_step rfl rfl (Exec.add rfl rfl rfl ?_)
      refine WL_step rfl rfl (Exec.assign (v := Value.int .i64 (IntKind.i64.wrap (1 + ((IntKind.i64.wrap n1).tmod 8)))) rfl rfl ?_)
      refine WL_nil (at_normal ?_)
      refine W_seq ?_
      refine W_region ?_
      refine WL_step rfl rfl (Exec.move (v := Value.int .i64 (IntKind.i64.wrap (1 + ((IntKind.i64.wrap n1).tmod 8)))) rfl rfl ?_)
      obtain ⟨t280706, q280707, hm⟩ := bind_some hm
      obtain ⟨pd280708, y280709⟩ := t280706
      replace hm := un2_eq hm
      refine WL_step rfl rfl (Exec.call rfl rfl Try.func10 rfl N10 (args_cons rfl args_nil) ((stn_New_sim q280707 hS280666 ).mono ?_))
      rintro _ w280710 ⟨_, rfl, hp280711⟩
      refine ⟨_, rfl, ?_⟩
      rcases hp280711 with ⟨d280712, rfl, s280713, v280716, v280717, v280718, l280714, hS280715, rfl⟩ | ⟨rfl, s280720, l280721, hS280722, rfl⟩
      · replace hm := optC_some hm
        refine WL_step rfl rfl (Exec.move (v := Value.tuple #[Value.pointer (some ⟨v280716, 0, none⟩), errV 30 (y280709)]) rfl rfl ?_)
        refine WL_step rfl rfl (Exec.extract (v := Value.pointer (some ⟨v280716, 0, none⟩)) rfl rfl rfl ?_)
        refine WL_step rfl rfl (Exec.extract (v := errV 30 (y280709)) rfl rfl rfl ?_)
        refine WL_step rfl rfl (Exec.assign (v := Value.pointer (some ⟨v280716, 0, none⟩)) rfl rfl ?_)
        refine WL_step rfl rfl (Exec.assign (v := errV 30 (y280709)) rfl rfl ?_)
        refine WL_nil (at_normal ?_)
        refine W_seq ?_
        refine W_seq ?_
        refine W_region ?_
        refine WL_step rfl rfl (Exec.move (v := errV 30 (y280709)) rfl rfl ?_)
        refine WL_step rfl rfl (Exec.err_neq_nil (T := 30) Try.underlying26 rfl rfl rfl ?_)
        refine WL_nil (at_normal ?_)
        rcases ite_some hm with ⟨hc280724, hm⟩ | ⟨hc280724, hm⟩
        · refine W_cond_t rfl hc280724 ?_
          refine W_seq ?_
          refine W_region ?_
          refine WL_step rfl rfl (Exec.assign (v := Value.bool (false)) rfl rfl ?_)
          refine WL_nil (at_normal ?_)
          refine W_ret (at_ret ?_)
          have e280726 := Option.some.inj hm
          subst r
          refine ⟨_, ret1 rfl, ?_⟩
          have hS280727 := (hS280715).drop
          have hS280728 := ((hS280727).drop).drop
          exact ⟨s280713, (PHeap.le.trans l280665 l280714), hS280728, rfl⟩
        · refine W_cond_f rfl hc280724 ?_
          replace hc280724 := not_true hc280724
          refine W_skip (at_normal ?_)
          refine W_seq ?_
          refine W_region ?_
          refine WL_step rfl rfl (Exec.assign (v := Value.slice none 0 0) rfl rfl ?_)
          refine WL_nil (at_normal ?_)
          refine W_seq ?_
          refine W_seq ?_
          refine W_region ?_
          refine WL_step rfl rfl (Exec.move (v := v3) rfl p280668 ?_)
          refine WL_step rfl rfl (Exec.len_rep S22 rfl rfl (a4.mono (PHeap.le.trans l280665 l280714)) ?_)
          refine WL_step rfl rfl (Exec.move (v := Value.int .i64 (0)) rfl rfl ?_)
          refine WL_nil (at_normal ?_)
          obtain ⟨c281072, hB281073, hr281074, hn281075, hb281076⟩ := ctl_some hm
          refine W_mid (M := fun f' w' => ∃ s', (c281072 = .next s' ∨ c281072 = .brk s') ∧ (un2 fun (l281069 : (List Bound)) (l281070 : (List (List Int))) => ∃ (s281078 : PHeap) (v281071 : Value), PHeap.le s280713 s281078 ∧ St w0 s281078 (Res.box v280716 63 [v280717] :: Res.arr encRaw 49 v280717 v280718 :: Res.rows (encInt .i64) 3 v280718 l281070 :: H) w' ∧ f' 2 = v6 ∧ f' 7 = Value.int .i64 (IntKind.i64.wrap (1 + ((IntKind.i64.wrap n1).tmod 8))) ∧ f' 8 = Value.pointer (some ⟨v280716, 0, none⟩) ∧ f' 10 = v281071 ∧ f' 43 = v3 ∧ f' 44 = Value.int .i64 ((bounds2.length : Int)) ∧ SliceRep encBound s281078 v281071 l281069) s') ?_ ?_
          · refine W_block (W_forC (fun k' s' f' w' => (un2 fun (l280840 : (List Bound)) (l280842 : (List (List Int))) => ∃ (s281077 : PHeap) (v280841 : Value), PHeap.le s280713 s281077 ∧ St w0 s281077 (Res.box v280716 63 [v280717] :: Res.arr encRaw 49 v280717 v280718 :: Res.rows (encInt .i64) 3 v280718 l280842 :: H) w' ∧ f' 2 = v6 ∧ f' 7 = Value.int .i64 (IntKind.i64.wrap (1 + ((IntKind.i64.wrap n1).tmod 8))) ∧ f' 8 = Value.pointer (some ⟨v280716, 0, none⟩) ∧ f' 10 = v280841 ∧ f' 43 = v3 ∧ f' 44 = Value.int .i64 ((bounds2.length : Int)) ∧ f' 45 = Value.int .i64 (k' : Int) ∧ SliceRep encBound s281077 v280841 l280840) s') hB281073 ?_ ?_ ?_)
            · have hS281079 := ((hS280715).f2).f2
              have hS281080 := (hS281079).f2
              exact ⟨s280713, (Value.slice none 0 0), (PHeap.le_refl _), hS281080, p280669, rfl, rfl, rfl, rfl, rfl, rfl, (SliceRep.nil _ _)⟩
            · intro i280729 t281088 c281082 f281083 w281084 hi281089 hI281085 hm281086 hres281087
              obtain ⟨l280840, l280842⟩ := t281088
              replace hm281086 := un2_eq hm281086
              obtain ⟨s281090, v280841, l281091, hS281092, p281093, p281094, p281095, p281096, p281097, p281098, x281099, hr_v280841⟩ := hI281085
              refine W_seq ?_
              refine W_region ?_
              refine WL_step rfl rfl (Exec.lss rfl x281099 p281098 ?_)
              refine WL_nil (at_normal ?_)
              refine W_seq ?_
              refine W_true (congrArg Value.bool (decide_eq_true (by omega))) ?_
              refine W_skip (at_normal ?_)
              refine W_seq ?_
              refine W_block ?_
              refine W_seq ?_
              refine W_region ?_
              obtain ⟨x281112, q281113, hm281086⟩ := bind_some hm281086
              refine WL_step rfl rfl (Exec.index_rep S22 rfl p281097 x281099 (a4.mono (PHeap.le.trans (PHeap.le.trans l280665 l280714) l281091)) q281113 ?_)
              intro b281114 o281115 a281116
              refine WL_step rfl rfl (Exec.load_at (E := encBound) hS281092 A32 rfl rfl rfl a281116 ?_)
              intro v281117 q281118
              obtain rfl := encBound_val.1 q281118
              refine WL_step rfl rfl (Exec.alloc (cs := [Value.int .i64 (0), Value.int .i64 (0), Value.int .i64 (0)]) hS281092 Z32 rfl rfl ?_)
              intro b281119 w281120 hS281121
              refine WL_step rfl rfl (Exec.store_box (ds := [Value.int .i64 (x281112.A), Value.int .i64 (x281112.B), Value.int .i64 (x281112.Most)]) (es := [Value.int .i64 (x281112.A), Value.int .i64 (x281112.B), Value.int .i64 (x281112.Most)]) hS281121 A32 rfl rfl rfl rfl (one_cons rfl (one_cons rfl (one_cons rfl one_nil))) (Nat.le_of_ble_eq_true rfl) rfl ?_)
              intro w281122 hS281123
              refine WL_nil (at_normal ?_)
              refine W_seq ?_
              refine W_region ?_
              refine WL_step rfl rfl (Exec.move (v := Value.int .i64 (IntKind.i64.wrap (1 + ((IntKind.i64.wrap n1).tmod 8)))) rfl p281094 ?_)
              refine WL_step rfl rfl (Exec.move (v := v280841) rfl p281096 ?_)
              refine WL_step rfl rfl (Exec.load_box_agg (ds := [Value.int .i64 (x281112.A), Value.int .i64 (x281112.B), Value.int .i64 (x281112.Most)]) (hS281123) A32 rfl rfl rfl ?_)
              obtain ⟨t281134, q281135, hm281086⟩ := bind_some hm281086
              obtain ⟨y281136, y281137⟩ := t281134
              replace hm281086 := un2_eq hm281086
              refine WL_step rfl rfl (Exec.call rfl rfl Try.func12 rfl N12 (args_cons rfl (args_cons rfl (args_cons rfl args_nil))) ((ref54_Add_sim q281135 hS281123 hr_v280841).mono ?_))
              rintro _ w281138 ⟨_, rfl, ⟨s281139, v281142, l281140, hS281141, rfl, r281143⟩⟩
              refine ⟨_, rfl, ?_⟩
              refine WL_step rfl rfl (Exec.move (v := Value.tuple #[v281142, Value.int .i64 (y281137)]) rfl rfl ?_)
              refine WL_step rfl rfl (Exec.extract (v := v281142) rfl rfl rfl ?_)
              refine WL_step rfl rfl (Exec.extract (v := Value.int .i64 (y281137)) rfl rfl rfl ?_)
              refine WL_step rfl rfl (Exec.assign (v := v281142) rfl rfl ?_)
              refine WL_nil (at_normal ?_)
              refine W_seq ?_
              refine W_region ?_
              refine WL_step rfl rfl (Exec.move (v := Value.pointer (some ⟨v280716, 0, none⟩)) rfl p281095 ?_)
              refine WL_step rfl rfl (Exec.load_box_agg (ds := [Value.int .i64 (x281112.A), Value.int .i64 (x281112.B), Value.int .i64 (x281112.Most)]) (hS281141) A32 rfl rfl rfl ?_)
              obtain ⟨t281154, q281155, hm281086⟩ := bind_some hm281086
              obtain ⟨y281156, l281157⟩ := t281154
              replace hm281086 := un2_eq hm281086
              have hS281158 := ((hS281141).f3).f3
              have hS281159 := (hS281158).f3
              refine WL_step rfl rfl (Exec.call rfl rfl Try.func14 rfl N14 (args_cons rfl (args_cons rfl args_nil)) ((stn_Network_Add_sim q281155 hS281159 ).mono ?_))
              rintro _ w281160 ⟨_, rfl, ⟨s281161, l281162, hS281163, rfl⟩⟩
              refine ⟨_, rfl, ?_⟩
              refine WL_step rfl rfl (Exec.assign (v := errV 30 (y281156)) rfl rfl ?_)
              refine WL_nil (at_normal ?_)
              refine W_seq ?_
              refine W_mid (M := fun f' w' => ∃ (s281174 : PHeap) , PHeap.le s281161 s281174 ∧ St w0 s281174 (Res.box v280716 63 [v280717] :: Res.arr encRaw 49 v280717 v280718 :: Res.rows (encInt .i64) 3 v280718 l281157 :: H) w' ∧ f' 2 = v6 ∧ f' 7 = Value.int .i64 (IntKind.i64.wrap (1 + ((IntKind.i64.wrap n1).tmod 8))) ∧ f' 8 = Value.pointer (some ⟨v280716, 0, none⟩) ∧ f' 10 = v281142 ∧ f' 43 = v3 ∧ f' 44 = Value.int .i64 ((bounds2.length : Int)) ∧ f' 45 = Value.int .i64 ((i280729 : Int)) ∧ f' 70 = Value.bool ((y281156.isSome && ((!(base_Is_t y281156 1)) && !(base_Is_t y281156 21))))) ?_ ?_
              · refine W_region ?_
                refine WL_step rfl rfl (Exec.move (v := errV 30 (y281156)) rfl rfl ?_)
                refine WL_step rfl rfl (Exec.err_neq_nil (T := 30) Try.underlying26 rfl rfl rfl ?_)
                refine WL_step rfl rfl (Exec.move (v := Value.bool (y281156.isSome)) rfl rfl ?_)
                by_cases hc281175 : y281156.isSome = true
                · refine WL_run rfl (yield_of rfl (congrArg Value.bool hc281175)) rfl (Exec.move (v := errV 30 (y281156)) rfl rfl ?_)
                  refine WL_run rfl (yield_of rfl (congrArg Value.bool hc281175)) rfl (Exec.call rfl rfl Try.func11 rfl N11 (args_cons rfl (args_cons rfl args_nil)) ((base_Is_sim (base_Is_tot y281156 1) hS281163 ).mono ?_))
                  rintro _ w281176 ⟨_, rfl, ⟨s281177, l281178, hS281179, rfl⟩⟩
                  refine ⟨_, rfl, ?_⟩
                  refine WL_run rfl (yield_of rfl (congrArg Value.bool hc281175)) rfl (Exec.not rfl rfl ?_)
                  refine WL_step rfl rfl (Exec.pick_t (v := Value.bool (!(base_Is_t y281156 1))) rfl (congrArg Value.bool hc281175) rfl ?_)
                  refine WL_step rfl rfl (Exec.move (v := Value.bool (!(base_Is_t y281156 1))) rfl rfl ?_)
                  by_cases hc281180 : (!(base_Is_t y281156 1)) = true
                  · refine WL_run rfl (yield_of rfl (congrArg Value.bool hc281180)) rfl (Exec.move (v := errV 30 (y281156)) rfl rfl ?_)
                    refine WL_run rfl (yield_of rfl (congrArg Value.bool hc281180)) rfl (Exec.call rfl rfl Try.func11 rfl N11 (args_cons rfl (args_cons rfl args_nil)) ((base_Is_sim (base_Is_tot y281156 21) hS281179 ).mono ?_))
                    rintro _ w281181 ⟨_, rfl, ⟨s281182, l281183, hS281184, rfl⟩⟩
                    refine ⟨_, rfl, ?_⟩
                    refine WL_run rfl (yield_of rfl (congrArg Value.bool hc281180)) rfl (Exec.not rfl rfl ?_)
                    refine WL_step rfl rfl (Exec.pick_t (v := Value.bool (!(base_Is_t y281156 21))) rfl (congrArg Value.bool hc281180) rfl ?_)
                    refine WL_nil (at_normal ?_)
                    have hS281185 := ((hS281184).f3).drop
                    have hS281186 := ((hS281185).f2).f2
                    have hS281187 := (hS281186).f2
                    exact ⟨s281182, (PHeap.le.trans l281178 l281183), hS281187, p281093, p281094, p281095, rfl, p281097, p281098, x281099, (congrArg Value.bool (Eq.trans (and_t hc281175) (and_t hc281180))).symm⟩
                  · replace hc281180 := not_true hc281180
                    refine WL_pass rfl (yield_of rfl (congrArg Value.bool hc281180)) rfl rfl ?_
                    refine WL_pass rfl (yield_of rfl (congrArg Value.bool hc281180)) rfl rfl ?_
                    refine WL_pass rfl (yield_of rfl (congrArg Value.bool hc281180)) rfl rfl ?_
                    refine WL_step rfl rfl (Exec.pick_f (v := Value.bool (false)) rfl (congrArg Value.bool hc281180) rfl ?_)
                    refine WL_nil (at_normal ?_)
                    have hS281188 := ((hS281179).f3).drop
                    have hS281189 := ((hS281188).f2).f2
                    have hS281190 := (hS281189).f2
                    exact ⟨s281177, l281178, hS281190, p281093, p281094, p281095, rfl, p281097, p281098, x281099, (congrArg Value.bool (Eq.trans (and_t hc281175) (and_f hc281180))).symm⟩
                · replace hc281175 := not_true hc281175
                  refine WL_pass rfl (yield_of rfl (congrArg Value.bool hc281175)) rfl rfl ?_
                  refine WL_pass rfl (yield_of rfl (congrArg Value.bool hc281175)) rfl rfl ?_
                  refine WL_pass rfl (yield_of rfl (congrArg Value.bool hc281175)) rfl rfl ?_
                  refine WL_step rfl rfl (Exec.pick_f (v := Value.bool (false)) rfl (congrArg Value.bool hc281175) rfl ?_)
                  refine WL_step rfl rfl (Exec.move (v := Value.bool (false)) rfl rfl ?_)
                  refine WL_pass rfl (yield_of rfl rfl) rfl rfl ?_
                  refine WL_pass rfl (yield_of rfl rfl) rfl rfl ?_
                  refine WL_pass rfl (yield_of rfl rfl) rfl rfl ?_
                  refine WL_step rfl rfl (Exec.pick_f (v := Value.bool (false)) rfl rfl rfl ?_)
                  refine WL_nil (at_normal ?_)
                  have hS281191 := ((hS281163).f3).drop
                  have hS281192 := ((hS281191).f2).f2
                  have hS281193 := (hS281192).f2
                  exact ⟨s281161, (PHeap.le_refl _), hS281193, p281093, p281094, p281095, rfl, p281097, p281098, x281099, (congrArg Value.bool (and_f hc281175)).symm⟩
              · intro f281194 w281195 hM281196
                obtain ⟨s281197, l281198, hS281199, p281200, p281201, p281202, p281203, p281204, p281205, p281206, p281207⟩ := hM281196
                refine (at_normal ?_)
                rcases ite_some hm281086 with ⟨hc281208, hm281086⟩ | ⟨hc281208, hm281086⟩
                · refine W_cond_t p281207 hc281208 ?_
                  refine W_seq ?_
                  refine W_region ?_
                  refine WL_step rfl rfl (Exec.assign (v := Value.bool (false)) rfl rfl ?_)
                  refine WL_nil (at_normal ?_)
                  refine W_ret (ib_ret (at_ret (at_ret (ib_ret (at_ret (at_ret ?_))))))
                  have e281209 := Option.some.inj hm281086
                  subst c281082
                  have hq281210 := hr281074 _ (hres281087 (by intro _ h; cases h))
                  have e281211 := Option.some.inj hq281210
                  subst r
                  refine ⟨_, ret1 rfl, ?_⟩
                  have hS281212 := (hS281199).drop
                  have hS281213 := ((hS281212).drop).drop
                  exact ⟨s281197, (PHeap.le.trans (PHeap.le.trans (PHeap.le.trans (PHeap.le.trans (PHeap.le.trans l280665 l280714) l281091) l281140) l281162) l281198), hS281213, rfl⟩
                · refine W_cond_f p281207 hc281208 ?_
                  replace hc281208 := not_true hc281208
                  refine W_skip (ib_normal (at_normal ?_))
                  refine W_region ?_
                  refine WL_step rfl rfl (Exec.add rfl p281206 rfl ?_)
                  refine WL_step rfl rfl (Exec.move (v := Value.int .i64 (IntKind.i64.wrap ((i280729 : Int) + 1))) rfl rfl ?_)
                  refine WL_nil (at_normal ?_)
                  have e281214 := Option.some.inj hm281086
                  subst c281082
                  have hS281215 := ((hS281199).f2).f2
                  have hS281216 := (hS281215).f2
                  refine ⟨_, rfl, ?_⟩; exact ⟨s281197, v281142, (PHeap.le.trans (PHeap.le.trans (PHeap.le.trans l281091 l281140) l281162) l281198), hS281216, p281200, p281201, p281202, p281203, p281204, p281205, (Eq.trans rfl (wrap_up hi281089 (SliceRep.le (a4.mono (PHeap.le.trans l280665 l280714))))), (r281143.mono (PHeap.le.trans l281162 l281198))⟩
            · intro t281217 f281218 w281219 hI281220 hres281221
              obtain ⟨l280840, l280842⟩ := t281217
              obtain ⟨s281222, v280841, l281223, hS281224, p281225, p281226, p281227, p281228, p281229, p281230, x281231, hr_v280841⟩ := hI281220
              refine W_seq ?_
              refine W_region ?_
              refine WL_step rfl rfl (Exec.lss rfl x281231 p281230 ?_)
              refine WL_nil (at_normal ?_)
              refine W_seq ?_
              refine W_false (congrArg Value.bool (decide_eq_false (by omega))) ?_
              refine W_exit (at_exit (at_exit (ib_here (at_normal ?_))))
              have hS281232 := ((hS281224).f2).f2
              have hS281233 := (hS281232).f2
              refine ⟨_, .inl hres281221, ?_⟩; exact ⟨s281222, v280841, l281223, hS281233, p281225, p281226, p281227, p281228, p281229, p281230, hr_v280841⟩
          · rintro f281234 w281235 ⟨t281236, hc281237, hM281238⟩
            have hm := hc281237.elim (hn281075 _) (hb281076 _)
            clear hc281237
            obtain ⟨l281069, l281070⟩ := t281236
            replace hm := un2_eq hm
            obtain ⟨s281239, v281071, l281240, hS281241, p281242, p281243, p281244, p281245, p281246, p281247, hr_v281071⟩ := hM281238
            refine (at_normal ?_)
            refine W_seq ?_
            refine W_region ?_
            refine WL_step rfl rfl (Exec.move (v := Value.pointer (some ⟨v280716, 0, none⟩)) rfl p281244 ?_)
            obtain ⟨d281262, q281261, hm⟩ := bind_some hm
            have hS281263 := ((hS281241).f2).f2
            have hS281264 := (hS281263).f2
            refine WL_step rfl rfl (Exec.call rfl rfl Try.func21 rfl N21 (args_cons rfl args_nil) ((stn_Network_Copy_sim q281261 hS281264 ).mono ?_))
            rintro _ w281265 ⟨_, rfl, ⟨s281266, v281269, v281270, v281271, l281267, hS281268, rfl⟩⟩
            refine ⟨_, rfl, ?_⟩
            refine WL_step rfl rfl (Exec.assign (v := Value.pointer (some ⟨v281269, 0, none⟩)) rfl rfl ?_)
            refine WL_nil (at_normal ?_)
            refine W_seq ?_
            refine W_seq ?_
            refine W_region ?_
            refine WL_step rfl rfl (Exec.move (v := Value.pointer (some ⟨v281269, 0, none⟩)) rfl rfl ?_)
            refine WL_step rfl rfl (Exec.ptr_eql_nil Try.underlying24 rfl rfl rfl ?_)
            refine WL_step rfl rfl (Exec.move (v := Value.bool (false)) rfl rfl ?_)
            refine WL_run rfl (yield_of rfl rfl) rfl (Exec.move (v := Value.pointer (some ⟨v281269, 0, none⟩)) rfl rfl ?_)
            refine WL_run rfl (yield_of rfl rfl) rfl (Exec.move (v := Value.int .i64 (IntKind.i64.wrap (1 + ((IntKind.i64.wrap n1).tmod 8)))) rfl p281243 ?_)
            refine WL_run rfl (yield_of rfl rfl) rfl (Exec.move (v := v281071) rfl p281245 ?_)
            obtain ⟨y281283, q281282, hm⟩ := bind_some hm
            have hS281284 := ((hS281268).f5).f5
            have hS281285 := (hS281284).f5
            refine WL_run rfl (yield_of rfl rfl) rfl (Exec.call rfl rfl Try.func18 rfl N18 (args_cons rfl (args_cons rfl (args_cons rfl args_nil))) ((law54_is_sim q281282 hS281285 (hr_v281071.mono l281267)).mono ?_))
            rintro _ w281286 ⟨_, rfl, ⟨s281287, l281288, hS281289, rfl⟩⟩
            refine ⟨_, rfl, ?_⟩
            refine WL_run rfl (yield_of rfl rfl) rfl (Exec.not rfl rfl ?_)
            refine WL_step rfl rfl (Exec.pick_f (v := Value.bool (!y281283)) rfl rfl rfl ?_)
            refine WL_nil (at_normal ?_)
            rcases ite_some hm with ⟨hc281290, hm⟩ | ⟨hc281290, hm⟩
            · refine W_cond_t rfl hc281290 ?_
              refine W_seq ?_
              refine W_region ?_
              refine WL_step rfl rfl (Exec.assign (v := Value.bool (false)) rfl rfl ?_)
              refine WL_nil (at_normal ?_)
              refine W_ret (at_ret ?_)
              have e281292 := Option.some.inj hm
              subst r
              refine ⟨_, ret1 rfl, ?_⟩
              have hS281293 := (hS281289).drop
              have hS281294 := ((hS281293).drop).drop
              have hS281295 := (hS281294).drop
              have hS281296 := ((hS281295).drop).drop
              exact ⟨s281287, (PHeap.le.trans (PHeap.le.trans (PHeap.le.trans (PHeap.le.trans l280665 l280714) l281240) l281267) l281288), hS281296, rfl⟩
            · refine W_cond_f rfl hc281290 ?_
              replace hc281290 := not_true hc281290
              refine W_skip (at_normal ?_)
              refine W_seq ?_
              refine W_region ?_
              refine WL_step rfl rfl (Exec.buildSlice (Te := 32) (cs := []) hS281289 rfl parts_nil (fun _ => by kernel_rfl) ?_)
              intro b281306 w281307 hS281308
              refine WL_step rfl rfl (Exec.move (v := v281071) rfl p281245 ?_)
              have hS281309 := St.boxArr (E := encBound) (xs := []) hS281308 rfl (by simp [maxLen])
              obtain ⟨l281310, q281311, hm⟩ := bind_some hm
              refine WL_step rfl rfl (Exec.append_rep (E := encBound) (ys := l281069) hS281309 S22 Z32 rfl (by decide) rfl rfl rfl (hr_v281071.mono (PHeap.le.trans l281267 l281288)) q281311 ?_)
              intro v281312 w281313 hS281314
              refine WL_step rfl rfl (Exec.assign (v := v281312) rfl rfl ?_)
              refine WL_nil (at_normal ?_)
              refine W_seq ?_
              refine W_seq ?_
              refine W_region ?_
              refine WL_step rfl rfl (Exec.move (v := v6) rfl p281242 ?_)
              refine WL_step rfl rfl (Exec.len_rep S22 rfl rfl (a7.mono (PHeap.le.trans (PHeap.le.trans (PHeap.le.trans (PHeap.le.trans l280665 l280714) l281240) l281267) l281288)) ?_)
              refine WL_step rfl rfl (Exec.move (v := Value.int .i64 (0)) rfl rfl ?_)
              refine WL_nil (at_normal ?_)
              obtain ⟨c281689, hB281690, hr281691, hn281692, hb281693⟩ := ctl_some hm
              refine W_mid (M := fun f' w' => ∃ s', (c281689 = .next s' ∨ c281689 = .brk s') ∧ (un2 fun (k281686 : (List Bound)) (l281687 : (List (List Int))) => ∃ (s281695 : PHeap) (v281688 : Value), PHeap.le s281287 s281695 ∧ St w0 s281695 (Res.box v280716 63 [v280717] :: Res.box v281269 63 [v281270] :: Res.arr encRaw 49 v280717 v280718 :: Res.rows (encInt .i64) 3 v280718 l281070 :: Res.arr encRaw 49 v281270 v281271 :: Res.rows (encInt .i64) 3 v281271 l281687 :: H) w' ∧ f' 7 = Value.int .i64 (IntKind.i64.wrap (1 + ((IntKind.i64.wrap n1).tmod 8))) ∧ f' 8 = Value.pointer (some ⟨v280716, 0, none⟩) ∧ f' 10 = v281071 ∧ f' 14 = Value.pointer (some ⟨v281269, 0, none⟩) ∧ f' 15 = v281688 ∧ f' 86 = v6 ∧ f' 87 = Value.int .i64 ((more5.length : Int)) ∧ SliceRep encBound s281695 v281688 k281686) s') ?_ ?_
              · refine W_block (W_forC (fun k' s' f' w' => (un2 fun (k281443 : (List Bound)) (l281445 : (List (List Int))) => ∃ (s281694 : PHeap) (v281444 : Value), PHeap.le s281287 s281694 ∧ St w0 s281694 (Res.box v280716 63 [v280717] :: Res.box v281269 63 [v281270] :: Res.arr encRaw 49 v280717 v280718 :: Res.rows (encInt .i64) 3 v280718 l281070 :: Res.arr encRaw 49 v281270 v281271 :: Res.rows (encInt .i64) 3 v281271 l281445 :: H) w' ∧ f' 7 = Value.int .i64 (IntKind.i64.wrap (1 + ((IntKind.i64.wrap n1).tmod 8))) ∧ f' 8 = Value.pointer (some ⟨v280716, 0, none⟩) ∧ f' 10 = v281071 ∧ f' 14 = Value.pointer (some ⟨v281269, 0, none⟩) ∧ f' 15 = v281444 ∧ f' 86 = v6 ∧ f' 87 = Value.int .i64 ((more5.length : Int)) ∧ f' 88 = Value.int .i64 (k' : Int) ∧ SliceRep encBound s281694 v281444 k281443) s') hB281690 ?_ ?_ ?_)
                · obtain ⟨s281696, l281697, hS281698, r281699⟩ := hS281314.freezeArr
                  have hS281700 := ((hS281698).f2).f2
                  have hS281701 := ((hS281700).f5).f5
                  have hS281702 := (hS281701).f4
                  have hS281703 := (hS281702).f5
                  exact ⟨s281696, v281312, l281697, hS281703, p281243, p281244, p281245, rfl, rfl, rfl, rfl, rfl, r281699⟩
                · intro i281315 t281711 c281705 f281706 w281707 hi281712 hI281708 hm281709 hres281710
                  obtain ⟨k281443, l281445⟩ := t281711
                  replace hm281709 := un2_eq hm281709
                  obtain ⟨s281713, v281444, l281714, hS281715, p281716, p281717, p281718, p281719, p281720, p281721, p281722, x281723, hr_v281444⟩ := hI281708
                  refine W_seq ?_
                  refine W_region ?_
                  refine WL_step rfl rfl (Exec.lss rfl x281723 p281722 ?_)
                  refine WL_nil (at_normal ?_)
                  refine W_seq ?_
                  refine W_true (congrArg Value.bool (decide_eq_true (by omega))) ?_
                  refine W_skip (at_normal ?_)
                  refine W_seq ?_
                  refine W_block ?_
                  refine W_seq ?_
                  refine W_region ?_
                  obtain ⟨x281736, q281737, hm281709⟩ := bind_some hm281709
                  refine WL_step rfl rfl (Exec.index_rep S22 rfl p281721 x281723 (a7.mono (PHeap.le.trans (PHeap.le.trans (PHeap.le.trans (PHeap.le.trans (PHeap.le.trans l280665 l280714) l281240) l281267) l281288) l281714)) q281737 ?_)
                  intro b281738 o281739 a281740
                  refine WL_step rfl rfl (Exec.load_at (E := encBound) hS281715 A32 rfl rfl rfl a281740 ?_)
                  intro v281741 q281742
                  obtain rfl := encBound_val.1 q281742
                  refine WL_step rfl rfl (Exec.alloc (cs := [Value.int .i64 (0), Value.int .i64 (0), Value.int .i64 (0)]) hS281715 Z32 rfl rfl ?_)
                  intro b281743 w281744 hS281745
                  refine WL_step rfl rfl (Exec.store_box (ds := [Value.int .i64 (x281736.A), Value.int .i64 (x281736.B), Value.int .i64 (x281736.Most)]) (es := [Value.int .i64 (x281736.A), Value.int .i64 (x281736.B), Value.int .i64 (x281736.Most)]) hS281745 A32 rfl rfl rfl rfl (one_cons rfl (one_cons rfl (one_cons rfl one_nil))) (Nat.le_of_ble_eq_true rfl) rfl ?_)
                  intro w281746 hS281747
                  refine WL_nil (at_normal ?_)
                  refine W_seq ?_
                  refine W_region ?_
                  refine WL_step rfl rfl (Exec.move (v := Value.int .i64 (IntKind.i64.wrap (1 + ((IntKind.i64.wrap n1).tmod 8)))) rfl p281716 ?_)
                  refine WL_step rfl rfl (Exec.move (v := v281444) rfl p281720 ?_)
                  refine WL_step rfl rfl (Exec.load_box_agg (ds := [Value.int .i64 (x281736.A), Value.int .i64 (x281736.B), Value.int .i64 (x281736.Most)]) (hS281747) A32 rfl rfl rfl ?_)
                  obtain ⟨t281758, q281759, hm281709⟩ := bind_some hm281709
                  obtain ⟨y281760, y281761⟩ := t281758
                  replace hm281709 := un2_eq hm281709
                  refine WL_step rfl rfl (Exec.call rfl rfl Try.func12 rfl N12 (args_cons rfl (args_cons rfl (args_cons rfl args_nil))) ((ref54_Add_sim q281759 hS281747 hr_v281444).mono ?_))
                  rintro _ w281762 ⟨_, rfl, ⟨s281763, v281766, l281764, hS281765, rfl, r281767⟩⟩
                  refine ⟨_, rfl, ?_⟩
                  refine WL_step rfl rfl (Exec.move (v := Value.tuple #[v281766, Value.int .i64 (y281761)]) rfl rfl ?_)
                  refine WL_step rfl rfl (Exec.extract (v := v281766) rfl rfl rfl ?_)
                  refine WL_step rfl rfl (Exec.extract (v := Value.int .i64 (y281761)) rfl rfl rfl ?_)
                  refine WL_step rfl rfl (Exec.assign (v := v281766) rfl rfl ?_)
                  refine WL_nil (at_normal ?_)
                  refine W_seq ?_
                  refine W_region ?_
                  refine WL_step rfl rfl (Exec.move (v := Value.pointer (some ⟨v281269, 0, none⟩)) rfl p281719 ?_)
                  refine WL_step rfl rfl (Exec.load_box_agg (ds := [Value.int .i64 (x281736.A), Value.int .i64 (x281736.B), Value.int .i64 (x281736.Most)]) (hS281765) A32 rfl rfl rfl ?_)
                  obtain ⟨t281778, q281779, hm281709⟩ := bind_some hm281709
                  obtain ⟨y281780, l281781⟩ := t281778
                  replace hm281709 := un2_eq hm281709
                  have hS281782 := ((hS281765).f6).f6
                  have hS281783 := (hS281782).f4
                  refine WL_step rfl rfl (Exec.call rfl rfl Try.func14 rfl N14 (args_cons rfl (args_cons rfl args_nil)) ((stn_Network_Add_sim q281779 hS281783 ).mono ?_))
                  rintro _ w281784 ⟨_, rfl, ⟨s281785, l281786, hS281787, rfl⟩⟩
                  refine ⟨_, rfl, ?_⟩
                  refine WL_step rfl rfl (Exec.assign (v := errV 30 (y281780)) rfl rfl ?_)
                  refine WL_nil (at_normal ?_)
                  refine W_seq ?_
                  refine W_mid (M := fun f' w' => ∃ (s281798 : PHeap) , PHeap.le s281785 s281798 ∧ St w0 s281798 (Res.box v280716 63 [v280717] :: Res.box v281269 63 [v281270] :: Res.arr encRaw 49 v280717 v280718 :: Res.rows (encInt .i64) 3 v280718 l281070 :: Res.arr encRaw 49 v281270 v281271 :: Res.rows (encInt .i64) 3 v281271 l281781 :: H) w' ∧ f' 7 = Value.int .i64 (IntKind.i64.wrap (1 + ((IntKind.i64.wrap n1).tmod 8))) ∧ f' 8 = Value.pointer (some ⟨v280716, 0, none⟩) ∧ f' 10 = v281071 ∧ f' 14 = Value.pointer (some ⟨v281269, 0, none⟩) ∧ f' 15 = v281766 ∧ f' 86 = v6 ∧ f' 87 = Value.int .i64 ((more5.length : Int)) ∧ f' 88 = Value.int .i64 ((i281315 : Int)) ∧ f' 113 = Value.bool ((y281780.isSome && ((!(base_Is_t y281780 1)) && !(base_Is_t y281780 21))))) ?_ ?_
                  · refine W_region ?_
                    refine WL_step rfl rfl (Exec.move (v := errV 30 (y281780)) rfl rfl ?_)
                    refine WL_step rfl rfl (Exec.err_neq_nil (T := 30) Try.underlying26 rfl rfl rfl ?_)
                    refine WL_step rfl rfl (Exec.move (v := Value.bool (y281780.isSome)) rfl rfl ?_)
                    by_cases hc281799 : y281780.isSome = true
                    · refine WL_run rfl (yield_of rfl (congrArg Value.bool hc281799)) rfl (Exec.move (v := errV 30 (y281780)) rfl rfl ?_)
                      refine WL_run rfl (yield_of rfl (congrArg Value.bool hc281799)) rfl (Exec.call rfl rfl Try.func11 rfl N11 (args_cons rfl (args_cons rfl args_nil)) ((base_Is_sim (base_Is_tot y281780 1) hS281787 ).mono ?_))
                      rintro _ w281800 ⟨_, rfl, ⟨s281801, l281802, hS281803, rfl⟩⟩
                      refine ⟨_, rfl, ?_⟩
                      refine WL_run rfl (yield_of rfl (congrArg Value.bool hc281799)) rfl (Exec.not rfl rfl ?_)
                      refine WL_step rfl rfl (Exec.pick_t (v := Value.bool (!(base_Is_t y281780 1))) rfl (congrArg Value.bool hc281799) rfl ?_)
                      refine WL_step rfl rfl (Exec.move (v := Value.bool (!(base_Is_t y281780 1))) rfl rfl ?_)
                      by_cases hc281804 : (!(base_Is_t y281780 1)) = true
                      · refine WL_run rfl (yield_of rfl (congrArg Value.bool hc281804)) rfl (Exec.move (v := errV 30 (y281780)) rfl rfl ?_)
                        refine WL_run rfl (yield_of rfl (congrArg Value.bool hc281804)) rfl (Exec.call rfl rfl Try.func11 rfl N11 (args_cons rfl (args_cons rfl args_nil)) ((base_Is_sim (base_Is_tot y281780 21) hS281803 ).mono ?_))
                        rintro _ w281805 ⟨_, rfl, ⟨s281806, l281807, hS281808, rfl⟩⟩
                        refine ⟨_, rfl, ?_⟩
                        refine WL_run rfl (yield_of rfl (congrArg Value.bool hc281804)) rfl (Exec.not rfl rfl ?_)
                        refine WL_step rfl rfl (Exec.pick_t (v := Value.bool (!(base_Is_t y281780 21))) rfl (congrArg Value.bool hc281804) rfl ?_)
                        refine WL_nil (at_normal ?_)
                        have hS281809 := ((hS281808).f3).drop
                        have hS281810 := ((hS281809).f2).f2
                        have hS281811 := ((hS281810).f5).f5
                        have hS281812 := (hS281811).f4
                        have hS281813 := (hS281812).f5
                        exact ⟨s281806, (PHeap.le.trans l281802 l281807), hS281813, p281716, p281717, p281718, p281719, rfl, p281721, p281722, x281723, (congrArg Value.bool (Eq.trans (and_t hc281799) (and_t hc281804))).symm⟩
                      · replace hc281804 := not_true hc281804
                        refine WL_pass rfl (yield_of rfl (congrArg Value.bool hc281804)) rfl rfl ?_
                        refine WL_pass rfl (yield_of rfl (congrArg Value.bool hc281804)) rfl rfl ?_
                        refine WL_pass rfl (yield_of rfl (congrArg Value.bool hc281804)) rfl rfl ?_
                        refine WL_step rfl rfl (Exec.pick_f (v := Value.bool (false)) rfl (congrArg Value.bool hc281804) rfl ?_)
                        refine WL_nil (at_normal ?_)
                        have hS281814 := ((hS281803).f3).drop
                        have hS281815 := ((hS281814).f2).f2
                        have hS281816 := ((hS281815).f5).f5
                        have hS281817 := (hS281816).f4
                        have hS281818 := (hS281817).f5
                        exact ⟨s281801, l281802, hS281818, p281716, p281717, p281718, p281719, rfl, p281721, p281722, x281723, (congrArg Value.bool (Eq.trans (and_t hc281799) (and_f hc281804))).symm⟩
                    · replace hc281799 := not_true hc281799
                      refine WL_pass rfl (yield_of rfl (congrArg Value.bool hc281799)) rfl rfl ?_
                      refine WL_pass rfl (yield_of rfl (congrArg Value.bool hc281799)) rfl rfl ?_
                      refine WL_pass rfl (yield_of rfl (congrArg Value.bool hc281799)) rfl rfl ?_
                      refine WL_step rfl rfl (Exec.pick_f (v := Value.bool (false)) rfl (congrArg Value.bool hc281799) rfl ?_)
                      refine WL_step rfl rfl (Exec.move (v := Value.bool (false)) rfl rfl ?_)
                      refine WL_pass rfl (yield_of rfl rfl) rfl rfl ?_
                      refine WL_pass rfl (yield_of rfl rfl) rfl rfl ?_
                      refine WL_pass rfl (yield_of rfl rfl) rfl rfl ?_
                      refine WL_step rfl rfl (Exec.pick_f (v := Value.bool (false)) rfl rfl rfl ?_)
                      refine WL_nil (at_normal ?_)
                      have hS281819 := ((hS281787).f3).drop
                      have hS281820 := ((hS281819).f2).f2
                      have hS281821 := ((hS281820).f5).f5
                      have hS281822 := (hS281821).f4
                      have hS281823 := (hS281822).f5
                      exact ⟨s281785, (PHeap.le_refl _), hS281823, p281716, p281717, p281718, p281719, rfl, p281721, p281722, x281723, (congrArg Value.bool (and_f hc281799)).symm⟩
                  · intro f281824 w281825 hM281826
                    obtain ⟨s281827, l281828, hS281829, p281830, p281831, p281832, p281833, p281834, p281835, p281836, p281837, p281838⟩ := hM281826
                    refine (at_normal ?_)
                    rcases ite_some hm281709 with ⟨hc281839, hm281709⟩ | ⟨hc281839, hm281709⟩
                    · refine W_cond_t p281838 hc281839 ?_
                      refine W_seq ?_
                      refine W_region ?_
                      refine WL_step rfl rfl (Exec.assign (v := Value.bool (false)) rfl rfl ?_)
                      refine WL_nil (at_normal ?_)
                      refine W_ret (ib_ret (at_ret (at_ret (ib_ret (at_ret (at_ret ?_))))))
                      have e281840 := Option.some.inj hm281709
                      subst c281705
                      have hq281841 := hr281691 _ (hres281710 (by intro _ h; cases h))
                      have e281842 := Option.some.inj hq281841
                      subst r
                      refine ⟨_, ret1 rfl, ?_⟩
                      have hS281843 := (hS281829).drop
                      have hS281844 := (hS281843).drop
                      have hS281845 := ((hS281844).drop).drop
                      have hS281846 := ((hS281845).drop).drop
                      exact ⟨s281827, (PHeap.le.trans (PHeap.le.trans (PHeap.le.trans (PHeap.le.trans (PHeap.le.trans (PHeap.le.trans (PHeap.le.trans (PHeap.le.trans l280665 l280714) l281240) l281267) l281288) l281714) l281764) l281786) l281828), hS281846, rfl⟩
                    · refine W_cond_f p281838 hc281839 ?_
                      replace hc281839 := not_true hc281839
                      refine W_skip (ib_normal (at_normal ?_))
                      refine W_region ?_
                      refine WL_step rfl rfl (Exec.add rfl p281837 rfl ?_)
                      refine WL_step rfl rfl (Exec.move (v := Value.int .i64 (IntKind.i64.wrap ((i281315 : Int) + 1))) rfl rfl ?_)
                      refine WL_nil (at_normal ?_)
                      have e281847 := Option.some.inj hm281709
                      subst c281705
                      have hS281848 := ((hS281829).f5).f5
                      have hS281849 := ((hS281848).f5).f5
                      have hS281850 := (hS281849).f5
                      have hS281851 := (hS281850).f5
                      refine ⟨_, rfl, ?_⟩; exact ⟨s281827, v281766, (PHeap.le.trans (PHeap.le.trans (PHeap.le.trans l281714 l281764) l281786) l281828), hS281851, p281830, p281831, p281832, p281833, p281834, p281835, p281836, (Eq.trans rfl (wrap_up hi281712 (SliceRep.le (a7.mono (PHeap.le.trans (PHeap.le.trans (PHeap.le.trans (PHeap.le.trans l280665 l280714) l281240) l281267) l281288))))), (r281767.mono (PHeap.le.trans l281786 l281828))⟩
                · intro t281852 f281853 w281854 hI281855 hres281856
                  obtain ⟨k281443, l281445⟩ := t281852
                  obtain ⟨s281857, v281444, l281858, hS281859, p281860, p281861, p281862, p281863, p281864, p281865, p281866, x281867, hr_v281444⟩ := hI281855
                  refine W_seq ?_
                  refine W_region ?_
                  refine WL_step rfl rfl (Exec.lss rfl x281867 p281866 ?_)
                  refine WL_nil (at_normal ?_)
                  refine W_seq ?_
                  refine W_false (congrArg Value.bool (decide_eq_false (by omega))) ?_
                  refine W_exit (at_exit (at_exit (ib_here (at_normal ?_))))
                  have hS281868 := ((hS281859).f5).f5
                  have hS281869 := ((hS281868).f5).f5
                  have hS281870 := (hS281869).f5
                  have hS281871 := (hS281870).f5
                  refine ⟨_, .inl hres281856, ?_⟩; exact ⟨s281857, v281444, l281858, hS281871, p281860, p281861, p281862, p281863, p281864, p281865, p281866, hr_v281444⟩
              · rintro f281872 w281873 ⟨t281874, hc281875, hM281876⟩
                have hm := hc281875.elim (hn281692 _) (hb281693 _)
                clear hc281875
                obtain ⟨k281686, l281687⟩ := t281874
                replace hm := un2_eq hm
                obtain ⟨s281877, v281688, l281878, hS281879, p281880, p281881, p281882, p281883, p281884, p281885, p281886, hr_v281688⟩ := hM281876
                refine (at_normal ?_)
                refine W_seq ?_
                obtain ⟨z281906, ht281907, hm⟩ := bind_some hm
                refine W_mid (M := fun f' w' => (fun (z281906 : Bool) => ∃ (s281908 : PHeap) , PHeap.le s281877 s281908 ∧ St w0 s281908 (H) w' ∧ f' 6 = Value.bool (z281906)) z281906) ?_ ?_
                · refine W_region ?_
                  refine WL_step rfl rfl (Exec.move (v := Value.pointer (some ⟨v280716, 0, none⟩)) rfl p281881 ?_)
                  refine WL_step rfl rfl (Exec.move (v := Value.int .i64 (IntKind.i64.wrap (1 + ((IntKind.i64.wrap n1).tmod 8)))) rfl p281880 ?_)
                  refine WL_step rfl rfl (Exec.move (v := v281071) rfl p281882 ?_)
                  obtain ⟨y281911, q281910, ht281907⟩ := bind_some ht281907
                  have hS281912 := ((hS281879).f3).f3
                  have hS281913 := (hS281912).f2
                  refine WL_step rfl rfl (Exec.call rfl rfl Try.func18 rfl N18 (args_cons rfl (args_cons rfl (args_cons rfl args_nil))) ((law54_is_sim q281910 hS281913 (hr_v281071.mono (PHeap.le.trans (PHeap.le.trans l281267 l281288) l281878))).mono ?_))
                  rintro _ w281914 ⟨_, rfl, ⟨s281915, l281916, hS281917, rfl⟩⟩
                  refine ⟨_, rfl, ?_⟩
                  refine WL_step rfl rfl (Exec.move (v := Value.bool (y281911)) rfl rfl ?_)
                  rcases ite_some ht281907 with ⟨hc281918, ht281907⟩ | ⟨hc281918, ht281907⟩
                  · refine WL_run rfl (yield_of rfl (congrArg Value.bool hc281918)) rfl (Exec.move (v := Value.pointer (some ⟨v281269, 0, none⟩)) rfl p281883 ?_)
                    refine WL_run rfl (yield_of rfl (congrArg Value.bool hc281918)) rfl (Exec.move (v := Value.int .i64 (IntKind.i64.wrap (1 + ((IntKind.i64.wrap n1).tmod 8)))) rfl p281880 ?_)
                    refine WL_run rfl (yield_of rfl (congrArg Value.bool hc281918)) rfl (Exec.move (v := v281688) rfl p281884 ?_)
                    obtain ⟨y281921, q281920, ht281907⟩ := bind_some ht281907
                    have hS281922 := ((hS281917).f5).f5
                    have hS281923 := (hS281922).f5
                    refine WL_run rfl (yield_of rfl (congrArg Value.bool hc281918)) rfl (Exec.call rfl rfl Try.func18 rfl N18 (args_cons rfl (args_cons rfl (args_cons rfl args_nil))) ((law54_is_sim q281920 hS281923 (hr_v281688.mono l281916)).mono ?_))
                    rintro _ w281924 ⟨_, rfl, ⟨s281925, l281926, hS281927, rfl⟩⟩
                    refine ⟨_, rfl, ?_⟩
                    refine WL_step rfl rfl (Exec.pick_t (v := Value.bool (y281921)) rfl (congrArg Value.bool hc281918) rfl ?_)
                    refine WL_step rfl rfl (Exec.assign (v := Value.bool (y281921)) rfl rfl ?_)
                    refine WL_nil (at_normal ?_)
                    have e281928 := Option.some.inj ht281907
                    subst z281906
                    have hS281929 := (hS281927).drop
                    have hS281930 := ((hS281929).drop).drop
                    have hS281931 := (hS281930).drop
                    have hS281932 := ((hS281931).drop).drop
                    exact ⟨s281925, (PHeap.le.trans l281916 l281926), hS281932, rfl⟩
                  · replace hc281918 := not_true hc281918
                    refine WL_pass rfl (yield_of rfl (congrArg Value.bool hc281918)) rfl rfl ?_
                    refine WL_pass rfl (yield_of rfl (congrArg Value.bool hc281918)) rfl rfl ?_
                    refine WL_pass rfl (yield_of rfl (congrArg Value.bool hc281918)) rfl rfl ?_
                    refine WL_pass rfl (yield_of rfl (congrArg Value.bool hc281918)) rfl rfl ?_
                    refine WL_step rfl rfl (Exec.pick_f (v := Value.bool (false)) rfl (congrArg Value.bool hc281918) rfl ?_)
                    refine WL_step rfl rfl (Exec.assign (v := Value.bool (false)) rfl rfl ?_)
                    refine WL_nil (at_normal ?_)
                    have e281933 := Option.some.inj ht281907
                    subst z281906
                    have hS281934 := (hS281917).drop
                    have hS281935 := ((hS281934).drop).drop
                    have hS281936 := (hS281935).drop
                    have hS281937 := ((hS281936).drop).drop
                    exact ⟨s281915, l281916, hS281937, rfl⟩
                · intro f281938 w281939 hM281940
                  obtain ⟨s281941, l281942, hS281943, p281944⟩ := hM281940
                  refine (at_normal ?_)
                  refine W_ret ?_
                  have e281946 := Option.some.inj hm
                  subst r
                  refine ⟨_, ret1 rfl, ?_⟩
                  exact ⟨s281941, (PHeap.le.trans (PHeap.le.trans (PHeap.le.trans (PHeap.le.trans (PHeap.le.trans (PHeap.le.trans l280665 l280714) l281240) l281267) l281288) l281878) l281942), hS281943, p281944⟩
      · replace hm := optC_none hm
        refine WL_step rfl rfl (Exec.move (v := Value.tuple #[Value.pointer none, errV 30 (y280709)]) rfl rfl ?_)
        refine WL_step rfl rfl (Exec.extract (v := Value.pointer none) rfl rfl rfl ?_)
        refine WL_step rfl rfl (Exec.extract (v := errV 30 (y280709)) rfl rfl rfl ?_)
        refine WL_step rfl rfl (Exec.assign (v := Value.pointer none) rfl rfl ?_)
        refine WL_step rfl rfl (Exec.assign (v := errV 30 (y280709)) rfl rfl ?_)
        refine WL_nil (at_normal ?_)
        refine W_seq ?_
        refine W_seq ?_
        refine W_region ?_
        refine WL_step rfl rfl (Exec.move (v := errV 30 (y280709)) rfl rfl ?_)
        refine WL_step rfl rfl (Exec.err_neq_nil (T := 30) Try.underlying26 rfl rfl rfl ?_)
        refine WL_nil (at_normal ?_)
        rcases ite_some hm with ⟨hc281947, hm⟩ | ⟨hc281947, hm⟩
        · refine W_cond_t rfl hc281947 ?_
          refine W_seq ?_
          refine W_region ?_
          refine WL_step rfl rfl (Exec.assign (v := Value.bool (false)) rfl rfl ?_)
          refine WL_nil (at_normal ?_)
          refine W_ret (at_ret ?_)
          have e281949 := Option.some.inj hm
          subst r
          refine ⟨_, ret1 rfl, ?_⟩
          exact ⟨s280720, (PHeap.le.trans l280665 l280721), hS280722, rfl⟩
        · refine W_cond_f rfl hc281947 ?_
          replace hc281947 := not_true hc281947
          refine W_skip (at_normal ?_)
          refine W_seq ?_
          refine W_region ?_
          refine WL_step rfl rfl (Exec.assign (v := Value.slice none 0 0) rfl rfl ?_)
          refine WL_nil (at_normal ?_)
          refine W_seq ?_
          refine W_seq ?_
          refine W_region ?_
          refine WL_step rfl rfl (Exec.move (v := v3) rfl p280668 ?_)
          refine WL_step rfl rfl (Exec.len_rep S22 rfl rfl (a4.mono (PHeap.le.trans l280665 l280721)) ?_)
          refine WL_step rfl rfl (Exec.move (v := Value.int .i64 (0)) rfl rfl ?_)
          refine WL_nil (at_normal ?_)
          obtain ⟨c282235, hB282236, hr282237, hn282238, hb282239⟩ := ctl_some hm
          refine W_mid (M := fun f' w' => ∃ s', (c282235 = .next s' ∨ c282235 = .brk s') ∧ (fun (l282233 : (List Bound)) => ∃ (s282241 : PHeap) (v282234 : Value), PHeap.le s280720 s282241 ∧ St w0 s282241 (H) w' ∧ f' 2 = v6 ∧ f' 7 = Value.int .i64 (IntKind.i64.wrap (1 + ((IntKind.i64.wrap n1).tmod 8))) ∧ f' 8 = Value.pointer none ∧ f' 10 = v282234 ∧ f' 43 = v3 ∧ f' 44 = Value.int .i64 ((bounds2.length : Int)) ∧ SliceRep encBound s282241 v282234 l282233) s') ?_ ?_
          · refine W_block (W_forC (fun k' s' f' w' => (fun (l282043 : (List Bound)) => ∃ (s282240 : PHeap) (v282044 : Value), PHeap.le s280720 s282240 ∧ St w0 s282240 (H) w' ∧ f' 2 = v6 ∧ f' 7 = Value.int .i64 (IntKind.i64.wrap (1 + ((IntKind.i64.wrap n1).tmod 8))) ∧ f' 8 = Value.pointer none ∧ f' 10 = v282044 ∧ f' 43 = v3 ∧ f' 44 = Value.int .i64 ((bounds2.length : Int)) ∧ f' 45 = Value.int .i64 (k' : Int) ∧ SliceRep encBound s282240 v282044 l282043) s') hB282236 ?_ ?_ ?_)
            · exact ⟨s280720, (Value.slice none 0 0), (PHeap.le_refl _), hS280722, p280669, rfl, rfl, rfl, rfl, rfl, rfl, (SliceRep.nil _ _)⟩
            · intro i281950 l282043 c282243 f282244 w282245 hi282249 hI282246 hm282247 hres282248
              obtain ⟨s282250, v282044, l282251, hS282252, p282253, p282254, p282255, p282256, p282257, p282258, x282259, hr_v282044⟩ := hI282246
              refine W_seq ?_
              refine W_region ?_
              refine WL_step rfl rfl (Exec.lss rfl x282259 p282258 ?_)
              refine WL_nil (at_normal ?_)
              refine W_seq ?_
              refine W_true (congrArg Value.bool (decide_eq_true (by omega))) ?_
              refine W_skip (at_normal ?_)
              refine W_seq ?_
              refine W_block ?_
              refine W_seq ?_
              refine W_region ?_
              obtain ⟨x282272, q282273, hm282247⟩ := bind_some hm282247
              refine WL_step rfl rfl (Exec.index_rep S22 rfl p282257 x282259 (a4.mono (PHeap.le.trans (PHeap.le.trans l280665 l280721) l282251)) q282273 ?_)
              intro b282274 o282275 a282276
              refine WL_step rfl rfl (Exec.load_at (E := encBound) hS282252 A32 rfl rfl rfl a282276 ?_)
              intro v282277 q282278
              obtain rfl := encBound_val.1 q282278
              refine WL_step rfl rfl (Exec.alloc (cs := [Value.int .i64 (0), Value.int .i64 (0), Value.int .i64 (0)]) hS282252 Z32 rfl rfl ?_)
              intro b282279 w282280 hS282281
              refine WL_step rfl rfl (Exec.store_box (ds := [Value.int .i64 (x282272.A), Value.int .i64 (x282272.B), Value.int .i64 (x282272.Most)]) (es := [Value.int .i64 (x282272.A), Value.int .i64 (x282272.B), Value.int .i64 (x282272.Most)]) hS282281 A32 rfl rfl rfl rfl (one_cons rfl (one_cons rfl (one_cons rfl one_nil))) (Nat.le_of_ble_eq_true rfl) rfl ?_)
              intro w282282 hS282283
              refine WL_nil (at_normal ?_)
              refine W_seq ?_
              refine W_region ?_
              refine WL_step rfl rfl (Exec.move (v := Value.int .i64 (IntKind.i64.wrap (1 + ((IntKind.i64.wrap n1).tmod 8)))) rfl p282254 ?_)
              refine WL_step rfl rfl (Exec.move (v := v282044) rfl p282256 ?_)
              refine WL_step rfl rfl (Exec.load_box_agg (ds := [Value.int .i64 (x282272.A), Value.int .i64 (x282272.B), Value.int .i64 (x282272.Most)]) (hS282283) A32 rfl rfl rfl ?_)
              obtain ⟨t282294, q282295, hm282247⟩ := bind_some hm282247
              obtain ⟨y282296, y282297⟩ := t282294
              replace hm282247 := un2_eq hm282247
              refine WL_step rfl rfl (Exec.call rfl rfl Try.func12 rfl N12 (args_cons rfl (args_cons rfl (args_cons rfl args_nil))) ((ref54_Add_sim q282295 hS282283 hr_v282044).mono ?_))
              rintro _ w282298 ⟨_, rfl, ⟨s282299, v282302, l282300, hS282301, rfl, r282303⟩⟩
              refine ⟨_, rfl, ?_⟩
              refine WL_step rfl rfl (Exec.move (v := Value.tuple #[v282302, Value.int .i64 (y282297)]) rfl rfl ?_)
              refine WL_step rfl rfl (Exec.extract (v := v282302) rfl rfl rfl ?_)
              refine WL_step rfl rfl (Exec.extract (v := Value.int .i64 (y282297)) rfl rfl rfl ?_)
              refine WL_step rfl rfl (Exec.assign (v := v282302) rfl rfl ?_)
              refine WL_nil (at_normal ?_)
              refine W_seq ?_
              refine W_region ?_
              refine WL_step rfl rfl (Exec.move (v := Value.pointer none) rfl p282255 ?_)
              refine WL_step rfl rfl (Exec.load_box_agg (ds := [Value.int .i64 (x282272.A), Value.int .i64 (x282272.B), Value.int .i64 (x282272.Most)]) (hS282301) A32 rfl rfl rfl ?_)
              refine WL_step rfl rfl (Exec.call rfl rfl Try.func14 rfl N14 (args_cons rfl (args_cons rfl args_nil)) ((stn_Network_Add_nil_sim (stn_Network_Add_nil_tot x282272) hS282301 ).mono ?_))
              rintro _ w282308 ⟨_, rfl, ⟨s282309, l282310, hS282311, rfl⟩⟩
              refine ⟨_, rfl, ?_⟩
              refine WL_step rfl rfl (Exec.assign (v := errV 30 ((stn_Network_Add_nil_t x282272))) rfl rfl ?_)
              refine WL_nil (at_normal ?_)
              refine W_seq ?_
              refine W_mid (M := fun f' w' => ∃ (s282322 : PHeap) , PHeap.le s282309 s282322 ∧ St w0 s282322 (H) w' ∧ f' 2 = v6 ∧ f' 7 = Value.int .i64 (IntKind.i64.wrap (1 + ((IntKind.i64.wrap n1).tmod 8))) ∧ f' 8 = Value.pointer none ∧ f' 10 = v282302 ∧ f' 43 = v3 ∧ f' 44 = Value.int .i64 ((bounds2.length : Int)) ∧ f' 45 = Value.int .i64 ((i281950 : Int)) ∧ f' 70 = Value.bool ((((stn_Network_Add_nil_t x282272).isSome) && ((!(base_Is_t (stn_Network_Add_nil_t x282272) 1)) && !(base_Is_t (stn_Network_Add_nil_t x282272) 21))))) ?_ ?_
              · refine W_region ?_
                refine WL_step rfl rfl (Exec.move (v := errV 30 ((stn_Network_Add_nil_t x282272))) rfl rfl ?_)
                refine WL_step rfl rfl (Exec.err_neq_nil (T := 30) Try.underlying26 rfl rfl rfl ?_)
                refine WL_step rfl rfl (Exec.move (v := Value.bool ((stn_Network_Add_nil_t x282272).isSome)) rfl rfl ?_)
                by_cases hc282323 : ((stn_Network_Add_nil_t x282272).isSome) = true
                · refine WL_run rfl (yield_of rfl (congrArg Value.bool hc282323)) rfl (Exec.move (v := errV 30 ((stn_Network_Add_nil_t x282272))) rfl rfl ?_)
                  refine WL_run rfl (yield_of rfl (congrArg Value.bool hc282323)) rfl (Exec.call rfl rfl Try.func11 rfl N11 (args_cons rfl (args_cons rfl args_nil)) ((base_Is_sim (base_Is_tot (stn_Network_Add_nil_t x282272) 1) hS282311 ).mono ?_))
                  rintro _ w282324 ⟨_, rfl, ⟨s282325, l282326, hS282327, rfl⟩⟩
                  refine ⟨_, rfl, ?_⟩
                  refine WL_run rfl (yield_of rfl (congrArg Value.bool hc282323)) rfl (Exec.not rfl rfl ?_)
                  refine WL_step rfl rfl (Exec.pick_t (v := Value.bool (!(base_Is_t (stn_Network_Add_nil_t x282272) 1))) rfl (congrArg Value.bool hc282323) rfl ?_)
                  refine WL_step rfl rfl (Exec.move (v := Value.bool (!(base_Is_t (stn_Network_Add_nil_t x282272) 1))) rfl rfl ?_)
                  by_cases hc282328 : (!(base_Is_t (stn_Network_Add_nil_t x282272) 1)) = true
                  · refine WL_run rfl (yield_of rfl (congrArg Value.bool hc282328)) rfl (Exec.move (v := errV 30 ((stn_Network_Add_nil_t x282272))) rfl rfl ?_)
                    refine WL_run rfl (yield_of rfl (congrArg Value.bool hc282328)) rfl (Exec.call rfl rfl Try.func11 rfl N11 (args_cons rfl (args_cons rfl args_nil)) ((base_Is_sim (base_Is_tot (stn_Network_Add_nil_t x282272) 21) hS282327 ).mono ?_))
                    rintro _ w282329 ⟨_, rfl, ⟨s282330, l282331, hS282332, rfl⟩⟩
                    refine ⟨_, rfl, ?_⟩
                    refine WL_run rfl (yield_of rfl (congrArg Value.bool hc282328)) rfl (Exec.not rfl rfl ?_)
                    refine WL_step rfl rfl (Exec.pick_t (v := Value.bool (!(base_Is_t (stn_Network_Add_nil_t x282272) 21))) rfl (congrArg Value.bool hc282328) rfl ?_)
                    refine WL_nil (at_normal ?_)
                    have hS282333 := (hS282332).drop
                    exact ⟨s282330, (PHeap.le.trans l282326 l282331), hS282333, p282253, p282254, p282255, rfl, p282257, p282258, x282259, (congrArg Value.bool (Eq.trans (and_t hc282323) (and_t hc282328))).symm⟩
                  · replace hc282328 := not_true hc282328
                    refine WL_pass rfl (yield_of rfl (congrArg Value.bool hc282328)) rfl rfl ?_
                    refine WL_pass rfl (yield_of rfl (congrArg Value.bool hc282328)) rfl rfl ?_
                    refine WL_pass rfl (yield_of rfl (congrArg Value.bool hc282328)) rfl rfl ?_
                    refine WL_step rfl rfl (Exec.pick_f (v := Value.bool (false)) rfl (congrArg Value.bool hc282328) rfl ?_)
                    refine WL_nil (at_normal ?_)
                    have hS282334 := (hS282327).drop
                    exact ⟨s282325, l282326, hS282334, p282253, p282254, p282255, rfl, p282257, p282258, x282259, (congrArg Value.bool (Eq.trans (and_t hc282323) (and_f hc282328))).symm⟩
                · replace hc282323 := not_true hc282323
                  refine WL_pass rfl (yield_of rfl (congrArg Value.bool hc282323)) rfl rfl ?_
                  refine WL_pass rfl (yield_of rfl (congrArg Value.bool hc282323)) rfl rfl ?_
                  refine WL_pass rfl (yield_of rfl (congrArg Value.bool hc282323)) rfl rfl ?_
                  refine WL_step rfl rfl (Exec.pick_f (v := Value.bool (false)) rfl (congrArg Value.bool hc282323) rfl ?_)
                  refine WL_step rfl rfl (Exec.move (v := Value.bool (false)) rfl rfl ?_)
                  refine WL_pass rfl (yield_of rfl rfl) rfl rfl ?_
                  refine WL_pass rfl (yield_of rfl rfl) rfl rfl ?_
                  refine WL_pass rfl (yield_of rfl rfl) rfl rfl ?_
                  refine WL_step rfl rfl (Exec.pick_f (v := Value.bool (false)) rfl rfl rfl ?_)
                  refine WL_nil (at_normal ?_)
                  have hS282335 := (hS282311).drop
                  exact ⟨s282309, (PHeap.le_refl _), hS282335, p282253, p282254, p282255, rfl, p282257, p282258, x282259, (congrArg Value.bool (and_f hc282323)).symm⟩
              · intro f282336 w282337 hM282338
                obtain ⟨s282339, l282340, hS282341, p282342, p282343, p282344, p282345, p282346, p282347, p282348, p282349⟩ := hM282338
                refine (at_normal ?_)
                rcases ite_some hm282247 with ⟨hc282350, hm282247⟩ | ⟨hc282350, hm282247⟩
                · refine W_cond_t p282349 hc282350 ?_
                  refine W_seq ?_
                  refine W_region ?_
                  refine WL_step rfl rfl (Exec.assign (v := Value.bool (false)) rfl rfl ?_)
                  refine WL_nil (at_normal ?_)
                  refine W_ret (ib_ret (at_ret (at_ret (ib_ret (at_ret (at_ret ?_))))))
                  have e282351 := Option.some.inj hm282247
                  subst c282243
                  have hq282352 := hr282237 _ (hres282248 (by intro _ h; cases h))
                  have e282353 := Option.some.inj hq282352
                  subst r
                  refine ⟨_, ret1 rfl, ?_⟩
                  exact ⟨s282339, (PHeap.le.trans (PHeap.le.trans (PHeap.le.trans (PHeap.le.trans (PHeap.le.trans l280665 l280721) l282251) l282300) l282310) l282340), hS282341, rfl⟩
                · refine W_cond_f p282349 hc282350 ?_
                  replace hc282350 := not_true hc282350
                  refine W_skip (ib_normal (at_normal ?_))
                  refine W_region ?_
                  refine WL_step rfl rfl (Exec.add rfl p282348 rfl ?_)
                  refine WL_step rfl rfl (Exec.move (v := Value.int .i64 (IntKind.i64.wrap ((i281950 : Int) + 1))) rfl rfl ?_)
                  refine WL_nil (at_normal ?_)
                  have e282354 := Option.some.inj hm282247
                  subst c282243
                  refine ⟨_, rfl, ?_⟩; exact ⟨s282339, v282302, (PHeap.le.trans (PHeap.le.trans (PHeap.le.trans l282251 l282300) l282310) l282340), hS282341, p282342, p282343, p282344, p282345, p282346, p282347, (Eq.trans rfl (wrap_up hi282249 (SliceRep.le (a4.mono (PHeap.le.trans l280665 l280721))))), (r282303.mono (PHeap.le.trans l282310 l282340))⟩
            · intro l282043 f282355 w282356 hI282357 hres282358
              obtain ⟨s282359, v282044, l282360, hS282361, p282362, p282363, p282364, p282365, p282366, p282367, x282368, hr_v282044⟩ := hI282357
              refine W_seq ?_
              refine W_region ?_
              refine WL_step rfl rfl (Exec.lss rfl x282368 p282367 ?_)
              refine WL_nil (at_normal ?_)
              refine W_seq ?_
              refine W_false (congrArg Value.bool (decide_eq_false (by omega))) ?_
              refine W_exit (at_exit (at_exit (ib_here (at_normal ?_))))
              refine ⟨_, .inl hres282358, ?_⟩; exact ⟨s282359, v282044, l282360, hS282361, p282362, p282363, p282364, p282365, p282366, p282367, hr_v282044⟩
          · rintro f282369 w282370 ⟨l282233, hc282371, hM282372⟩
            have hm := hc282371.elim (hn282238 _) (hb282239 _)
            clear hc282371
            obtain ⟨s282373, v282234, l282374, hS282375, p282376, p282377, p282378, p282379, p282380, p282381, hr_v282234⟩ := hM282372
            refine (at_normal ?_)
            refine W_seq ?_
            refine W_region ?_
            refine WL_step rfl rfl (Exec.move (v := Value.pointer none) rfl p282378 ?_)
            refine WL_step rfl rfl (Exec.call rfl rfl Try.func21 rfl N21 (args_cons rfl args_nil) ((stn_Network_Copy_nil_sim stn_Network_Copy_nil_tot hS282375 ).mono ?_))
            rintro _ w282386 ⟨_, rfl, ⟨s282387, l282388, hS282389, rfl⟩⟩
            refine ⟨_, rfl, ?_⟩
            refine WL_step rfl rfl (Exec.assign (v := Value.pointer none) rfl rfl ?_)
            refine WL_nil (at_normal ?_)
            refine W_seq ?_
            refine W_seq ?_
            refine W_region ?_
            refine WL_step rfl rfl (Exec.move (v := Value.pointer none) rfl rfl ?_)
            refine WL_step rfl rfl (Exec.ptr_eql_nil Try.underlying24 rfl rfl rfl ?_)
            refine WL_step rfl rfl (Exec.move (v := Value.bool (true)) rfl rfl ?_)
            refine WL_pass rfl (yield_of rfl rfl) rfl rfl ?_
            refine WL_pass rfl (yield_of rfl rfl) rfl rfl ?_
            refine WL_pass rfl (yield_of rfl rfl) rfl rfl ?_
            refine WL_pass rfl (yield_of rfl rfl) rfl rfl ?_
            refine WL_pass rfl (yield_of rfl rfl) rfl rfl ?_
            refine WL_step rfl rfl (Exec.pick_t (v := Value.bool (true)) rfl rfl rfl ?_)
            refine WL_nil (at_normal ?_)
            refine W_true rfl ?_
            refine W_seq ?_
            refine W_region ?_
            refine WL_step rfl rfl (Exec.assign (v := Value.bool (false)) rfl rfl ?_)
            refine WL_nil (at_normal ?_)
            refine W_ret (at_ret ?_)
            have e282391 := Option.some.inj hm
            subst r
            refine ⟨_, ret1 rfl, ?_⟩
            exact ⟨s282387, (PHeap.le.trans (PHeap.le.trans (PHeap.le.trans l280665 l280721) l282374) l282388), hS282389, rfl⟩

end Go.Pw
