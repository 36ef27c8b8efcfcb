/-
  The walks (printed by my generator).
-/
import Derived.Test.YtcapbkcdeeinoaaG0
set_option maxRecDepth 100000
set_option linter.unusedVariables false
namespace Go.Pw
open Go.Proofs
theorem stn_Network_Copy_sim {w0 w : World} {s : PHeap} {H : List Res} {n38548 : stn_Network} {b38549 : Nat} {v38550 : Value} {hs38551 : List Value} {r : stn_Network} (hm : stn_Network_Copy_p n38548 = some r) (hS : St w0 s (Res.box b38549 63 [v38550] :: Res.arr encRaw 49 v38550 hs38551 :: Res.rows (encInt .i64) 3 hs38551 n38548.d :: H) w)  :
    Calls Try.prog 21 #[Value.pointer (some ⟨b38549, 0, none⟩)] w fun e w' => ∃ v, e = .returned v ∧ ((fun (d40021 : stn_Network) => ∃ (s40025 : PHeap) (b40022 : Nat) (v40023 : Value) (hs40024 : List Value), PHeap.le s s40025 ∧ St w0 s40025 (Res.box b38549 63 [v38550] :: Res.arr encRaw 49 v38550 hs38551 :: Res.rows (encInt .i64) 3 hs38551 n38548.d :: Res.box b40022 63 [v40023] :: Res.arr encRaw 49 v40023 hs40024 :: Res.rows (encInt .i64) 3 hs40024 d40021.d :: H) w' ∧ v = Value.pointer (some ⟨b40022, 0, none⟩)) r) := by
  unfold stn_Network_Copy_p at hm
  refine calls_of_W Try.func21 rfl rfl ?_
  refine W_seq ?_
  refine W_region ?_
  refine WL_step rfl rfl (Exec.assign (v := Value.pointer none) rfl rfl ?_)
  refine WL_nil (at_normal ?_)
  refine W_seq ?_
  refine W_seq ?_
  refine W_region ?_
  refine WL_step rfl rfl (Exec.move (v := Value.pointer (some ⟨b38549, 0, none⟩)) rfl rfl ?_)
  refine WL_step rfl rfl (Exec.ptr_eql_nil Try.underlying24 rfl rfl rfl ?_)
  refine WL_nil (at_normal ?_)
  refine W_false rfl ?_
  refine W_skip (at_normal ?_)
  refine W_seq ?_
  refine W_region ?_
  refine WL_step rfl rfl (Exec.build rfl parts_nil (v := Value.agg #[Value.slice none 0 0]) (fun _ => by kernel_rfl) ?_)
  refine WL_step rfl rfl (Exec.box (cs := [Value.slice none 0 0]) hS rfl rfl rfl ?_)
  intro b40029 w40030 hS40031
  refine WL_step rfl rfl (Exec.assign (v := Value.pointer (some ⟨b40029, 0, none⟩)) rfl rfl ?_)
  refine WL_nil (at_normal ?_)
  refine W_seq ?_
  refine W_seq ?_
  refine W_region ?_
  refine WL_step rfl rfl (Exec.move (v := Value.pointer (some ⟨b38549, 0, none⟩)) rfl rfl ?_)
  refine WL_step rfl rfl (Exec.nilCheck_ptr rfl rfl ?_)
  refine WL_step rfl rfl (Exec.field F63_0 rfl rfl rfl ?_)
  refine WL_step rfl rfl (Exec.load_box ((hS40031).f1) A61 rfl rfl rfl ?_)
  refine WL_step rfl rfl (Exec.len_grid (((hS40031).f3).f3) (((hS40031).f3).f3).f1.rows_len S61 rfl rfl ?_)
  refine WL_step rfl rfl (Exec.move (v := Value.int .i64 (0)) rfl rfl ?_)
  refine WL_nil (at_normal ?_)
  obtain ⟨z40476, hB40931, hm⟩ := bind_some hm
  refine W_block (W_forS (fun k' s' f' w' => (fun (z40476 : (List (List Int))) => ∃ (s40932 : PHeap) (v40477 : Value) (hs40478 : List Value), PHeap.le s s40932 ∧ St w0 s40932 (Res.box b38549 63 [v38550] :: Res.arr encRaw 49 v38550 hs38551 :: Res.rows (encInt .i64) 3 hs38551 n38548.d :: Res.box b40029 63 [v40477] :: Res.arr encRaw 49 v40477 hs40478 :: Res.rows (encInt .i64) 3 hs40478 z40476 :: H) w' ∧ f' 3 = Value.pointer (some ⟨b40029, 0, none⟩) ∧ f' 13 = v38550 ∧ f' 14 = Value.int .i64 ((n38548.d.length : Int)) ∧ f' 15 = Value.int .i64 (k' : Int)) s') hB40931 ?_ ?_ ?_)
  · have hS40933 := (hS40031.rows_nil (encInt .i64) 3).nilArr encRaw 49
    have hS40934 := (hS40933).f2
    have hS40935 := ((hS40934).f5).f5
    have hS40936 := (hS40935).f5
    exact ⟨s, (Value.slice none 0 0), [], (PHeap.le_refl _), hS40936, rfl, rfl, rfl, rfl⟩
  · intro i40032 z40476 s40938 f40939 w40940 hi40941 hI40942 hm40943
    obtain ⟨s40944, v40477, hs40478, l40945, hS40946, p40947, p40948, p40949, x40950⟩ := hI40942
    refine W_seq ?_
    refine W_region ?_
    refine WL_step rfl rfl (Exec.lss rfl x40950 p40949 ?_)
    refine WL_nil (at_normal ?_)
    refine W_seq ?_
    refine W_true (congrArg Value.bool (decide_eq_true (by omega))) ?_
    refine W_skip (at_normal ?_)
    refine W_seq ?_
    refine W_block ?_
    refine W_seq ?_
    refine W_region ?_
    obtain ⟨row40961, q40962, hm40943⟩ := bind_some hm40943
    obtain ⟨h40963, e40964, e40965, _⟩ := ((((hS40946).f2).f2).f1).rows_at q40962
    obtain ⟨g40966, c40967, e40968⟩ := (((hS40946).f2).f2).arr_at e40964
    refine WL_step rfl rfl (Exec.index_slice S61 rfl (Eq.trans p40948 e40968) x40950 (idx_some e40964).1 (idx_some e40964).2.1 ?_)
    refine WL_step rfl rfl (Exec.load_arr (F := encRaw) (((hS40946).f2).f2) e40968 A49 rfl rfl rfl e40964 (Sub.refl _) ?_)
    intro v40969 q40970
    replace q40970 := (encRaw_val.1 q40970).1
    subst v40969
    refine WL_step rfl rfl (Exec.assign (v := h40963) rfl rfl ?_)
    refine WL_nil (at_normal ?_)
    obtain ⟨y41192, q41191, hm40943⟩ := bind_some hm40943
    obtain ⟨l41204, q41205, hm40943⟩ := bind_some hm40943
    have hS41214 := (hS40946).f3
    have hS41215 := ((hS41214).f3).f3
    have hS41216 := (hS41215).f3
    have hS41217 := ((hS41216).f5).f5
    refine W_drawnX (n0 := 9) (Hs := Res.box b38549 63 [v38550] :: Res.arr encRaw 49 v38550 hs38551 :: Res.rows (encInt .i64) 3 hs38551 n38548.d :: Res.box b40029 63 [v40477] :: []) [[Res.arr encRaw 49 v40477 hs40478, Res.rows (encInt .i64) 3 hs40478 z40476]] hmix (by kernel_rfl) [RR.of (RP.eq (Value.pointer (some ⟨b40029, 0, none⟩))), RR.of (RP.eq (Value.pointer (some ⟨b40029, 0, none⟩))), RR.of (RP.eq (Value.pointer (some ⟨b40029, 0, none⟩))), RR.of (RP.eq (Value.pointer (some ⟨b40029, 0, none⟩))), RR.of (RP.eq (v40477)), RR.of (RP.eq (h40963)), RR.arr (encInt .i64) 3 y41192, RR.rowlit (encInt .i64) 49 3 y41192, RR.grid (encInt .i64) 49 3 l41204, RR.of RP.any, RR.of RP.any, RR.of RP.any, RR.own0 [Res.arr encRaw 49 v40477 hs40478, Res.rows (encInt .i64) 3 hs40478 z40476]] [[], [], [], [], [], [], [], [6], [12, 7]] (by kernel_rfl) (by kernel_rfl) (fun k hk => match k, hk with | 0, _ => ⟨rfl, fun _ => rfl⟩) (fun k hk t u v L h => match k, hk with | 0, _ => h) hS41217 (HeadAll.cons ?_ (HeadAll.cons ?_ (HeadAll.cons ?_ (HeadAll.cons ?_ (HeadAll.cons ?_ (HeadAll.cons ?_ (HeadAll.cons ?_ (HeadAll.cons ?_ (HeadAll.cons ?_ (HeadAll.nil)))))))))) ?_
    · intro g41218 s41219 w41220 F41221 L41222 le41223 hS41224 fr41225 pre41226 cn41227
      have hS41228 : St w0 s41219 (Res.box b38549 63 [v38550] :: Res.arr encRaw 49 v38550 hs38551 :: Res.rows (encInt .i64) 3 hs38551 n38548.d :: Res.box b40029 63 [v40477] :: F41221) w41220 := hS41224
      refine head_runR rfl (Exec.move (v := Value.pointer (some ⟨b40029, 0, none⟩)) rfl (Eq.trans (fr41225 3 rfl) p40947) ?_)
      have hS41229 := (hS41228).f3
      have hS41230 := ((hS41229).f3).f3
      have hS41231 := (hS41230).f3
      exact head_doneR hS41231 ⟨rfl, rfl⟩
    · intro g41232 s41233 w41234 F41235 L41236 le41237 hS41238 fr41239 pre41240 cn41241
      have hS41242 : St w0 s41233 (Res.box b38549 63 [v38550] :: Res.arr encRaw 49 v38550 hs38551 :: Res.rows (encInt .i64) 3 hs38551 n38548.d :: Res.box b40029 63 [v40477] :: F41235) w41234 := hS41238
      refine head_runR rfl (Exec.move (v := Value.pointer (some ⟨b40029, 0, none⟩)) rfl (Eq.trans (fr41239 3 rfl) p40947) ?_)
      have hS41243 := (hS41242).f3
      have hS41244 := ((hS41243).f3).f3
      have hS41245 := (hS41244).f3
      exact head_doneR hS41245 ⟨rfl, rfl⟩
    · intro g41246 s41247 w41248 F41249 L41250 le41251 hS41252 fr41253 pre41254 cn41255
      have hS41256 : St w0 s41247 (Res.box b38549 63 [v38550] :: Res.arr encRaw 49 v38550 hs38551 :: Res.rows (encInt .i64) 3 hs38551 n38548.d :: Res.box b40029 63 [v40477] :: F41249) w41248 := hS41252
      have p41257 : g41246 20 = (Value.pointer (some ⟨b40029, 0, none⟩)) := (pre41254 0 _ rfl rfl (Or.inl rfl)).2
      refine head_runR rfl (Exec.nilCheck_ptr rfl p41257 ?_)
      have hS41258 := (hS41256).f3
      have hS41259 := ((hS41258).f3).f3
      have hS41260 := (hS41259).f3
      exact head_doneR hS41260 ⟨rfl, rfl⟩
    · intro g41261 s41262 w41263 F41264 L41265 le41266 hS41267 fr41268 pre41269 cn41270
      have hS41271 : St w0 s41262 (Res.box b38549 63 [v38550] :: Res.arr encRaw 49 v38550 hs38551 :: Res.rows (encInt .i64) 3 hs38551 n38548.d :: Res.box b40029 63 [v40477] :: F41264) w41263 := hS41267
      have p41272 : g41261 21 = (Value.pointer (some ⟨b40029, 0, none⟩)) := (pre41269 0 _ rfl rfl (Or.inl rfl)).2
      refine head_runR rfl (Exec.field F63_0 rfl p41272 rfl ?_)
      have hS41273 := (hS41271).f3
      have hS41274 := ((hS41273).f3).f3
      have hS41275 := (hS41274).f3
      exact head_doneR hS41275 ⟨rfl, rfl⟩
    · intro g41276 s41277 w41278 F41279 L41280 le41281 hS41282 fr41283 pre41284 cn41285
      have hS41286 : St w0 s41277 (Res.box b38549 63 [v38550] :: Res.arr encRaw 49 v38550 hs38551 :: Res.rows (encInt .i64) 3 hs38551 n38548.d :: Res.box b40029 63 [v40477] :: F41279) w41278 := hS41282
      have p41287 : g41276 22 = (Value.pointer (some ⟨b40029, 0, none⟩)) := (pre41284 0 _ rfl rfl (Or.inl rfl)).2
      refine head_runR rfl (Exec.load_box ((hS41286).f3) A61 rfl p41287 rfl ?_)
      have hS41288 := (hS41286).f3
      have hS41289 := ((hS41288).f3).f3
      have hS41290 := (hS41289).f3
      exact head_doneR hS41290 ⟨rfl, rfl⟩
    · intro g41291 s41292 w41293 F41294 L41295 le41296 hS41297 fr41298 pre41299 cn41300
      have hS41301 : St w0 s41292 (Res.box b38549 63 [v38550] :: Res.arr encRaw 49 v38550 hs38551 :: Res.rows (encInt .i64) 3 hs38551 n38548.d :: Res.box b40029 63 [v40477] :: F41294) w41293 := hS41297
      refine head_runR rfl (Exec.move (v := h40963) rfl (fr41298 5 rfl) ?_)
      have hS41302 := (hS41301).f3
      have hS41303 := ((hS41302).f3).f3
      have hS41304 := (hS41303).f3
      exact head_doneR hS41304 ⟨rfl, rfl⟩
    · intro g41305 s41306 w41307 F41308 L41309 le41310 hS41311 fr41312 pre41313 cn41314
      have hS41315 : St w0 s41306 (Res.box b38549 63 [v38550] :: Res.arr encRaw 49 v38550 hs38551 :: Res.rows (encInt .i64) 3 hs38551 n38548.d :: Res.box b40029 63 [v40477] :: F41308) w41307 := hS41311
      have p41316 : g41305 24 = (h40963) := (pre41313 0 _ rfl rfl (Or.inl rfl)).2
      have hS41317 := ((((hS41315).f2).f2).f1).rows_split e40965 (idx_some q40962).2.2
      refine head_runR rfl (Exec.call rfl rfl Try.func27 rfl N27 (args_cons p41316 args_nil) ((slices_Clone___int_int__o_sim q41191 hS41317 ).mono ?_))
      rintro _ w41318 ⟨v41322, rfl, ⟨s41319, _, l41320, hS41321, rfl⟩⟩
      refine ⟨_, rfl, ?_⟩
      have hS41323 := ((hS41321).f3).f3
      have hS41324 := (hS41323).f2
      have hS41325 := ((hS41324).rows_unsplit e40965 (idx_some q40962).2.2).f1
      have hS41326 := (hS41325).f4
      have hS41327 := ((hS41326).f2).f2
      have hS41328 := (hS41327).f4
      have hS41329 := (hS41328).f4
      exact ⟨s41319, [Res.arr (encInt .i64) 3 v41322 y41192], l41320, hS41329, rfl⟩
    · intro g41330 s41331 w41332 F41333 L41334 le41335 hS41336 fr41337 pre41338 cn41339
      have e41340 : L41334 6 = [Res.arr (encInt .i64) 3 (g41330 25) y41192] := (cn41339 6 (show 6 ∈ [6] by decide))
      have hS41341 : St w0 s41331 (Res.arr (encInt .i64) 3 (g41330 25) y41192 :: Res.box b38549 63 [v38550] :: Res.arr encRaw 49 v38550 hs38551 :: Res.rows (encInt .i64) 3 hs38551 n38548.d :: Res.box b40029 63 [v40477] :: F41333) w41332 := flat1 (show St _ _ ([6].flatMap L41334 ++ (Res.box b38549 63 [v38550] :: Res.arr encRaw 49 v38550 hs38551 :: Res.rows (encInt .i64) 3 hs38551 n38548.d :: Res.box b40029 63 [v40477] :: [] ++ F41333)) _ from hS41336) e41340
      refine head_runR rfl (Exec.buildSlice (Te := 49) (cs := [(g41330 25)]) hS41341 rfl (parts_cons (c := [(g41330 25)]) (cells_of rfl (cells_one (hS41341).arr_one)) parts_nil) (fun _ => by kernel_rfl) ?_)
      intro b41342 w41343 hS41344
      have hS41345 := (hS41344).f5
      have hS41346 := ((hS41345).f5).f5
      have hS41347 := (hS41346).f5
      have hS41348 := (hS41347).f5
      have hS41349 := (hS41348).f5
      exact ⟨s41331, [Res.box b41342 49 [(g41330 25)], Res.arr (encInt .i64) 3 (g41330 25) y41192], (PHeap.le_refl _), hS41349, ⟨_, _, rfl, rfl⟩⟩
    · intro g41350 s41351 w41352 F41353 L41354 le41355 hS41356 fr41357 pre41358 cn41359
      have e41360 : L41354 12 = [Res.arr encRaw 49 v40477 hs40478, Res.rows (encInt .i64) 3 hs40478 z40476] := (cn41359 12 (show 12 ∈ [12, 7] by decide))
      obtain ⟨b41362, u41363, ev41364, e41361⟩ := (show ∃ b u, g41350 26 = .slice (some ⟨b, 0, none⟩) 1 1 ∧ L41354 7 = [.box b 49 [u], .arr (encInt .i64) 3 u y41192] from (cn41359 7 (show 7 ∈ [12, 7] by decide)))
      have hS41365 : St w0 s41351 (Res.arr encRaw 49 v40477 hs40478 :: Res.rows (encInt .i64) 3 hs40478 z40476 :: Res.box b41362 49 [u41363] :: Res.arr (encInt .i64) 3 u41363 y41192 :: Res.box b38549 63 [v38550] :: Res.arr encRaw 49 v38550 hs38551 :: Res.rows (encInt .i64) 3 hs38551 n38548.d :: Res.box b40029 63 [v40477] :: F41353) w41352 := flat2 (show St _ _ ([12, 7].flatMap L41354 ++ (Res.box b38549 63 [v38550] :: Res.arr encRaw 49 v38550 hs38551 :: Res.rows (encInt .i64) 3 hs38551 n38548.d :: Res.box b40029 63 [v40477] :: [] ++ F41353)) _ from hS41356) e41360 e41361
      have p41366 : g41350 23 = (v40477) := (pre41358 0 _ rfl rfl (Or.inl rfl)).2
      have hS41367 := (hS41365).f3
      have hS41368 := (hS41367).f3
      have hS41369 := ((hS41368).f3).f3
      have hS41370 := ((hS41369).f2).f1
      refine head_runR rfl (Exec.append_grid (E := encRaw) (ys := [u41363]) hS41370 S61 Z49 rfl (by decide) rfl p41366 ev41364 rfl (reps_one ⟨rfl, ((hS41370).f3).arr_one⟩) rfl rfl ((hS41370).f2).rows_len q41205 ?_)
      intro v41371 w41372 hS41373
      have hS41374 := ((hS41373).f1.f2.rows_push).f1
      rw [← (app_some q41205).2] at hS41374
      have hS41375 := (hS41374).f5
      have hS41376 := ((hS41375).f5).f5
      have hS41377 := (hS41376).f5
      have hS41378 := ((hS41377).f5).f5
      exact ⟨s41351, [Res.arr encRaw 49 v41371 (hs40478 ++ [u41363]), Res.rows (encInt .i64) 3 (hs40478 ++ [u41363]) l41204], (PHeap.le_refl _), hS41378, ⟨_, rfl⟩⟩
    · intro g41379 s41380 w41381 L41382 le41383 hS41384 fr41385 hR41386
      obtain ⟨hs41388, e41387⟩ := (show ∃ hs, L41382 8 = [.arr encRaw 49 (g41379 27) hs, .rows (encInt .i64) 3 hs l41204] from (hR41386 8 (Or.inr (show 8 ∈ [8] by decide))))
      have hS41389 : St w0 s41380 (Res.arr encRaw 49 (g41379 27) hs41388 :: Res.rows (encInt .i64) 3 hs41388 l41204 :: Res.box b38549 63 [v38550] :: Res.arr encRaw 49 v38550 hs38551 :: Res.rows (encInt .i64) 3 hs38551 n38548.d :: Res.box b40029 63 [v40477] :: H) w41381 := flat1 (show St _ _ ([8].flatMap L41382 ++ (Res.box b38549 63 [v38550] :: Res.arr encRaw 49 v38550 hs38551 :: Res.rows (encInt .i64) 3 hs38551 n38548.d :: Res.box b40029 63 [v40477] :: [] ++ H)) _ from hS41384) e41387
      have p41390 : g41379 19 = (Value.pointer (some ⟨b40029, 0, none⟩)) := (hR41386 0 (Or.inl ⟨rfl, rfl⟩)).2
      have p41391 : g41379 20 = (Value.pointer (some ⟨b40029, 0, none⟩)) := (hR41386 1 (Or.inl ⟨rfl, rfl⟩)).2
      have p41392 : g41379 21 = (Value.pointer (some ⟨b40029, 0, none⟩)) := (hR41386 2 (Or.inl ⟨rfl, rfl⟩)).2
      have p41393 : g41379 22 = (Value.pointer (some ⟨b40029, 0, none⟩)) := (hR41386 3 (Or.inl ⟨rfl, rfl⟩)).2
      have p41394 : g41379 23 = (v40477) := (hR41386 4 (Or.inl ⟨rfl, rfl⟩)).2
      have p41395 : g41379 24 = (h40963) := (hR41386 5 (Or.inl ⟨rfl, rfl⟩)).2
      refine WL_step rfl rfl (Exec.nilCheck_ptr rfl p41390 ?_)
      refine WL_step rfl rfl (Exec.field F63_0 rfl rfl rfl ?_)
      have hS41396 := (hS41389).f5
      refine WL_step rfl rfl (Exec.store_box (ds := [(g41379 27)]) (es := [(g41379 27)]) hS41396 A61 rfl rfl rfl (cells_one (((hS41396).f2).f2).arr_one) (one_cons (((hS41396).f2).f2).arr_one one_nil) (Nat.le_of_ble_eq_true rfl) rfl ?_)
      intro w41397 hS41398
      refine WL_nil (ib_normal (at_normal ?_))
      refine W_region ?_
      refine WL_step rfl rfl (Exec.add rfl (Eq.trans (fr41385 15 rfl) x40950) rfl ?_)
      refine WL_step rfl rfl (Exec.move (v := Value.int .i64 (IntKind.i64.wrap ((i40032 : Int) + 1))) rfl rfl ?_)
      refine WL_nil (at_normal ?_)
      have e41399 := Option.some.inj hm40943
      subst s40938
      have hS41400 := ((hS41398).f2).f2
      have hS41401 := (hS41400).f2
      have hS41402 := ((hS41401).f5).f5
      have hS41403 := (hS41402).f5
      exact ⟨s41380, (g41379 27), hs41388, (PHeap.le.trans l40945 le41383), hS41403, (Eq.trans (fr41385 3 rfl) p40947), (Eq.trans (fr41385 13 rfl) p40948), (Eq.trans (fr41385 14 rfl) p40949), (Eq.trans rfl (wrap_up hi40941 (by have h := (((hS40031).f3).f3).f1.rows_len; have h2 := (((hS40031).f3).f3).arr_le; omega)))⟩
  · intro f41404 w41405 hI41406
    obtain ⟨s41407, v40477, hs40478, l41408, hS41409, p41410, p41411, p41412, x41413⟩ := hI41406
    refine W_seq ?_
    refine W_region ?_
    refine WL_step rfl rfl (Exec.lss rfl x41413 p41412 ?_)
    refine WL_nil (at_normal ?_)
    refine W_seq ?_
    refine W_false (congrArg Value.bool (decide_eq_false (by omega))) ?_
    refine W_exit (at_exit (at_exit (ib_here (at_normal ?_))))
    refine W_seq ?_
    refine W_region ?_
    refine WL_step rfl rfl (Exec.move (v := Value.pointer (some ⟨b40029, 0, none⟩)) rfl p41410 ?_)
    refine WL_step rfl rfl (Exec.assign (v := Value.pointer (some ⟨b40029, 0, none⟩)) rfl rfl ?_)
    refine WL_nil (at_normal ?_)
    refine W_ret ?_
    have e41415 := Option.some.inj hm
    subst r
    refine ⟨_, ret1 rfl, ?_⟩
    have hS41416 := ((hS41409).f5).f5
    have hS41417 := (hS41416).f5
    have hS41418 := ((hS41417).f5).f5
    have hS41419 := (hS41418).f5
    exact ⟨s41407, b40029, v40477, hs40478, l41408, hS41419, rfl⟩

theorem stn_Network_Holds_nil_sim {w0 w : World} {s : PHeap} {H : List Res} {times42150 : (List Int)} {v42151 : Value} {r : Bool} (hm : stn_Network_Holds_nil_p times42150 = some r) (hS : St w0 s (H) w) (a42152 : SliceRep (encInt .i64) s v42151 times42150) :
    Calls Try.prog 20 #[Value.pointer none, v42151] w fun e w' => ∃ v, e = .returned v ∧ ((fun (y42154 : Bool) => ∃ (s42155 : PHeap) , PHeap.le s s42155 ∧ St w0 s42155 (H) w' ∧ v = Value.bool (y42154)) r) := by
  unfold stn_Network_Holds_nil_p at hm
  refine calls_of_W Try.func20 rfl rfl ?_
  refine W_seq ?_
  refine W_region ?_
  refine WL_step rfl rfl (Exec.assign (v := Value.bool (false)) rfl rfl ?_)
  refine WL_nil (at_normal ?_)
  refine W_seq ?_
  refine W_seq ?_
  refine W_region ?_
  refine WL_step rfl rfl (Exec.move (v := Value.pointer none) rfl rfl ?_)
  refine WL_step rfl rfl (Exec.ptr_eql_nil Try.underlying24 rfl rfl rfl ?_)
  refine WL_step rfl rfl (Exec.move (v := Value.bool (true)) rfl rfl ?_)
  refine WL_pass rfl (yield_of rfl rfl) rfl rfl ?_
  refine WL_pass rfl (yield_of rfl rfl) rfl rfl ?_
  refine WL_pass rfl (yield_of rfl rfl) rfl rfl ?_
  refine WL_pass rfl (yield_of rfl rfl) rfl rfl ?_
  refine WL_pass rfl (yield_of rfl rfl) rfl rfl ?_
  refine WL_pass rfl (yield_of rfl rfl) rfl rfl ?_
  refine WL_pass rfl (yield_of rfl rfl) rfl rfl ?_
  refine WL_pass rfl (yield_of rfl rfl) rfl rfl ?_
  refine WL_step rfl rfl (Exec.pick_t (v := Value.bool (true)) rfl rfl rfl ?_)
  refine WL_step rfl rfl (Exec.move (v := Value.bool (true)) rfl rfl ?_)
  refine WL_pass rfl (yield_of rfl rfl) rfl rfl ?_
  refine WL_pass rfl (yield_of rfl rfl) rfl rfl ?_
  refine WL_pass rfl (yield_of rfl rfl) rfl rfl ?_
  refine WL_pass rfl (yield_of rfl rfl) rfl rfl ?_
  refine WL_step rfl rfl (Exec.pick_t (v := Value.bool (true)) rfl rfl rfl ?_)
  refine WL_nil (at_normal ?_)
  refine W_true rfl ?_
  refine W_seq ?_
  refine W_region ?_
  refine WL_step rfl rfl (Exec.assign (v := Value.bool (false)) rfl rfl ?_)
  refine WL_nil (at_normal ?_)
  refine W_ret (at_ret ?_)
  have e42157 := Option.some.inj hm
  subst r
  refine ⟨_, ret1 rfl, ?_⟩
  exact ⟨s, (PHeap.le_refl _), hS, rfl⟩

theorem stn_Network_Earliest_nil_sim {w0 w : World} {s : PHeap} {H : List Res} {p42184 : Int}  {r : Int × (Option Int)} (hm : stn_Network_Earliest_nil_p p42184 = some r) (hS : St w0 s (H) w)  :
    Calls Try.prog 16 #[Value.pointer none, Value.int .i64 (p42184)] w fun e w' => ∃ v, e = .returned v ∧ ((un2 fun (y42196 : Int) (y42197 : (Option Int)) => ∃ (s42198 : PHeap) , PHeap.le s s42198 ∧ St w0 s42198 (H) w' ∧ v = Value.tuple #[Value.int .i64 (y42196), errV 30 (y42197)]) r) := by
  unfold stn_Network_Earliest_nil_p at hm
  refine calls_of_W Try.func16 rfl rfl ?_
  refine W_seq ?_
  refine W_region ?_
  refine WL_step rfl rfl (Exec.assign (v := Value.int .i64 (0)) rfl rfl ?_)
  refine WL_step rfl rfl (Exec.assign (v := errV 30 (none)) rfl rfl ?_)
  refine WL_nil (at_normal ?_)
  refine W_seq ?_
  refine W_region ?_
  refine WL_step rfl rfl (Exec.move (v := Value.pointer none) rfl rfl ?_)
  refine WL_step rfl rfl (Exec.move (v := Value.int .i64 (p42184)) rfl rfl ?_)
  refine WL_step rfl rfl (Exec.call rfl rfl Try.func15 rfl N15 (args_cons rfl (args_cons rfl (args_cons rfl args_nil))) ((stn_Network_Distance_nil_sim (stn_Network_Distance_nil_tot p42184 0) hS ).mono ?_))
  rintro _ w42203 ⟨_, rfl, ⟨s42204, l42205, hS42206, rfl⟩⟩
  refine ⟨_, rfl, ?_⟩
  refine WL_step rfl rfl (Exec.move (v := Value.tuple #[Value.int .i64 ((stn_Network_Distance_nil_t p42184 0).1), errV 30 ((stn_Network_Distance_nil_t p42184 0).2)]) rfl rfl ?_)
  refine WL_step rfl rfl (Exec.extract (v := Value.int .i64 ((stn_Network_Distance_nil_t p42184 0).1)) rfl rfl rfl ?_)
  refine WL_step rfl rfl (Exec.extract (v := errV 30 ((stn_Network_Distance_nil_t p42184 0).2)) rfl rfl rfl ?_)
  refine WL_step rfl rfl (Exec.assign (v := Value.int .i64 ((stn_Network_Distance_nil_t p42184 0).1)) rfl rfl ?_)
  refine WL_step rfl rfl (Exec.assign (v := errV 30 ((stn_Network_Distance_nil_t p42184 0).2)) rfl rfl ?_)
  refine WL_nil (at_normal ?_)
  refine W_seq ?_
  refine W_seq ?_
  refine W_region ?_
  refine WL_step rfl rfl (Exec.move (v := errV 30 ((stn_Network_Distance_nil_t p42184 0).2)) rfl rfl ?_)
  refine WL_step rfl rfl (Exec.err_neq_nil (T := 30) Try.underlying26 rfl rfl rfl ?_)
  refine WL_nil (at_normal ?_)
  rcases ite_some hm with ⟨hc42207, hm⟩ | ⟨hc42207, hm⟩
  · refine W_cond_t rfl hc42207 ?_
    refine W_seq ?_
    refine W_region ?_
    refine WL_step rfl rfl (Exec.move (v := errV 30 ((stn_Network_Distance_nil_t p42184 0).2)) rfl rfl ?_)
    refine WL_step rfl rfl (Exec.assign (v := Value.int .i64 (0)) rfl rfl ?_)
    refine WL_step rfl rfl (Exec.assign (v := errV 30 ((stn_Network_Distance_nil_t p42184 0).2)) rfl rfl ?_)
    refine WL_nil (at_normal ?_)
    refine W_ret (at_ret ?_)
    have e42209 := Option.some.inj hm
    subst r
    refine ⟨_, ret2 rfl, ?_⟩
    exact ⟨s42204, l42205, hS42206, (tup2 rfl rfl)⟩
  · refine W_cond_f rfl hc42207 ?_
    replace hc42207 := not_true hc42207
    refine W_skip (at_normal ?_)
    refine W_seq ?_
    refine W_seq ?_
    refine W_region ?_
    refine WL_step rfl rfl (Exec.move (v := Value.int .i64 ((stn_Network_Distance_nil_t p42184 0).1)) rfl rfl ?_)
    refine WL_step rfl rfl (Exec.geq rfl rfl rfl ?_)
    refine WL_nil (at_normal ?_)
    rcases ite_some hm with ⟨hc42210, hm⟩ | ⟨hc42210, hm⟩
    · refine W_cond_t rfl hc42210 ?_
      refine W_seq ?_
      refine W_region ?_
      refine WL_step rfl rfl (Exec.makeInterface C30 rfl rfl ?_)
      refine WL_step rfl rfl (Exec.assign (v := Value.int .i64 (0)) rfl rfl ?_)
      refine WL_step rfl rfl (Exec.assign (v := errV 30 (some 3)) rfl rfl ?_)
      refine WL_nil (at_normal ?_)
      refine W_ret (at_ret ?_)
      have e42212 := Option.some.inj hm
      subst r
      refine ⟨_, ret2 rfl, ?_⟩
      exact ⟨s42204, l42205, hS42206, (tup2 rfl rfl)⟩
    · refine W_cond_f rfl hc42210 ?_
      replace hc42210 := not_true hc42210
      refine W_skip (at_normal ?_)
      refine W_seq ?_
      refine W_region ?_
      refine WL_step rfl rfl (Exec.move (v := Value.int .i64 ((stn_Network_Distance_nil_t p42184 0).1)) rfl rfl ?_)
      refine WL_step rfl rfl (Exec.neg rfl rfl ?_)
      refine WL_step rfl rfl (Exec.assign (v := Value.int .i64 (IntKind.i64.wrap (0 - ((stn_Network_Distance_nil_t p42184 0).1)))) rfl rfl ?_)
      refine WL_step rfl rfl (Exec.assign (v := errV 30 (none)) rfl rfl ?_)
      refine WL_nil (at_normal ?_)
      refine W_ret ?_
      have e42214 := Option.some.inj hm
      subst r
      refine ⟨_, ret2 rfl, ?_⟩
      exact ⟨s42204, l42205, hS42206, (tup2 rfl rfl)⟩

theorem stn_Network_Copy_nil_sim {w0 w : World} {s : PHeap} {H : List Res}   {r : Unit} (hm : stn_Network_Copy_nil_p  = some r) (hS : St w0 s (H) w)  :
    Calls Try.prog 21 #[Value.pointer none] w fun e w' => ∃ v, e = .returned v ∧ ((fun (_ : Unit) => ∃ (s42241 : PHeap) , PHeap.le s s42241 ∧ St w0 s42241 (H) w' ∧ v = Value.pointer none) r) := by
  unfold stn_Network_Copy_nil_p at hm
  refine calls_of_W Try.func21 rfl rfl ?_
  refine W_seq ?_
  refine W_region ?_
  refine WL_step rfl rfl (Exec.assign (v := Value.pointer none) rfl rfl ?_)
  refine WL_nil (at_normal ?_)
  refine W_seq ?_
  refine W_seq ?_
  refine W_region ?_
  refine WL_step rfl rfl (Exec.move (v := Value.pointer none) rfl rfl ?_)
  refine WL_step rfl rfl (Exec.ptr_eql_nil Try.underlying24 rfl rfl rfl ?_)
  refine WL_nil (at_normal ?_)
  refine W_true rfl ?_
  refine W_seq ?_
  refine W_region ?_
  refine WL_step rfl rfl (Exec.assign (v := Value.pointer none) rfl rfl ?_)
  refine WL_nil (at_normal ?_)
  refine W_ret (at_ret ?_)
  have e42243 := Option.some.inj hm
  subst r
  refine ⟨_, ret1 rfl, ?_⟩
  exact ⟨s, (PHeap.le_refl _), hS, rfl⟩

theorem N7 : (Try.f7.name == "runtime.NumGoroutine") = false := by kernel_rfl

theorem law54_StnTight_sim {w0 w : World} {s : PHeap} {H : List Res} {n1 : Int} {bounds2 : (List Bound)} {at_5 : Int} {v3 : Value} {r : Bool} (hm : law54_StnTight_p n1 bounds2 at_5 = some r) (hS : St w0 s (H) w) (a4 : SliceRep encBound s v3 bounds2) :
    Calls Try.prog 7 #[Value.int .u8 (n1), v3, Value.int .u8 (at_5)] w fun e w' => ∃ v, e = .returned v ∧ ((fun (y42448 : Bool) => ∃ (s42449 : PHeap) , PHeap.le s s42449 ∧ St w0 s42449 (H) w' ∧ v = Value.bool (y42448)) r) := by
  unfold law54_StnTight_p at hm
  refine calls_of_W Try.func7 rfl rfl ?_
  refine W_seq ?_
  refine W_region ?_
  refine WL_step rfl rfl (Exec.assign (v := Value.bool (false)) rfl rfl ?_)
  refine WL_nil (at_normal ?_)
  refine W_seq ?_
  refine W_seq ?_
  obtain ⟨z42458, ht42459, hm⟩ := bind_some hm
  refine W_mid (M := fun f' w' => (fun (z42458 : Bool) => ∃ (s42460 : PHeap) , PHeap.le s s42460 ∧ St w0 s42460 (H) w' ∧ f' 0 = Value.int .u8 (n1) ∧ f' 1 = v3 ∧ f' 2 = Value.int .u8 (at_5) ∧ f' 26 = Value.bool (z42458)) z42458) ?_ ?_
  · refine W_region ?_
    obtain ⟨y42463, q42462, ht42459⟩ := bind_some ht42459
    refine WL_step rfl rfl (Exec.call rfl rfl Try.func9 rfl N9 args_nil ((law54_awake_sim q42462 hS ).mono ?_))
    rintro _ w42464 ⟨_, rfl, ⟨s42465, l42466, hS42467, rfl⟩⟩
    refine ⟨_, rfl, ?_⟩
    refine WL_step rfl rfl (Exec.not rfl rfl ?_)
    refine WL_step rfl rfl (Exec.move (v := Value.bool (!y42463)) rfl rfl ?_)
    rcases ite_some ht42459 with ⟨hc42468, ht42459⟩ | ⟨hc42468, ht42459⟩
    · refine WL_pass rfl (yield_of rfl (congrArg Value.bool hc42468)) rfl rfl ?_
      refine WL_pass rfl (yield_of rfl (congrArg Value.bool hc42468)) rfl rfl ?_
      refine WL_pass rfl (yield_of rfl (congrArg Value.bool hc42468)) rfl rfl ?_
      refine WL_step rfl rfl (Exec.pick_t (v := Value.bool (true)) rfl (congrArg Value.bool hc42468) rfl ?_)
      refine WL_nil (at_normal ?_)
      have e42469 := Option.some.inj ht42459
      subst z42458
      exact ⟨s42465, l42466, hS42467, rfl, rfl, rfl, rfl⟩
    · replace hc42468 := not_true hc42468
      refine WL_run rfl (yield_of rfl (congrArg Value.bool hc42468)) rfl (Exec.move (v := v3) rfl rfl ?_)
      refine WL_run rfl (yield_of rfl (congrArg Value.bool hc42468)) rfl (Exec.len_rep S22 rfl rfl (a4.mono l42466) ?_)
      refine WL_run rfl (yield_of rfl (congrArg Value.bool hc42468)) rfl (Exec.gtr rfl rfl rfl ?_)
      refine WL_step rfl rfl (Exec.pick_f (v := Value.bool (decide (30 < (bounds2.length : Int)))) rfl (congrArg Value.bool hc42468) rfl ?_)
      refine WL_nil (at_normal ?_)
      have e42470 := Option.some.inj ht42459
      subst z42458
      exact ⟨s42465, l42466, hS42467, rfl, rfl, rfl, rfl⟩
  · intro f42471 w42472 hM42473
    obtain ⟨s42474, l42475, hS42476, p42477, p42478, p42479, p42480⟩ := hM42473
    refine (at_normal ?_)
    rcases ite_some hm with ⟨hc42481, hm⟩ | ⟨hc42481, hm⟩
    · refine W_cond_t p42480 hc42481 ?_
      refine W_seq ?_
      refine W_region ?_
      obtain ⟨y42491, q42490, hm⟩ := bind_some hm
      refine WL_step rfl rfl (Exec.call rfl rfl Try.func9 rfl N9 args_nil ((law54_awake_sim q42490 hS42476 ).mono ?_))
      rintro _ w42492 ⟨_, rfl, ⟨s42493, l42494, hS42495, rfl⟩⟩
      refine ⟨_, rfl, ?_⟩
      refine WL_step rfl rfl (Exec.assign (v := Value.bool (y42491)) rfl rfl ?_)
      refine WL_nil (at_normal ?_)
      refine W_ret (at_ret ?_)
      have e42497 := Option.some.inj hm
      subst r
      refine ⟨_, ret1 rfl, ?_⟩
      exact ⟨s42493, (PHeap.le.trans l42475 l42494), hS42495, rfl⟩
    · refine W_cond_f p42480 hc42481 ?_
      replace hc42481 := not_true hc42481
      refine W_skip (at_normal ?_)
      refine W_seq ?_
      refine W_region ?_
      refine WL_step rfl rfl (Exec.move (v := Value.int .u8 (n1)) rfl p42477 ?_)
      refine WL_step rfl rfl (Exec.convert_int (by rw [Try.underlying5]; rfl) Try.underlying3 rfl rfl ?_)
      refine WL_step rfl rfl (Exec.rem rfl rfl rfl (by decide) ?_)
      refine WL_step rfl rfl (Exec.add rfl rfl rfl ?_)
      refine WL_step rfl rfl (Exec.assign (v := Value.int .i64 (IntKind.i64.wrap (1 + ((IntKind.i64.wrap n1).tmod 10)))) rfl rfl ?_)
      refine WL_nil (at_normal ?_)
      refine W_seq ?_
      refine W_region ?_
      refine WL_step rfl rfl (Exec.move (v := Value.int .i64 (IntKind.i64.wrap (1 + ((IntKind.i64.wrap n1).tmod 10)))) rfl rfl ?_)
      obtain ⟨t42516, q42517, hm⟩ := bind_some hm
      obtain ⟨pd42518, y42519⟩ := t42516
      replace hm := un2_eq hm
      refine WL_step rfl rfl (Exec.call rfl rfl Try.func10 rfl N10 (args_cons rfl args_nil) ((stn_New_sim q42517 hS42476 ).mono ?_))
      rintro _ w42520 ⟨_, rfl, hp42521⟩
      refine ⟨_, rfl, ?_⟩
      rcases hp42521 with ⟨d42522, rfl, s42523, v42526, v42527, v42528, l42524, hS42525, rfl⟩ | ⟨rfl, s42530, l42531, hS42532, rfl⟩
      · replace hm := optC_some hm
        refine WL_step rfl rfl (Exec.move (v := Value.tuple #[Value.pointer (some ⟨v42526, 0, none⟩), errV 30 (y42519)]) rfl rfl ?_)
        refine WL_step rfl rfl (Exec.extract (v := Value.pointer (some ⟨v42526, 0, none⟩)) rfl rfl rfl ?_)
        refine WL_step rfl rfl (Exec.extract (v := errV 30 (y42519)) rfl rfl rfl ?_)
        refine WL_step rfl rfl (Exec.assign (v := Value.pointer (some ⟨v42526, 0, none⟩)) rfl rfl ?_)
        refine WL_step rfl rfl (Exec.assign (v := errV 30 (y42519)) rfl rfl ?_)
        refine WL_nil (at_normal ?_)
        refine W_seq ?_
        refine W_seq ?_
        refine W_region ?_
        refine WL_step rfl rfl (Exec.move (v := errV 30 (y42519)) rfl rfl ?_)
        refine WL_step rfl rfl (Exec.err_neq_nil (T := 30) Try.underlying26 rfl rfl rfl ?_)
        refine WL_nil (at_normal ?_)
        rcases ite_some hm with ⟨hc42534, hm⟩ | ⟨hc42534, hm⟩
        · refine W_cond_t rfl hc42534 ?_
          refine W_seq ?_
          refine W_region ?_
          refine WL_step rfl rfl (Exec.assign (v := Value.bool (false)) rfl rfl ?_)
          refine WL_nil (at_normal ?_)
          refine W_ret (at_ret ?_)
          have e42536 := Option.some.inj hm
          subst r
          refine ⟨_, ret1 rfl, ?_⟩
          have hS42537 := (hS42525).drop
          have hS42538 := ((hS42537).drop).drop
          exact ⟨s42523, (PHeap.le.trans l42475 l42524), hS42538, rfl⟩
        · refine W_cond_f rfl hc42534 ?_
          replace hc42534 := not_true hc42534
          refine W_skip (at_normal ?_)
          refine W_seq ?_
          refine W_seq ?_
          refine W_region ?_
          refine WL_step rfl rfl (Exec.move (v := v3) rfl p42478 ?_)
          refine WL_step rfl rfl (Exec.len_rep S22 rfl rfl (a4.mono (PHeap.le.trans l42475 l42524)) ?_)
          refine WL_step rfl rfl (Exec.move (v := Value.int .i64 (0)) rfl rfl ?_)
          refine WL_nil (at_normal ?_)
          obtain ⟨c42811, hB42812, hr42813, hn42814, hb42815⟩ := ctl_some hm
          refine W_mid (M := fun f' w' => ∃ s', (c42811 = .next s' ∨ c42811 = .brk s') ∧ (fun (l42810 : (List (List Int))) => ∃ (s42817 : PHeap) , PHeap.le s42523 s42817 ∧ St w0 s42817 (Res.box v42526 63 [v42527] :: Res.arr encRaw 49 v42527 v42528 :: Res.rows (encInt .i64) 3 v42528 l42810 :: H) w' ∧ f' 2 = Value.int .u8 (at_5) ∧ f' 7 = Value.int .i64 (IntKind.i64.wrap (1 + ((IntKind.i64.wrap n1).tmod 10))) ∧ f' 8 = Value.pointer (some ⟨v42526, 0, none⟩) ∧ f' 39 = v3 ∧ f' 40 = Value.int .i64 ((bounds2.length : Int))) s') ?_ ?_
          · refine W_block (W_forC (fun k' s' f' w' => (fun (l42629 : (List (List Int))) => ∃ (s42816 : PHeap) , PHeap.le s42523 s42816 ∧ St w0 s42816 (Res.box v42526 63 [v42527] :: Res.arr encRaw 49 v42527 v42528 :: Res.rows (encInt .i64) 3 v42528 l42629 :: H) w' ∧ f' 2 = Value.int .u8 (at_5) ∧ f' 7 = Value.int .i64 (IntKind.i64.wrap (1 + ((IntKind.i64.wrap n1).tmod 10))) ∧ f' 8 = Value.pointer (some ⟨v42526, 0, none⟩) ∧ f' 39 = v3 ∧ f' 40 = Value.int .i64 ((bounds2.length : Int)) ∧ f' 41 = Value.int .i64 (k' : Int)) s') hB42812 ?_ ?_ ?_)
            · have hS42818 := ((hS42525).f2).f2
              have hS42819 := (hS42818).f2
              exact ⟨s42523, (PHeap.le_refl _), hS42819, p42479, rfl, rfl, rfl, rfl, rfl⟩
            · intro i42539 l42629 c42821 f42822 w42823 hi42827 hI42824 hm42825 hres42826
              obtain ⟨s42828, l42829, hS42830, p42831, p42832, p42833, p42834, p42835, x42836⟩ := hI42824
              refine W_seq ?_
              refine W_region ?_
              refine WL_step rfl rfl (Exec.lss rfl x42836 p42835 ?_)
              refine WL_nil (at_normal ?_)
              refine W_seq ?_
              refine W_true (congrArg Value.bool (decide_eq_true (by omega))) ?_
              refine W_skip (at_normal ?_)
              refine W_seq ?_
              refine W_block ?_
              refine W_seq ?_
              refine W_region ?_
              obtain ⟨x42849, q42850, hm42825⟩ := bind_some hm42825
              refine WL_step rfl rfl (Exec.index_rep S22 rfl p42834 x42836 (a4.mono (PHeap.le.trans (PHeap.le.trans l42475 l42524) l42829)) q42850 ?_)
              intro b42851 o42852 a42853
              refine WL_step rfl rfl (Exec.load_at (E := encBound) hS42830 A32 rfl rfl rfl a42853 ?_)
              intro v42854 q42855
              obtain rfl := encBound_val.1 q42855
              refine WL_step rfl rfl (Exec.alloc (cs := [Value.int .i64 (0), Value.int .i64 (0), Value.int .i64 (0)]) hS42830 Z32 rfl rfl ?_)
              intro b42856 w42857 hS42858
              refine WL_step rfl rfl (Exec.store_box (ds := [Value.int .i64 (x42849.A), Value.int .i64 (x42849.B), Value.int .i64 (x42849.Most)]) (es := [Value.int .i64 (x42849.A), Value.int .i64 (x42849.B), Value.int .i64 (x42849.Most)]) hS42858 A32 rfl rfl rfl rfl (one_cons rfl (one_cons rfl (one_cons rfl one_nil))) (Nat.le_of_ble_eq_true rfl) rfl ?_)
              intro w42859 hS42860
              refine WL_nil (at_normal ?_)
              refine W_seq ?_
              refine W_region ?_
              refine WL_step rfl rfl (Exec.move (v := Value.pointer (some ⟨v42526, 0, none⟩)) rfl p42833 ?_)
              refine WL_step rfl rfl (Exec.load_box_agg (ds := [Value.int .i64 (x42849.A), Value.int .i64 (x42849.B), Value.int .i64 (x42849.Most)]) (hS42860) A32 rfl rfl rfl ?_)
              obtain ⟨t42871, q42872, hm42825⟩ := bind_some hm42825
              obtain ⟨y42873, l42874⟩ := t42871
              replace hm42825 := un2_eq hm42825
              have hS42875 := ((hS42860).f3).f3
              have hS42876 := (hS42875).f3
              refine WL_step rfl rfl (Exec.call rfl rfl Try.func14 rfl N14 (args_cons rfl (args_cons rfl args_nil)) ((stn_Network_Add_sim q42872 hS42876 ).mono ?_))
              rintro _ w42877 ⟨_, rfl, ⟨s42878, l42879, hS42880, rfl⟩⟩
              refine ⟨_, rfl, ?_⟩
              refine WL_step rfl rfl (Exec.assign (v := errV 30 (y42873)) rfl rfl ?_)
              refine WL_nil (at_normal ?_)
              refine W_seq ?_
              refine W_mid (M := fun f' w' => ∃ (s42891 : PHeap) , PHeap.le s42878 s42891 ∧ St w0 s42891 (Res.box v42526 63 [v42527] :: Res.arr encRaw 49 v42527 v42528 :: Res.rows (encInt .i64) 3 v42528 l42874 :: H) w' ∧ f' 2 = Value.int .u8 (at_5) ∧ f' 7 = Value.int .i64 (IntKind.i64.wrap (1 + ((IntKind.i64.wrap n1).tmod 10))) ∧ f' 8 = Value.pointer (some ⟨v42526, 0, none⟩) ∧ f' 39 = v3 ∧ f' 40 = Value.int .i64 ((bounds2.length : Int)) ∧ f' 41 = Value.int .i64 ((i42539 : Int)) ∧ f' 59 = Value.bool ((y42873.isSome && ((!(base_Is_t y42873 1)) && !(base_Is_t y42873 21))))) ?_ ?_
              · refine W_region ?_
                refine WL_step rfl rfl (Exec.move (v := errV 30 (y42873)) rfl rfl ?_)
                refine WL_step rfl rfl (Exec.err_neq_nil (T := 30) Try.underlying26 rfl rfl rfl ?_)
                refine WL_step rfl rfl (Exec.move (v := Value.bool (y42873.isSome)) rfl rfl ?_)
                by_cases hc42892 : y42873.isSome = true
                · refine WL_run rfl (yield_of rfl (congrArg Value.bool hc42892)) rfl (Exec.move (v := errV 30 (y42873)) rfl rfl ?_)
                  refine WL_run rfl (yield_of rfl (congrArg Value.bool hc42892)) rfl (Exec.call rfl rfl Try.func11 rfl N11 (args_cons rfl (args_cons rfl args_nil)) ((base_Is_sim (base_Is_tot y42873 1) hS42880 ).mono ?_))
                  rintro _ w42893 ⟨_, rfl, ⟨s42894, l42895, hS42896, rfl⟩⟩
                  refine ⟨_, rfl, ?_⟩
                  refine WL_run rfl (yield_of rfl (congrArg Value.bool hc42892)) rfl (Exec.not rfl rfl ?_)
                  refine WL_step rfl rfl (Exec.pick_t (v := Value.bool (!(base_Is_t y42873 1))) rfl (congrArg Value.bool hc42892) rfl ?_)
                  refine WL_step rfl rfl (Exec.move (v := Value.bool (!(base_Is_t y42873 1))) rfl rfl ?_)
                  by_cases hc42897 : (!(base_Is_t y42873 1)) = true
                  · refine WL_run rfl (yield_of rfl (congrArg Value.bool hc42897)) rfl (Exec.move (v := errV 30 (y42873)) rfl rfl ?_)
                    refine WL_run rfl (yield_of rfl (congrArg Value.bool hc42897)) rfl (Exec.call rfl rfl Try.func11 rfl N11 (args_cons rfl (args_cons rfl args_nil)) ((base_Is_sim (base_Is_tot y42873 21) hS42896 ).mono ?_))
                    rintro _ w42898 ⟨_, rfl, ⟨s42899, l42900, hS42901, rfl⟩⟩
                    refine ⟨_, rfl, ?_⟩
                    refine WL_run rfl (yield_of rfl (congrArg Value.bool hc42897)) rfl (Exec.not rfl rfl ?_)
                    refine WL_step rfl rfl (Exec.pick_t (v := Value.bool (!(base_Is_t y42873 21))) rfl (congrArg Value.bool hc42897) rfl ?_)
                    refine WL_nil (at_normal ?_)
                    have hS42902 := ((hS42901).f3).drop
                    have hS42903 := ((hS42902).f2).f2
                    have hS42904 := (hS42903).f2
                    exact ⟨s42899, (PHeap.le.trans l42895 l42900), hS42904, p42831, p42832, p42833, p42834, p42835, x42836, (congrArg Value.bool (Eq.trans (and_t hc42892) (and_t hc42897))).symm⟩
                  · replace hc42897 := not_true hc42897
                    refine WL_pass rfl (yield_of rfl (congrArg Value.bool hc42897)) rfl rfl ?_
                    refine WL_pass rfl (yield_of rfl (congrArg Value.bool hc42897)) rfl rfl ?_
                    refine WL_pass rfl (yield_of rfl (congrArg Value.bool hc42897)) rfl rfl ?_
                    refine WL_step rfl rfl (Exec.pick_f (v := Value.bool (false)) rfl (congrArg Value.bool hc42897) rfl ?_)
                    refine WL_nil (at_normal ?_)
                    have hS42905 := ((hS42896).f3).drop
                    have hS42906 := ((hS42905).f2).f2
                    have hS42907 := (hS42906).f2
                    exact ⟨s42894, l42895, hS42907, p42831, p42832, p42833, p42834, p42835, x42836, (congrArg Value.bool (Eq.trans (and_t hc42892) (and_f hc42897))).symm⟩
                · replace hc42892 := not_true hc42892
                  refine WL_pass rfl (yield_of rfl (congrArg Value.bool hc42892)) rfl rfl ?_
                  refine WL_pass rfl (yield_of rfl (congrArg Value.bool hc42892)) rfl rfl ?_
                  refine WL_pass rfl (yield_of rfl (congrArg Value.bool hc42892)) rfl rfl ?_
                  refine WL_step rfl rfl (Exec.pick_f (v := Value.bool (false)) rfl (congrArg Value.bool hc42892) rfl ?_)
                  refine WL_step rfl rfl (Exec.move (v := Value.bool (false)) rfl rfl ?_)
                  refine WL_pass rfl (yield_of rfl rfl) rfl rfl ?_
                  refine WL_pass rfl (yield_of rfl rfl) rfl rfl ?_
                  refine WL_pass rfl (yield_of rfl rfl) rfl rfl ?_
                  refine WL_step rfl rfl (Exec.pick_f (v := Value.bool (false)) rfl rfl rfl ?_)
                  refine WL_nil (at_normal ?_)
                  have hS42908 := ((hS42880).f3).drop
                  have hS42909 := ((hS42908).f2).f2
                  have hS42910 := (hS42909).f2
                  exact ⟨s42878, (PHeap.le_refl _), hS42910, p42831, p42832, p42833, p42834, p42835, x42836, (congrArg Value.bool (and_f hc42892)).symm⟩
              · intro f42911 w42912 hM42913
                obtain ⟨s42914, l42915, hS42916, p42917, p42918, p42919, p42920, p42921, p42922, p42923⟩ := hM42913
                refine (at_normal ?_)
                rcases ite_some hm42825 with ⟨hc42924, hm42825⟩ | ⟨hc42924, hm42825⟩
                · refine W_cond_t p42923 hc42924 ?_
                  refine W_seq ?_
                  refine W_region ?_
                  refine WL_step rfl rfl (Exec.assign (v := Value.bool (false)) rfl rfl ?_)
                  refine WL_nil (at_normal ?_)
                  refine W_ret (ib_ret (at_ret (at_ret (ib_ret (at_ret (at_ret ?_))))))
                  have e42925 := Option.some.inj hm42825
                  subst c42821
                  have hq42926 := hr42813 _ (hres42826 (by intro _ h; cases h))
                  have e42927 := Option.some.inj hq42926
                  subst r
                  refine ⟨_, ret1 rfl, ?_⟩
                  have hS42928 := (hS42916).drop
                  have hS42929 := ((hS42928).drop).drop
                  exact ⟨s42914, (PHeap.le.trans (PHeap.le.trans (PHeap.le.trans (PHeap.le.trans l42475 l42524) l42829) l42879) l42915), hS42929, rfl⟩
                · refine W_cond_f p42923 hc42924 ?_
                  replace hc42924 := not_true hc42924
                  refine W_skip (ib_normal (at_normal ?_))
                  refine W_region ?_
                  refine WL_step rfl rfl (Exec.add rfl p42922 rfl ?_)
                  refine WL_step rfl rfl (Exec.move (v := Value.int .i64 (IntKind.i64.wrap ((i42539 : Int) + 1))) rfl rfl ?_)
                  refine WL_nil (at_normal ?_)
                  have e42930 := Option.some.inj hm42825
                  subst c42821
                  have hS42931 := ((hS42916).f2).f2
                  have hS42932 := (hS42931).f2
                  refine ⟨_, rfl, ?_⟩; exact ⟨s42914, (PHeap.le.trans (PHeap.le.trans l42829 l42879) l42915), hS42932, p42917, p42918, p42919, p42920, p42921, (Eq.trans rfl (wrap_up hi42827 (SliceRep.le (a4.mono (PHeap.le.trans l42475 l42524)))))⟩
            · intro l42629 f42933 w42934 hI42935 hres42936
              obtain ⟨s42937, l42938, hS42939, p42940, p42941, p42942, p42943, p42944, x42945⟩ := hI42935
              refine W_seq ?_
              refine W_region ?_
              refine WL_step rfl rfl (Exec.lss rfl x42945 p42944 ?_)
              refine WL_nil (at_normal ?_)
              refine W_seq ?_
              refine W_false (congrArg Value.bool (decide_eq_false (by omega))) ?_
              refine W_exit (at_exit (at_exit (ib_here (at_normal ?_))))
              have hS42946 := ((hS42939).f2).f2
              have hS42947 := (hS42946).f2
              refine ⟨_, .inl hres42936, ?_⟩; exact ⟨s42937, l42938, hS42947, p42940, p42941, p42942, p42943, p42944⟩
          · rintro f42948 w42949 ⟨l42810, hc42950, hM42951⟩
            have hm := hc42950.elim (hn42814 _) (hb42815 _)
            clear hc42950
            obtain ⟨s42952, l42953, hS42954, p42955, p42956, p42957, p42958, p42959⟩ := hM42951
            refine (at_normal ?_)
            refine W_seq ?_
            refine W_seq ?_
            refine W_region ?_
            refine WL_step rfl rfl (Exec.move (v := Value.pointer (some ⟨v42526, 0, none⟩)) rfl p42957 ?_)
            obtain ⟨t42972, q42973, hm⟩ := bind_some hm
            obtain ⟨y42974, y42975⟩ := t42972
            replace hm := un2_eq hm
            have hS42976 := ((hS42954).f2).f2
            have hS42977 := (hS42976).f2
            refine WL_step rfl rfl (Exec.call rfl rfl Try.func22 rfl N22 (args_cons rfl args_nil) ((stn_Network_Times_sim q42973 hS42977 ).mono ?_))
            rintro _ w42978 ⟨_, rfl, ⟨s42979, v42982, l42980, hS42981, rfl, r42983⟩⟩
            refine ⟨_, rfl, ?_⟩
            refine WL_step rfl rfl (Exec.move (v := Value.tuple #[v42982, errV 30 (y42975)]) rfl rfl ?_)
            refine WL_step rfl rfl (Exec.extract (v := v42982) rfl rfl rfl ?_)
            refine WL_step rfl rfl (Exec.extract (v := errV 30 (y42975)) rfl rfl rfl ?_)
            refine WL_step rfl rfl (Exec.assign (v := v42982) rfl rfl ?_)
            refine WL_step rfl rfl (Exec.assign (v := errV 30 (y42975)) rfl rfl ?_)
            refine WL_nil (at_normal ?_)
            refine W_seq ?_
            obtain ⟨z42994, ht42995, hm⟩ := bind_some hm
            refine W_mid (M := fun f' w' => (fun (z42994 : Bool) => ∃ (s42996 : PHeap) , PHeap.le s42979 s42996 ∧ St w0 s42996 (Res.box v42526 63 [v42527] :: Res.arr encRaw 49 v42527 v42528 :: Res.rows (encInt .i64) 3 v42528 l42810 :: H) w' ∧ f' 2 = Value.int .u8 (at_5) ∧ f' 7 = Value.int .i64 (IntKind.i64.wrap (1 + ((IntKind.i64.wrap n1).tmod 10))) ∧ f' 8 = Value.pointer (some ⟨v42526, 0, none⟩) ∧ f' 73 = Value.bool (z42994)) z42994) ?_ ?_
            · refine W_region ?_
              refine WL_step rfl rfl (Exec.move (v := errV 30 (y42975)) rfl rfl ?_)
              refine WL_step rfl rfl (Exec.err_eql_nil (T := 30) Try.underlying26 rfl rfl rfl ?_)
              refine WL_step rfl rfl (Exec.move (v := Value.bool (y42975.isNone)) rfl rfl ?_)
              rcases ite_some ht42995 with ⟨hc42997, ht42995⟩ | ⟨hc42997, ht42995⟩
              · refine WL_run rfl (yield_of rfl (congrArg Value.bool hc42997)) rfl (Exec.move (v := Value.pointer (some ⟨v42526, 0, none⟩)) rfl p42957 ?_)
                refine WL_run rfl (yield_of rfl (congrArg Value.bool hc42997)) rfl (Exec.move (v := v42982) rfl rfl ?_)
                obtain ⟨y43000, q42999, ht42995⟩ := bind_some ht42995
                have hS43001 := ((hS42981).f2).f2
                have hS43002 := (hS43001).f2
                refine WL_run rfl (yield_of rfl (congrArg Value.bool hc42997)) rfl (Exec.call rfl rfl Try.func20 rfl N20 (args_cons rfl (args_cons rfl args_nil)) ((stn_Network_Holds_sim q42999 hS43002 r42983).mono ?_))
                rintro _ w43003 ⟨_, rfl, ⟨s43004, l43005, hS43006, rfl⟩⟩
                refine ⟨_, rfl, ?_⟩
                refine WL_run rfl (yield_of rfl (congrArg Value.bool hc42997)) rfl (Exec.not rfl rfl ?_)
                refine WL_step rfl rfl (Exec.pick_t (v := Value.bool (!y43000)) rfl (congrArg Value.bool hc42997) rfl ?_)
                refine WL_nil (at_normal ?_)
                have e43007 := Option.some.inj ht42995
                subst z42994
                have hS43008 := ((hS43006).f2).f2
                have hS43009 := (hS43008).f2
                exact ⟨s43004, l43005, hS43009, p42955, p42956, p42957, rfl⟩
              · replace hc42997 := not_true hc42997
                refine WL_pass rfl (yield_of rfl (congrArg Value.bool hc42997)) rfl rfl ?_
                refine WL_pass rfl (yield_of rfl (congrArg Value.bool hc42997)) rfl rfl ?_
                refine WL_pass rfl (yield_of rfl (congrArg Value.bool hc42997)) rfl rfl ?_
                refine WL_pass rfl (yield_of rfl (congrArg Value.bool hc42997)) rfl rfl ?_
                refine WL_step rfl rfl (Exec.pick_f (v := Value.bool (false)) rfl (congrArg Value.bool hc42997) rfl ?_)
                refine WL_nil (at_normal ?_)
                have e43010 := Option.some.inj ht42995
                subst z42994
                have hS43011 := ((hS42981).f2).f2
                have hS43012 := (hS43011).f2
                exact ⟨s42979, (PHeap.le_refl _), hS43012, p42955, p42956, p42957, rfl⟩
            · intro f43013 w43014 hM43015
              obtain ⟨s43016, l43017, hS43018, p43019, p43020, p43021, p43022⟩ := hM43015
              refine (at_normal ?_)
              rcases ite_some hm with ⟨hc43023, hm⟩ | ⟨hc43023, hm⟩
              · refine W_cond_t p43022 hc43023 ?_
                refine W_seq ?_
                refine W_region ?_
                refine WL_step rfl rfl (Exec.assign (v := Value.bool (false)) rfl rfl ?_)
                refine WL_nil (at_normal ?_)
                refine W_ret (at_ret ?_)
                have e43025 := Option.some.inj hm
                subst r
                refine ⟨_, ret1 rfl, ?_⟩
                have hS43026 := (hS43018).drop
                have hS43027 := ((hS43026).drop).drop
                exact ⟨s43016, (PHeap.le.trans (PHeap.le.trans (PHeap.le.trans (PHeap.le.trans l42475 l42524) l42953) l42980) l43017), hS43027, rfl⟩
              · refine W_cond_f p43022 hc43023 ?_
                replace hc43023 := not_true hc43023
                refine W_skip (at_normal ?_)
                refine W_seq ?_
                refine W_region ?_
                refine WL_step rfl rfl (Exec.move (v := Value.int .u8 (at_5)) rfl p43019 ?_)
                refine WL_step rfl rfl (Exec.convert_int (by rw [Try.underlying5]; rfl) Try.underlying3 rfl rfl ?_)
                refine WL_step rfl rfl (Exec.move (v := Value.int .i64 (IntKind.i64.wrap (1 + ((IntKind.i64.wrap n1).tmod 10)))) rfl p43020 ?_)
                obtain ⟨u43030, q43031, hm⟩ := bind_some hm
                refine WL_step rfl rfl (Exec.rem rfl rfl rfl (by simpa using must_some q43031) ?_)
                refine WL_step rfl rfl (Exec.assign (v := Value.int .i64 ((IntKind.i64.wrap at_5).tmod (IntKind.i64.wrap (1 + ((IntKind.i64.wrap n1).tmod 10))))) rfl rfl ?_)
                refine WL_nil (at_normal ?_)
                refine W_seq ?_
                refine W_seq ?_
                refine W_region ?_
                refine WL_step rfl rfl (Exec.move (v := Value.pointer (some ⟨v42526, 0, none⟩)) rfl p43021 ?_)
                refine WL_step rfl rfl (Exec.move (v := Value.int .i64 ((IntKind.i64.wrap at_5).tmod (IntKind.i64.wrap (1 + ((IntKind.i64.wrap n1).tmod 10))))) rfl rfl ?_)
                obtain ⟨t43042, q43043, hm⟩ := bind_some hm
                obtain ⟨y43044, y43045⟩ := t43042
                replace hm := un2_eq hm
                have hS43046 := ((hS43018).f2).f2
                have hS43047 := (hS43046).f2
                refine WL_step rfl rfl (Exec.call rfl rfl Try.func16 rfl N16 (args_cons rfl (args_cons rfl args_nil)) ((stn_Network_Earliest_sim q43043 hS43047 ).mono ?_))
                rintro _ w43048 ⟨_, rfl, ⟨s43049, l43050, hS43051, rfl⟩⟩
                refine ⟨_, rfl, ?_⟩
                refine WL_step rfl rfl (Exec.move (v := Value.tuple #[Value.int .i64 (y43044), errV 30 (y43045)]) rfl rfl ?_)
                refine WL_step rfl rfl (Exec.extract (v := Value.int .i64 (y43044)) rfl rfl rfl ?_)
                refine WL_step rfl rfl (Exec.extract (v := errV 30 (y43045)) rfl rfl rfl ?_)
                refine WL_step rfl rfl (Exec.assign (v := Value.int .i64 (y43044)) rfl rfl ?_)
                refine WL_step rfl rfl (Exec.assign (v := errV 30 (y43045)) rfl rfl ?_)
                refine WL_nil (at_normal ?_)
                refine W_seq ?_
                refine W_mid (M := fun f' w' => ∃ (s43054 : PHeap) , PHeap.le s43049 s43054 ∧ St w0 s43054 (Res.box v42526 63 [v42527] :: Res.arr encRaw 49 v42527 v42528 :: Res.rows (encInt .i64) 3 v42528 l42810 :: H) w' ∧ f' 8 = Value.pointer (some ⟨v42526, 0, none⟩) ∧ f' 15 = Value.int .i64 ((IntKind.i64.wrap at_5).tmod (IntKind.i64.wrap (1 + ((IntKind.i64.wrap n1).tmod 10)))) ∧ f' 16 = Value.int .i64 (y43044) ∧ f' 93 = Value.bool ((y43045.isNone && ((decide ((-1099511627776) < y43044)) && decide (y43044 < 1099511627776))))) ?_ ?_
                · refine W_region ?_
                  refine WL_step rfl rfl (Exec.move (v := errV 30 (y43045)) rfl rfl ?_)
                  refine WL_step rfl rfl (Exec.err_eql_nil (T := 30) Try.underlying26 rfl rfl rfl ?_)
                  refine WL_step rfl rfl (Exec.move (v := Value.bool (y43045.isNone)) rfl rfl ?_)
                  by_cases hc43055 : y43045.isNone = true
                  · refine WL_run rfl (yield_of rfl (congrArg Value.bool hc43055)) rfl (Exec.move (v := Value.int .i64 (y43044)) rfl rfl ?_)
                    refine WL_run rfl (yield_of rfl (congrArg Value.bool hc43055)) rfl (Exec.gtr rfl rfl rfl ?_)
                    refine WL_step rfl rfl (Exec.pick_t (v := Value.bool (decide ((-1099511627776) < y43044))) rfl (congrArg Value.bool hc43055) rfl ?_)
                    refine WL_step rfl rfl (Exec.move (v := Value.bool (decide ((-1099511627776) < y43044))) rfl rfl ?_)
                    by_cases hc43056 : (decide ((-1099511627776) < y43044)) = true
                    · refine WL_run rfl (yield_of rfl (congrArg Value.bool hc43056)) rfl (Exec.move (v := Value.int .i64 (y43044)) rfl rfl ?_)
                      refine WL_run rfl (yield_of rfl (congrArg Value.bool hc43056)) rfl (Exec.lss rfl rfl rfl ?_)
                      refine WL_step rfl rfl (Exec.pick_t (v := Value.bool (decide (y43044 < 1099511627776))) rfl (congrArg Value.bool hc43056) rfl ?_)
                      refine WL_nil (at_normal ?_)
                      have hS43057 := ((hS43051).f2).f2
                      have hS43058 := (hS43057).f2
                      exact ⟨s43049, (PHeap.le_refl _), hS43058, p43021, rfl, rfl, (congrArg Value.bool (Eq.trans (and_t hc43055) (and_t hc43056))).symm⟩
                    · replace hc43056 := not_true hc43056
                      refine WL_pass rfl (yield_of rfl (congrArg Value.bool hc43056)) rfl rfl ?_
                      refine WL_pass rfl (yield_of rfl (congrArg Value.bool hc43056)) rfl rfl ?_
                      refine WL_step rfl rfl (Exec.pick_f (v := Value.bool (false)) rfl (congrArg Value.bool hc43056) rfl ?_)
                      refine WL_nil (at_normal ?_)
                      have hS43059 := ((hS43051).f2).f2
                      have hS43060 := (hS43059).f2
                      exact ⟨s43049, (PHeap.le_refl _), hS43060, p43021, rfl, rfl, (congrArg Value.bool (Eq.trans (and_t hc43055) (and_f hc43056))).symm⟩
                  · replace hc43055 := not_true hc43055
                    refine WL_pass rfl (yield_of rfl (congrArg Value.bool hc43055)) rfl rfl ?_
                    refine WL_pass rfl (yield_of rfl (congrArg Value.bool hc43055)) rfl rfl ?_
                    refine WL_step rfl rfl (Exec.pick_f (v := Value.bool (false)) rfl (congrArg Value.bool hc43055) rfl ?_)
                    refine WL_step rfl rfl (Exec.move (v := Value.bool (false)) rfl rfl ?_)
                    refine WL_pass rfl (yield_of rfl rfl) rfl rfl ?_
                    refine WL_pass rfl (yield_of rfl rfl) rfl rfl ?_
                    refine WL_step rfl rfl (Exec.pick_f (v := Value.bool (false)) rfl rfl rfl ?_)
                    refine WL_nil (at_normal ?_)
                    have hS43061 := ((hS43051).f2).f2
                    have hS43062 := (hS43061).f2
                    exact ⟨s43049, (PHeap.le_refl _), hS43062, p43021, rfl, rfl, (congrArg Value.bool (and_f hc43055)).symm⟩
                · intro f43063 w43064 hM43065
                  obtain ⟨s43066, l43067, hS43068, p43069, p43070, p43071, p43072⟩ := hM43065
                  refine (at_normal ?_)
                  rcases ite_some hm with ⟨hc43073, hm⟩ | ⟨hc43073, hm⟩
                  · refine W_cond_t p43072 hc43073 ?_
                    refine W_seq ?_
                    obtain ⟨z43123, ht43124, hm⟩ := bind_some hm
                    refine W_mid (M := fun f' w' => (fun (z43123 : Bool) => ∃ (s43125 : PHeap) , PHeap.le s43066 s43125 ∧ St w0 s43125 (Res.box v42526 63 [v42527] :: Res.arr encRaw 49 v42527 v42528 :: Res.rows (encInt .i64) 3 v42528 l42810 :: H) w' ∧ f' 8 = Value.pointer (some ⟨v42526, 0, none⟩) ∧ f' 15 = Value.int .i64 ((IntKind.i64.wrap at_5).tmod (IntKind.i64.wrap (1 + ((IntKind.i64.wrap n1).tmod 10)))) ∧ f' 111 = Value.bool (z43123)) z43123) ?_ ?_
                    · refine W_region ?_
                      refine WL_step rfl rfl (Exec.move (v := Value.pointer (some ⟨v42526, 0, none⟩)) rfl p43069 ?_)
                      obtain ⟨d43128, q43127, ht43124⟩ := bind_some ht43124
                      have hS43129 := ((hS43068).f2).f2
                      have hS43130 := (hS43129).f2
                      refine WL_step rfl rfl (Exec.call rfl rfl Try.func21 rfl N21 (args_cons rfl args_nil) ((stn_Network_Copy_sim q43127 hS43130 ).mono ?_))
                      rintro _ w43131 ⟨_, rfl, ⟨s43132, v43135, v43136, v43137, l43133, hS43134, rfl⟩⟩
                      refine ⟨_, rfl, ?_⟩
                      refine WL_step rfl rfl (Exec.move (v := Value.int .i64 ((IntKind.i64.wrap at_5).tmod (IntKind.i64.wrap (1 + ((IntKind.i64.wrap n1).tmod 10))))) rfl p43070 ?_)
                      refine WL_step rfl rfl (Exec.move (v := Value.int .i64 (y43044)) rfl p43071 ?_)
                      refine WL_step rfl rfl (Exec.sub rfl rfl rfl ?_)
                      refine WL_step rfl rfl (Exec.build rfl (parts_cons (c := [Value.int .i64 (0)]) (cells_of rfl rfl) (parts_cons (c := [Value.int .i64 ((IntKind.i64.wrap at_5).tmod (IntKind.i64.wrap (1 + ((IntKind.i64.wrap n1).tmod 10))))]) (cells_of rfl rfl) (parts_cons (c := [Value.int .i64 (IntKind.i64.wrap (y43044 - 1))]) (cells_of rfl rfl) parts_nil))) (v := Value.agg #[Value.int .i64 (0), Value.int .i64 ((IntKind.i64.wrap at_5).tmod (IntKind.i64.wrap (1 + ((IntKind.i64.wrap n1).tmod 10)))), Value.int .i64 (IntKind.i64.wrap (y43044 - 1))]) (fun _ => by kernel_rfl) ?_)
                      obtain ⟨t43138, q43139, ht43124⟩ := bind_some ht43124
                      obtain ⟨y43140, l43141⟩ := t43138
                      replace ht43124 := un2_eq ht43124
                      have hS43142 := ((hS43134).f5).f5
                      have hS43143 := (hS43142).f5
                      refine WL_step rfl rfl (Exec.call rfl rfl Try.func14 rfl N14 (args_cons rfl (args_cons rfl args_nil)) ((stn_Network_Add_sim q43139 hS43143 ).mono ?_))
                      rintro _ w43144 ⟨_, rfl, ⟨s43145, l43146, hS43147, rfl⟩⟩
                      refine ⟨_, rfl, ?_⟩
                      refine WL_step rfl rfl (Exec.call rfl rfl Try.func11 rfl N11 (args_cons rfl (args_cons rfl args_nil)) ((base_Is_sim (base_Is_tot y43140 21) hS43147 ).mono ?_))
                      rintro _ w43148 ⟨_, rfl, ⟨s43149, l43150, hS43151, rfl⟩⟩
                      refine ⟨_, rfl, ?_⟩
                      refine WL_step rfl rfl (Exec.not rfl rfl ?_)
                      refine WL_step rfl rfl (Exec.move (v := Value.bool (!(base_Is_t y43140 21))) rfl rfl ?_)
                      rcases ite_some ht43124 with ⟨hc43152, ht43124⟩ | ⟨hc43152, ht43124⟩
                      · refine WL_pass rfl (yield_of rfl (congrArg Value.bool hc43152)) rfl rfl ?_
                        refine WL_pass rfl (yield_of rfl (congrArg Value.bool hc43152)) rfl rfl ?_
                        refine WL_pass rfl (yield_of rfl (congrArg Value.bool hc43152)) rfl rfl ?_
                        refine WL_pass rfl (yield_of rfl (congrArg Value.bool hc43152)) rfl rfl ?_
                        refine WL_pass rfl (yield_of rfl (congrArg Value.bool hc43152)) rfl rfl ?_
                        refine WL_pass rfl (yield_of rfl (congrArg Value.bool hc43152)) rfl rfl ?_
                        refine WL_pass rfl (yield_of rfl (congrArg Value.bool hc43152)) rfl rfl ?_
                        refine WL_step rfl rfl (Exec.pick_t (v := Value.bool (true)) rfl (congrArg Value.bool hc43152) rfl ?_)
                        refine WL_nil (at_normal ?_)
                        have e43153 := Option.some.inj ht43124
                        subst z43123
                        have hS43154 := (hS43151).drop
                        have hS43155 := ((hS43154).drop).drop
                        have hS43156 := ((hS43155).f2).f2
                        have hS43157 := (hS43156).f2
                        exact ⟨s43149, (PHeap.le.trans (PHeap.le.trans l43133 l43146) l43150), hS43157, p43069, p43070, rfl⟩
                      · replace hc43152 := not_true hc43152
                        refine WL_run rfl (yield_of rfl (congrArg Value.bool hc43152)) rfl (Exec.move (v := Value.pointer (some ⟨v42526, 0, none⟩)) rfl p43069 ?_)
                        obtain ⟨d43160, q43159, ht43124⟩ := bind_some ht43124
                        have hS43161 := ((hS43151).f5).f5
                        have hS43162 := (hS43161).f5
                        refine WL_run rfl (yield_of rfl (congrArg Value.bool hc43152)) rfl (Exec.call rfl rfl Try.func21 rfl N21 (args_cons rfl args_nil) ((stn_Network_Copy_sim q43159 hS43162 ).mono ?_))
                        rintro _ w43163 ⟨_, rfl, ⟨s43164, v43167, v43168, v43169, l43165, hS43166, rfl⟩⟩
                        refine ⟨_, rfl, ?_⟩
                        refine WL_run rfl (yield_of rfl (congrArg Value.bool hc43152)) rfl (Exec.move (v := Value.int .i64 ((IntKind.i64.wrap at_5).tmod (IntKind.i64.wrap (1 + ((IntKind.i64.wrap n1).tmod 10))))) rfl p43070 ?_)
                        refine WL_run rfl (yield_of rfl (congrArg Value.bool hc43152)) rfl (Exec.move (v := Value.int .i64 (y43044)) rfl p43071 ?_)
                        refine WL_run rfl (yield_of rfl (congrArg Value.bool hc43152)) rfl (Exec.build rfl (parts_cons (c := [Value.int .i64 (0)]) (cells_of rfl rfl) (parts_cons (c := [Value.int .i64 ((IntKind.i64.wrap at_5).tmod (IntKind.i64.wrap (1 + ((IntKind.i64.wrap n1).tmod 10))))]) (cells_of rfl rfl) (parts_cons (c := [Value.int .i64 (y43044)]) (cells_of rfl rfl) parts_nil))) (v := Value.agg #[Value.int .i64 (0), Value.int .i64 ((IntKind.i64.wrap at_5).tmod (IntKind.i64.wrap (1 + ((IntKind.i64.wrap n1).tmod 10)))), Value.int .i64 (y43044)]) (fun _ => by kernel_rfl) ?_)
                        obtain ⟨t43170, q43171, ht43124⟩ := bind_some ht43124
                        obtain ⟨y43172, l43173⟩ := t43170
                        replace ht43124 := un2_eq ht43124
                        have hS43174 := ((hS43166).f5).f5
                        have hS43175 := (hS43174).f5
                        refine WL_run rfl (yield_of rfl (congrArg Value.bool hc43152)) rfl (Exec.call rfl rfl Try.func14 rfl N14 (args_cons rfl (args_cons rfl args_nil)) ((stn_Network_Add_sim q43171 hS43175 ).mono ?_))
                        rintro _ w43176 ⟨_, rfl, ⟨s43177, l43178, hS43179, rfl⟩⟩
                        refine ⟨_, rfl, ?_⟩
                        refine WL_run rfl (yield_of rfl (congrArg Value.bool hc43152)) rfl (Exec.err_neq_nil (T := 30) Try.underlying26 rfl rfl rfl ?_)
                        refine WL_step rfl rfl (Exec.pick_f (v := Value.bool (y43172.isSome)) rfl (congrArg Value.bool hc43152) rfl ?_)
                        refine WL_nil (at_normal ?_)
                        have e43180 := Option.some.inj ht43124
                        subst z43123
                        have hS43181 := (hS43179).drop
                        have hS43182 := ((hS43181).drop).drop
                        have hS43183 := ((hS43182).f3).drop
                        have hS43184 := ((((hS43183).f4).f4).drop).drop
                        have hS43185 := ((hS43184).f2).f2
                        have hS43186 := (hS43185).f2
                        exact ⟨s43177, (PHeap.le.trans (PHeap.le.trans (PHeap.le.trans (PHeap.le.trans l43133 l43146) l43150) l43165) l43178), hS43186, p43069, p43070, rfl⟩
                    · intro f43187 w43188 hM43189
                      obtain ⟨s43190, l43191, hS43192, p43193, p43194, p43195⟩ := hM43189
                      refine (at_normal ?_)
                      rcases ite_some hm with ⟨hc43196, hm⟩ | ⟨hc43196, hm⟩
                      · refine W_cond_t p43195 hc43196 ?_
                        refine W_seq ?_
                        refine W_region ?_
                        refine WL_step rfl rfl (Exec.assign (v := Value.bool (false)) rfl rfl ?_)
                        refine WL_nil (at_normal ?_)
                        refine W_ret (at_ret ?_)
                        have e43198 := Option.some.inj hm
                        subst r
                        refine ⟨_, ret1 rfl, ?_⟩
                        have hS43199 := (hS43192).drop
                        have hS43200 := ((hS43199).drop).drop
                        exact ⟨s43190, (PHeap.le.trans (PHeap.le.trans (PHeap.le.trans (PHeap.le.trans (PHeap.le.trans (PHeap.le.trans (PHeap.le.trans l42475 l42524) l42953) l42980) l43017) l43050) l43067) l43191), hS43200, rfl⟩
                      · refine W_cond_f p43195 hc43196 ?_
                        replace hc43196 := not_true hc43196
                        refine W_skip (at_normal ?_)
                        refine W_seq ?_
                        refine W_seq ?_
                        refine W_region ?_
                        refine WL_step rfl rfl (Exec.move (v := Value.pointer (some ⟨v42526, 0, none⟩)) rfl p43193 ?_)
                        refine WL_step rfl rfl (Exec.move (v := Value.int .i64 ((IntKind.i64.wrap at_5).tmod (IntKind.i64.wrap (1 + ((IntKind.i64.wrap n1).tmod 10))))) rfl p43194 ?_)
                        obtain ⟨t43211, q43212, hm⟩ := bind_some hm
                        obtain ⟨y43213, y43214⟩ := t43211
                        replace hm := un2_eq hm
                        have hS43215 := ((hS43192).f2).f2
                        have hS43216 := (hS43215).f2
                        refine WL_step rfl rfl (Exec.call rfl rfl Try.func17 rfl N17 (args_cons rfl (args_cons rfl args_nil)) ((stn_Network_Latest_sim q43212 hS43216 ).mono ?_))
                        rintro _ w43217 ⟨_, rfl, ⟨s43218, l43219, hS43220, rfl⟩⟩
                        refine ⟨_, rfl, ?_⟩
                        refine WL_step rfl rfl (Exec.move (v := Value.tuple #[Value.int .i64 (y43213), errV 30 (y43214)]) rfl rfl ?_)
                        refine WL_step rfl rfl (Exec.extract (v := Value.int .i64 (y43213)) rfl rfl rfl ?_)
                        refine WL_step rfl rfl (Exec.extract (v := errV 30 (y43214)) rfl rfl rfl ?_)
                        refine WL_step rfl rfl (Exec.assign (v := Value.int .i64 (y43213)) rfl rfl ?_)
                        refine WL_step rfl rfl (Exec.assign (v := errV 30 (y43214)) rfl rfl ?_)
                        refine WL_nil (at_normal ?_)
                        refine W_seq ?_
                        refine W_mid (M := fun f' w' => ∃ (s43223 : PHeap) , PHeap.le s43218 s43223 ∧ St w0 s43223 (Res.box v42526 63 [v42527] :: Res.arr encRaw 49 v42527 v42528 :: Res.rows (encInt .i64) 3 v42528 l42810 :: H) w' ∧ f' 8 = Value.pointer (some ⟨v42526, 0, none⟩) ∧ f' 15 = Value.int .i64 ((IntKind.i64.wrap at_5).tmod (IntKind.i64.wrap (1 + ((IntKind.i64.wrap n1).tmod 10)))) ∧ f' 18 = Value.int .i64 (y43213) ∧ f' 127 = Value.bool ((y43214.isNone && ((decide ((-1099511627776) < y43213)) && decide (y43213 < 1099511627776))))) ?_ ?_
                        · refine W_region ?_
                          refine WL_step rfl rfl (Exec.move (v := errV 30 (y43214)) rfl rfl ?_)
                          refine WL_step rfl rfl (Exec.err_eql_nil (T := 30) Try.underlying26 rfl rfl rfl ?_)
                          refine WL_step rfl rfl (Exec.move (v := Value.bool (y43214.isNone)) rfl rfl ?_)
                          by_cases hc43224 : y43214.isNone = true
                          · refine WL_run rfl (yield_of rfl (congrArg Value.bool hc43224)) rfl (Exec.move (v := Value.int .i64 (y43213)) rfl rfl ?_)
                            refine WL_run rfl (yield_of rfl (congrArg Value.bool hc43224)) rfl (Exec.gtr rfl rfl rfl ?_)
                            refine WL_step rfl rfl (Exec.pick_t (v := Value.bool (decide ((-1099511627776) < y43213))) rfl (congrArg Value.bool hc43224) rfl ?_)
                            refine WL_step rfl rfl (Exec.move (v := Value.bool (decide ((-1099511627776) < y43213))) rfl rfl ?_)
                            by_cases hc43225 : (decide ((-1099511627776) < y43213)) = true
                            · refine WL_run rfl (yield_of rfl (congrArg Value.bool hc43225)) rfl (Exec.move (v := Value.int .i64 (y43213)) rfl rfl ?_)
                              refine WL_run rfl (yield_of rfl (congrArg Value.bool hc43225)) rfl (Exec.lss rfl rfl rfl ?_)
                              refine WL_step rfl rfl (Exec.pick_t (v := Value.bool (decide (y43213 < 1099511627776))) rfl (congrArg Value.bool hc43225) rfl ?_)
                              refine WL_nil (at_normal ?_)
                              have hS43226 := ((hS43220).f2).f2
                              have hS43227 := (hS43226).f2
                              exact ⟨s43218, (PHeap.le_refl _), hS43227, p43193, p43194, rfl, (congrArg Value.bool (Eq.trans (and_t hc43224) (and_t hc43225))).symm⟩
                            · replace hc43225 := not_true hc43225
                              refine WL_pass rfl (yield_of rfl (congrArg Value.bool hc43225)) rfl rfl ?_
                              refine WL_pass rfl (yield_of rfl (congrArg Value.bool hc43225)) rfl rfl ?_
                              refine WL_step rfl rfl (Exec.pick_f (v := Value.bool (false)) rfl (congrArg Value.bool hc43225) rfl ?_)
                              refine WL_nil (at_normal ?_)
                              have hS43228 := ((hS43220).f2).f2
                              have hS43229 := (hS43228).f2
                              exact ⟨s43218, (PHeap.le_refl _), hS43229, p43193, p43194, rfl, (congrArg Value.bool (Eq.trans (and_t hc43224) (and_f hc43225))).symm⟩
                          · replace hc43224 := not_true hc43224
                            refine WL_pass rfl (yield_of rfl (congrArg Value.bool hc43224)) rfl rfl ?_
                            refine WL_pass rfl (yield_of rfl (congrArg Value.bool hc43224)) rfl rfl ?_
                            refine WL_step rfl rfl (Exec.pick_f (v := Value.bool (false)) rfl (congrArg Value.bool hc43224) rfl ?_)
                            refine WL_step rfl rfl (Exec.move (v := Value.bool (false)) rfl rfl ?_)
                            refine WL_pass rfl (yield_of rfl rfl) rfl rfl ?_
                            refine WL_pass rfl (yield_of rfl rfl) rfl rfl ?_
                            refine WL_step rfl rfl (Exec.pick_f (v := Value.bool (false)) rfl rfl rfl ?_)
                            refine WL_nil (at_normal ?_)
                            have hS43230 := ((hS43220).f2).f2
                            have hS43231 := (hS43230).f2
                            exact ⟨s43218, (PHeap.le_refl _), hS43231, p43193, p43194, rfl, (congrArg Value.bool (and_f hc43224)).symm⟩
                        · intro f43232 w43233 hM43234
                          obtain ⟨s43235, l43236, hS43237, p43238, p43239, p43240, p43241⟩ := hM43234
                          refine (at_normal ?_)
                          rcases ite_some hm with ⟨hc43242, hm⟩ | ⟨hc43242, hm⟩
                          · refine W_cond_t p43241 hc43242 ?_
                            refine W_seq ?_
                            obtain ⟨z43292, ht43293, hm⟩ := bind_some hm
                            refine W_mid (M := fun f' w' => (fun (z43292 : Bool) => ∃ (s43294 : PHeap) , PHeap.le s43235 s43294 ∧ St w0 s43294 (H) w' ∧ f' 147 = Value.bool (z43292)) z43292) ?_ ?_
                            · refine W_region ?_
                              refine WL_step rfl rfl (Exec.move (v := Value.pointer (some ⟨v42526, 0, none⟩)) rfl p43238 ?_)
                              obtain ⟨d43297, q43296, ht43293⟩ := bind_some ht43293
                              have hS43298 := ((hS43237).f2).f2
                              have hS43299 := (hS43298).f2
                              refine WL_step rfl rfl (Exec.call rfl rfl Try.func21 rfl N21 (args_cons rfl args_nil) ((stn_Network_Copy_sim q43296 hS43299 ).mono ?_))
                              rintro _ w43300 ⟨_, rfl, ⟨s43301, v43304, v43305, v43306, l43302, hS43303, rfl⟩⟩
                              refine ⟨_, rfl, ?_⟩
                              refine WL_step rfl rfl (Exec.move (v := Value.int .i64 ((IntKind.i64.wrap at_5).tmod (IntKind.i64.wrap (1 + ((IntKind.i64.wrap n1).tmod 10))))) rfl p43239 ?_)
                              refine WL_step rfl rfl (Exec.move (v := Value.int .i64 (y43213)) rfl p43240 ?_)
                              refine WL_step rfl rfl (Exec.neg rfl rfl ?_)
                              refine WL_step rfl rfl (Exec.sub rfl rfl rfl ?_)
                              refine WL_step rfl rfl (Exec.build rfl (parts_cons (c := [Value.int .i64 ((IntKind.i64.wrap at_5).tmod (IntKind.i64.wrap (1 + ((IntKind.i64.wrap n1).tmod 10))))]) (cells_of rfl rfl) (parts_cons (c := [Value.int .i64 (0)]) (cells_of rfl rfl) (parts_cons (c := [Value.int .i64 (IntKind.i64.wrap ((IntKind.i64.wrap (0 - y43213)) - 1))]) (cells_of rfl rfl) parts_nil))) (v := Value.agg #[Value.int .i64 ((IntKind.i64.wrap at_5).tmod (IntKind.i64.wrap (1 + ((IntKind.i64.wrap n1).tmod 10)))), Value.int .i64 (0), Value.int .i64 (IntKind.i64.wrap ((IntKind.i64.wrap (0 - y43213)) - 1))]) (fun _ => by kernel_rfl) ?_)
                              obtain ⟨t43307, q43308, ht43293⟩ := bind_some ht43293
                              obtain ⟨y43309, l43310⟩ := t43307
                              replace ht43293 := un2_eq ht43293
                              have hS43311 := ((hS43303).f5).f5
                              have hS43312 := (hS43311).f5
                              refine WL_step rfl rfl (Exec.call rfl rfl Try.func14 rfl N14 (args_cons rfl (args_cons rfl args_nil)) ((stn_Network_Add_sim q43308 hS43312 ).mono ?_))
                              rintro _ w43313 ⟨_, rfl, ⟨s43314, l43315, hS43316, rfl⟩⟩
                              refine ⟨_, rfl, ?_⟩
                              refine WL_step rfl rfl (Exec.call rfl rfl Try.func11 rfl N11 (args_cons rfl (args_cons rfl args_nil)) ((base_Is_sim (base_Is_tot y43309 21) hS43316 ).mono ?_))
                              rintro _ w43317 ⟨_, rfl, ⟨s43318, l43319, hS43320, rfl⟩⟩
                              refine ⟨_, rfl, ?_⟩
                              refine WL_step rfl rfl (Exec.not rfl rfl ?_)
                              refine WL_step rfl rfl (Exec.move (v := Value.bool (!(base_Is_t y43309 21))) rfl rfl ?_)
                              rcases ite_some ht43293 with ⟨hc43321, ht43293⟩ | ⟨hc43321, ht43293⟩
                              · refine WL_pass rfl (yield_of rfl (congrArg Value.bool hc43321)) rfl rfl ?_
                                refine WL_pass rfl (yield_of rfl (congrArg Value.bool hc43321)) rfl rfl ?_
                                refine WL_pass rfl (yield_of rfl (congrArg Value.bool hc43321)) rfl rfl ?_
                                refine WL_pass rfl (yield_of rfl (congrArg Value.bool hc43321)) rfl rfl ?_
                                refine WL_pass rfl (yield_of rfl (congrArg Value.bool hc43321)) rfl rfl ?_
                                refine WL_pass rfl (yield_of rfl (congrArg Value.bool hc43321)) rfl rfl ?_
                                refine WL_pass rfl (yield_of rfl (congrArg Value.bool hc43321)) rfl rfl ?_
                                refine WL_pass rfl (yield_of rfl (congrArg Value.bool hc43321)) rfl rfl ?_
                                refine WL_step rfl rfl (Exec.pick_t (v := Value.bool (true)) rfl (congrArg Value.bool hc43321) rfl ?_)
                                refine WL_nil (at_normal ?_)
                                have e43322 := Option.some.inj ht43293
                                subst z43292
                                have hS43323 := (hS43320).drop
                                have hS43324 := ((hS43323).drop).drop
                                have hS43325 := (hS43324).drop
                                have hS43326 := ((hS43325).drop).drop
                                exact ⟨s43318, (PHeap.le.trans (PHeap.le.trans l43302 l43315) l43319), hS43326, rfl⟩
                              · replace hc43321 := not_true hc43321
                                refine WL_run rfl (yield_of rfl (congrArg Value.bool hc43321)) rfl (Exec.move (v := Value.pointer (some ⟨v42526, 0, none⟩)) rfl p43238 ?_)
                                obtain ⟨d43329, q43328, ht43293⟩ := bind_some ht43293
                                have hS43330 := ((hS43320).f5).f5
                                have hS43331 := (hS43330).f5
                                refine WL_run rfl (yield_of rfl (congrArg Value.bool hc43321)) rfl (Exec.call rfl rfl Try.func21 rfl N21 (args_cons rfl args_nil) ((stn_Network_Copy_sim q43328 hS43331 ).mono ?_))
                                rintro _ w43332 ⟨_, rfl, ⟨s43333, v43336, v43337, v43338, l43334, hS43335, rfl⟩⟩
                                refine ⟨_, rfl, ?_⟩
                                refine WL_run rfl (yield_of rfl (congrArg Value.bool hc43321)) rfl (Exec.move (v := Value.int .i64 ((IntKind.i64.wrap at_5).tmod (IntKind.i64.wrap (1 + ((IntKind.i64.wrap n1).tmod 10))))) rfl p43239 ?_)
                                refine WL_run rfl (yield_of rfl (congrArg Value.bool hc43321)) rfl (Exec.move (v := Value.int .i64 (y43213)) rfl p43240 ?_)
                                refine WL_run rfl (yield_of rfl (congrArg Value.bool hc43321)) rfl (Exec.neg rfl rfl ?_)
                                refine WL_run rfl (yield_of rfl (congrArg Value.bool hc43321)) rfl (Exec.build rfl (parts_cons (c := [Value.int .i64 ((IntKind.i64.wrap at_5).tmod (IntKind.i64.wrap (1 + ((IntKind.i64.wrap n1).tmod 10))))]) (cells_of rfl rfl) (parts_cons (c := [Value.int .i64 (0)]) (cells_of rfl rfl) (parts_cons (c := [Value.int .i64 (IntKind.i64.wrap (0 - y43213))]) (cells_of rfl rfl) parts_nil))) (v := Value.agg #[Value.int .i64 ((IntKind.i64.wrap at_5).tmod (IntKind.i64.wrap (1 + ((IntKind.i64.wrap n1).tmod 10)))), Value.int .i64 (0), Value.int .i64 (IntKind.i64.wrap (0 - y43213))]) (fun _ => by kernel_rfl) ?_)
                                obtain ⟨t43339, q43340, ht43293⟩ := bind_some ht43293
                                obtain ⟨y43341, l43342⟩ := t43339
                                replace ht43293 := un2_eq ht43293
                                have hS43343 := ((hS43335).f5).f5
                                have hS43344 := (hS43343).f5
                                refine WL_run rfl (yield_of rfl (congrArg Value.bool hc43321)) rfl (Exec.call rfl rfl Try.func14 rfl N14 (args_cons rfl (args_cons rfl args_nil)) ((stn_Network_Add_sim q43340 hS43344 ).mono ?_))
                                rintro _ w43345 ⟨_, rfl, ⟨s43346, l43347, hS43348, rfl⟩⟩
                                refine ⟨_, rfl, ?_⟩
                                refine WL_run rfl (yield_of rfl (congrArg Value.bool hc43321)) rfl (Exec.err_neq_nil (T := 30) Try.underlying26 rfl rfl rfl ?_)
                                refine WL_step rfl rfl (Exec.pick_f (v := Value.bool (y43341.isSome)) rfl (congrArg Value.bool hc43321) rfl ?_)
                                refine WL_nil (at_normal ?_)
                                have e43349 := Option.some.inj ht43293
                                subst z43292
                                have hS43350 := (hS43348).drop
                                have hS43351 := ((hS43350).drop).drop
                                have hS43352 := (hS43351).drop
                                have hS43353 := ((hS43352).drop).drop
                                have hS43354 := (hS43353).drop
                                have hS43355 := ((hS43354).drop).drop
                                exact ⟨s43346, (PHeap.le.trans (PHeap.le.trans (PHeap.le.trans (PHeap.le.trans l43302 l43315) l43319) l43334) l43347), hS43355, rfl⟩
                            · intro f43356 w43357 hM43358
                              obtain ⟨s43359, l43360, hS43361, p43362⟩ := hM43358
                              refine (at_normal ?_)
                              rcases ite_some hm with ⟨hc43363, hm⟩ | ⟨hc43363, hm⟩
                              · refine W_cond_t p43362 hc43363 ?_
                                refine W_seq ?_
                                refine W_region ?_
                                refine WL_step rfl rfl (Exec.assign (v := Value.bool (false)) rfl rfl ?_)
                                refine WL_nil (at_normal ?_)
                                refine W_ret (at_ret ?_)
                                have e43365 := Option.some.inj hm
                                subst r
                                refine ⟨_, ret1 rfl, ?_⟩
                                exact ⟨s43359, (PHeap.le.trans (PHeap.le.trans (PHeap.le.trans (PHeap.le.trans (PHeap.le.trans (PHeap.le.trans (PHeap.le.trans (PHeap.le.trans (PHeap.le.trans (PHeap.le.trans l42475 l42524) l42953) l42980) l43017) l43050) l43067) l43191) l43219) l43236) l43360), hS43361, rfl⟩
                              · refine W_cond_f p43362 hc43363 ?_
                                replace hc43363 := not_true hc43363
                                refine W_skip (at_normal ?_)
                                refine W_seq ?_
                                refine W_region ?_
                                refine WL_step rfl rfl (Exec.assign (v := Value.bool (true)) rfl rfl ?_)
                                refine WL_nil (at_normal ?_)
                                refine W_ret ?_
                                have e43367 := Option.some.inj hm
                                subst r
                                refine ⟨_, ret1 rfl, ?_⟩
                                exact ⟨s43359, (PHeap.le.trans (PHeap.le.trans (PHeap.le.trans (PHeap.le.trans (PHeap.le.trans (PHeap.le.trans (PHeap.le.trans (PHeap.le.trans (PHeap.le.trans (PHeap.le.trans l42475 l42524) l42953) l42980) l43017) l43050) l43067) l43191) l43219) l43236) l43360), hS43361, rfl⟩
                          · refine W_cond_f p43241 hc43242 ?_
                            replace hc43242 := not_true hc43242
                            refine W_skip (at_normal ?_)
                            refine W_seq ?_
                            refine W_region ?_
                            refine WL_step rfl rfl (Exec.assign (v := Value.bool (true)) rfl rfl ?_)
                            refine WL_nil (at_normal ?_)
                            refine W_ret ?_
                            have e43369 := Option.some.inj hm
                            subst r
                            refine ⟨_, ret1 rfl, ?_⟩
                            have hS43370 := (hS43237).drop
                            have hS43371 := ((hS43370).drop).drop
                            exact ⟨s43235, (PHeap.le.trans (PHeap.le.trans (PHeap.le.trans (PHeap.le.trans (PHeap.le.trans (PHeap.le.trans (PHeap.le.trans (PHeap.le.trans (PHeap.le.trans l42475 l42524) l42953) l42980) l43017) l43050) l43067) l43191) l43219) l43236), hS43371, rfl⟩
                  · refine W_cond_f p43072 hc43073 ?_
                    replace hc43073 := not_true hc43073
                    refine W_skip (at_normal ?_)
                    refine W_seq ?_
                    refine W_seq ?_
                    refine W_region ?_
                    refine WL_step rfl rfl (Exec.move (v := Value.pointer (some ⟨v42526, 0, none⟩)) rfl p43069 ?_)
                    refine WL_step rfl rfl (Exec.move (v := Value.int .i64 ((IntKind.i64.wrap at_5).tmod (IntKind.i64.wrap (1 + ((IntKind.i64.wrap n1).tmod 10))))) rfl p43070 ?_)
                    obtain ⟨t43382, q43383, hm⟩ := bind_some hm
                    obtain ⟨y43384, y43385⟩ := t43382
                    replace hm := un2_eq hm
                    have hS43386 := ((hS43068).f2).f2
                    have hS43387 := (hS43386).f2
                    refine WL_step rfl rfl (Exec.call rfl rfl Try.func17 rfl N17 (args_cons rfl (args_cons rfl args_nil)) ((stn_Network_Latest_sim q43383 hS43387 ).mono ?_))
                    rintro _ w43388 ⟨_, rfl, ⟨s43389, l43390, hS43391, rfl⟩⟩
                    refine ⟨_, rfl, ?_⟩
                    refine WL_step rfl rfl (Exec.move (v := Value.tuple #[Value.int .i64 (y43384), errV 30 (y43385)]) rfl rfl ?_)
                    refine WL_step rfl rfl (Exec.extract (v := Value.int .i64 (y43384)) rfl rfl rfl ?_)
                    refine WL_step rfl rfl (Exec.extract (v := errV 30 (y43385)) rfl rfl rfl ?_)
                    refine WL_step rfl rfl (Exec.assign (v := Value.int .i64 (y43384)) rfl rfl ?_)
                    refine WL_step rfl rfl (Exec.assign (v := errV 30 (y43385)) rfl rfl ?_)
                    refine WL_nil (at_normal ?_)
                    refine W_seq ?_
                    refine W_mid (M := fun f' w' => ∃ (s43394 : PHeap) , PHeap.le s43389 s43394 ∧ St w0 s43394 (Res.box v42526 63 [v42527] :: Res.arr encRaw 49 v42527 v42528 :: Res.rows (encInt .i64) 3 v42528 l42810 :: H) w' ∧ f' 8 = Value.pointer (some ⟨v42526, 0, none⟩) ∧ f' 15 = Value.int .i64 ((IntKind.i64.wrap at_5).tmod (IntKind.i64.wrap (1 + ((IntKind.i64.wrap n1).tmod 10)))) ∧ f' 18 = Value.int .i64 (y43384) ∧ f' 127 = Value.bool ((y43385.isNone && ((decide ((-1099511627776) < y43384)) && decide (y43384 < 1099511627776))))) ?_ ?_
                    · refine W_region ?_
                      refine WL_step rfl rfl (Exec.move (v := errV 30 (y43385)) rfl rfl ?_)
                      refine WL_step rfl rfl (Exec.err_eql_nil (T := 30) Try.underlying26 rfl rfl rfl ?_)
                      refine WL_step rfl rfl (Exec.move (v := Value.bool (y43385.isNone)) rfl rfl ?_)
                      by_cases hc43395 : y43385.isNone = true
                      · refine WL_run rfl (yield_of rfl (congrArg Value.bool hc43395)) rfl (Exec.move (v := Value.int .i64 (y43384)) rfl rfl ?_)
                        refine WL_run rfl (yield_of rfl (congrArg Value.bool hc43395)) rfl (Exec.gtr rfl rfl rfl ?_)
                        refine WL_step rfl rfl (Exec.pick_t (v := Value.bool (decide ((-1099511627776) < y43384))) rfl (congrArg Value.bool hc43395) rfl ?_)
                        refine WL_step rfl rfl (Exec.move (v := Value.bool (decide ((-1099511627776) < y43384))) rfl rfl ?_)
                        by_cases hc43396 : (decide ((-1099511627776) < y43384)) = true
                        · refine WL_run rfl (yield_of rfl (congrArg Value.bool hc43396)) rfl (Exec.move (v := Value.int .i64 (y43384)) rfl rfl ?_)
                          refine WL_run rfl (yield_of rfl (congrArg Value.bool hc43396)) rfl (Exec.lss rfl rfl rfl ?_)
                          refine WL_step rfl rfl (Exec.pick_t (v := Value.bool (decide (y43384 < 1099511627776))) rfl (congrArg Value.bool hc43396) rfl ?_)
                          refine WL_nil (at_normal ?_)
                          have hS43397 := ((hS43391).f2).f2
                          have hS43398 := (hS43397).f2
                          exact ⟨s43389, (PHeap.le_refl _), hS43398, p43069, p43070, rfl, (congrArg Value.bool (Eq.trans (and_t hc43395) (and_t hc43396))).symm⟩
                        · replace hc43396 := not_true hc43396
                          refine WL_pass rfl (yield_of rfl (congrArg Value.bool hc43396)) rfl rfl ?_
                          refine WL_pass rfl (yield_of rfl (congrArg Value.bool hc43396)) rfl rfl ?_
                          refine WL_step rfl rfl (Exec.pick_f (v := Value.bool (false)) rfl (congrArg Value.bool hc43396) rfl ?_)
                          refine WL_nil (at_normal ?_)
                          have hS43399 := ((hS43391).f2).f2
                          have hS43400 := (hS43399).f2
                          exact ⟨s43389, (PHeap.le_refl _), hS43400, p43069, p43070, rfl, (congrArg Value.bool (Eq.trans (and_t hc43395) (and_f hc43396))).symm⟩
                      · replace hc43395 := not_true hc43395
                        refine WL_pass rfl (yield_of rfl (congrArg Value.bool hc43395)) rfl rfl ?_
                        refine WL_pass rfl (yield_of rfl (congrArg Value.bool hc43395)) rfl rfl ?_
                        refine WL_step rfl rfl (Exec.pick_f (v := Value.bool (false)) rfl (congrArg Value.bool hc43395) rfl ?_)
                        refine WL_step rfl rfl (Exec.move (v := Value.bool (false)) rfl rfl ?_)
                        refine WL_pass rfl (yield_of rfl rfl) rfl rfl ?_
                        refine WL_pass rfl (yield_of rfl rfl) rfl rfl ?_
                        refine WL_step rfl rfl (Exec.pick_f (v := Value.bool (false)) rfl rfl rfl ?_)
                        refine WL_nil (at_normal ?_)
                        have hS43401 := ((hS43391).f2).f2
                        have hS43402 := (hS43401).f2
                        exact ⟨s43389, (PHeap.le_refl _), hS43402, p43069, p43070, rfl, (congrArg Value.bool (and_f hc43395)).symm⟩
                    · intro f43403 w43404 hM43405
                      obtain ⟨s43406, l43407, hS43408, p43409, p43410, p43411, p43412⟩ := hM43405
                      refine (at_normal ?_)
                      rcases ite_some hm with ⟨hc43413, hm⟩ | ⟨hc43413, hm⟩
                      · refine W_cond_t p43412 hc43413 ?_
                        refine W_seq ?_
                        obtain ⟨z43463, ht43464, hm⟩ := bind_some hm
                        refine W_mid (M := fun f' w' => (fun (z43463 : Bool) => ∃ (s43465 : PHeap) , PHeap.le s43406 s43465 ∧ St w0 s43465 (H) w' ∧ f' 147 = Value.bool (z43463)) z43463) ?_ ?_
                        · refine W_region ?_
                          refine WL_step rfl rfl (Exec.move (v := Value.pointer (some ⟨v42526, 0, none⟩)) rfl p43409 ?_)
                          obtain ⟨d43468, q43467, ht43464⟩ := bind_some ht43464
                          have hS43469 := ((hS43408).f2).f2
                          have hS43470 := (hS43469).f2
                          refine WL_step rfl rfl (Exec.call rfl rfl Try.func21 rfl N21 (args_cons rfl args_nil) ((stn_Network_Copy_sim q43467 hS43470 ).mono ?_))
                          rintro _ w43471 ⟨_, rfl, ⟨s43472, v43475, v43476, v43477, l43473, hS43474, rfl⟩⟩
                          refine ⟨_, rfl, ?_⟩
                          refine WL_step rfl rfl (Exec.move (v := Value.int .i64 ((IntKind.i64.wrap at_5).tmod (IntKind.i64.wrap (1 + ((IntKind.i64.wrap n1).tmod 10))))) rfl p43410 ?_)
                          refine WL_step rfl rfl (Exec.move (v := Value.int .i64 (y43384)) rfl p43411 ?_)
                          refine WL_step rfl rfl (Exec.neg rfl rfl ?_)
                          refine WL_step rfl rfl (Exec.sub rfl rfl rfl ?_)
                          refine WL_step rfl rfl (Exec.build rfl (parts_cons (c := [Value.int .i64 ((IntKind.i64.wrap at_5).tmod (IntKind.i64.wrap (1 + ((IntKind.i64.wrap n1).tmod 10))))]) (cells_of rfl rfl) (parts_cons (c := [Value.int .i64 (0)]) (cells_of rfl rfl) (parts_cons (c := [Value.int .i64 (IntKind.i64.wrap ((IntKind.i64.wrap (0 - y43384)) - 1))]) (cells_of rfl rfl) parts_nil))) (v := Value.agg #[Value.int .i64 ((IntKind.i64.wrap at_5).tmod (IntKind.i64.wrap (1 + ((IntKind.i64.wrap n1).tmod 10)))), Value.int .i64 (0), Value.int .i64 (IntKind.i64.wrap ((IntKind.i64.wrap (0 - y43384)) - 1))]) (fun _ => by kernel_rfl) ?_)
                          obtain ⟨t43478, q43479, ht43464⟩ := bind_some ht43464
                          obtain ⟨y43480, l43481⟩ := t43478
                          replace ht43464 := un2_eq ht43464
                          have hS43482 := ((hS43474).f5).f5
                          have hS43483 := (hS43482).f5
                          refine WL_step rfl rfl (Exec.call rfl rfl Try.func14 rfl N14 (args_cons rfl (args_cons rfl args_nil)) ((stn_Network_Add_sim q43479 hS43483 ).mono ?_))
                          rintro _ w43484 ⟨_, rfl, ⟨s43485, l43486, hS43487, rfl⟩⟩
                          refine ⟨_, rfl, ?_⟩
                          refine WL_step rfl rfl (Exec.call rfl rfl Try.func11 rfl N11 (args_cons rfl (args_cons rfl args_nil)) ((base_Is_sim (base_Is_tot y43480 21) hS43487 ).mono ?_))
                          rintro _ w43488 ⟨_, rfl, ⟨s43489, l43490, hS43491, rfl⟩⟩
                          refine ⟨_, rfl, ?_⟩
                          refine WL_step rfl rfl (Exec.not rfl rfl ?_)
                          refine WL_step rfl rfl (Exec.move (v := Value.bool (!(base_Is_t y43480 21))) rfl rfl ?_)
                          rcases ite_some ht43464 with ⟨hc43492, ht43464⟩ | ⟨hc43492, ht43464⟩
                          · refine WL_pass rfl (yield_of rfl (congrArg Value.bool hc43492)) rfl rfl ?_
                            refine WL_pass rfl (yield_of rfl (congrArg Value.bool hc43492)) rfl rfl ?_
                            refine WL_pass rfl (yield_of rfl (congrArg Value.bool hc43492)) rfl rfl ?_
                            refine WL_pass rfl (yield_of rfl (congrArg Value.bool hc43492)) rfl rfl ?_
                            refine WL_pass rfl (yield_of rfl (congrArg Value.bool hc43492)) rfl rfl ?_
                            refine WL_pass rfl (yield_of rfl (congrArg Value.bool hc43492)) rfl rfl ?_
                            refine WL_pass rfl (yield_of rfl (congrArg Value.bool hc43492)) rfl rfl ?_
                            refine WL_pass rfl (yield_of rfl (congrArg Value.bool hc43492)) rfl rfl ?_
                            refine WL_step rfl rfl (Exec.pick_t (v := Value.bool (true)) rfl (congrArg Value.bool hc43492) rfl ?_)
                            refine WL_nil (at_normal ?_)
                            have e43493 := Option.some.inj ht43464
                            subst z43463
                            have hS43494 := (hS43491).drop
                            have hS43495 := ((hS43494).drop).drop
                            have hS43496 := (hS43495).drop
                            have hS43497 := ((hS43496).drop).drop
                            exact ⟨s43489, (PHeap.le.trans (PHeap.le.trans l43473 l43486) l43490), hS43497, rfl⟩
                          · replace hc43492 := not_true hc43492
                            refine WL_run rfl (yield_of rfl (congrArg Value.bool hc43492)) rfl (Exec.move (v := Value.pointer (some ⟨v42526, 0, none⟩)) rfl p43409 ?_)
                            obtain ⟨d43500, q43499, ht43464⟩ := bind_some ht43464
                            have hS43501 := ((hS43491).f5).f5
                            have hS43502 := (hS43501).f5
                            refine WL_run rfl (yield_of rfl (congrArg Value.bool hc43492)) rfl (Exec.call rfl rfl Try.func21 rfl N21 (args_cons rfl args_nil) ((stn_Network_Copy_sim q43499 hS43502 ).mono ?_))
                            rintro _ w43503 ⟨_, rfl, ⟨s43504, v43507, v43508, v43509, l43505, hS43506, rfl⟩⟩
                            refine ⟨_, rfl, ?_⟩
                            refine WL_run rfl (yield_of rfl (congrArg Value.bool hc43492)) rfl (Exec.move (v := Value.int .i64 ((IntKind.i64.wrap at_5).tmod (IntKind.i64.wrap (1 + ((IntKind.i64.wrap n1).tmod 10))))) rfl p43410 ?_)
                            refine WL_run rfl (yield_of rfl (congrArg Value.bool hc43492)) rfl (Exec.move (v := Value.int .i64 (y43384)) rfl p43411 ?_)
                            refine WL_run rfl (yield_of rfl (congrArg Value.bool hc43492)) rfl (Exec.neg rfl rfl ?_)
                            refine WL_run rfl (yield_of rfl (congrArg Value.bool hc43492)) rfl (Exec.build rfl (parts_cons (c := [Value.int .i64 ((IntKind.i64.wrap at_5).tmod (IntKind.i64.wrap (1 + ((IntKind.i64.wrap n1).tmod 10))))]) (cells_of rfl rfl) (parts_cons (c := [Value.int .i64 (0)]) (cells_of rfl rfl) (parts_cons (c := [Value.int .i64 (IntKind.i64.wrap (0 - y43384))]) (cells_of rfl rfl) parts_nil))) (v := Value.agg #[Value.int .i64 ((IntKind.i64.wrap at_5).tmod (IntKind.i64.wrap (1 + ((IntKind.i64.wrap n1).tmod 10)))), Value.int .i64 (0), Value.int .i64 (IntKind.i64.wrap (0 - y43384))]) (fun _ => by kernel_rfl) ?_)
                            obtain ⟨t43510, q43511, ht43464⟩ := bind_some ht43464
                            obtain ⟨y43512, l43513⟩ := t43510
                            replace ht43464 := un2_eq ht43464
                            have hS43514 := ((hS43506).f5).f5
                            have hS43515 := (hS43514).f5
                            refine WL_run rfl (yield_of rfl (congrArg Value.bool hc43492)) rfl (Exec.call rfl rfl Try.func14 rfl N14 (args_cons rfl (args_cons rfl args_nil)) ((stn_Network_Add_sim q43511 hS43515 ).mono ?_))
                            rintro _ w43516 ⟨_, rfl, ⟨s43517, l43518, hS43519, rfl⟩⟩
                            refine ⟨_, rfl, ?_⟩
                            refine WL_run rfl (yield_of rfl (congrArg Value.bool hc43492)) rfl (Exec.err_neq_nil (T := 30) Try.underlying26 rfl rfl rfl ?_)
                            refine WL_step rfl rfl (Exec.pick_f (v := Value.bool (y43512.isSome)) rfl (congrArg Value.bool hc43492) rfl ?_)
                            refine WL_nil (at_normal ?_)
                            have e43520 := Option.some.inj ht43464
                            subst z43463
                            have hS43521 := (hS43519).drop
                            have hS43522 := ((hS43521).drop).drop
                            have hS43523 := (hS43522).drop
                            have hS43524 := ((hS43523).drop).drop
                            have hS43525 := (hS43524).drop
                            have hS43526 := ((hS43525).drop).drop
                            exact ⟨s43517, (PHeap.le.trans (PHeap.le.trans (PHeap.le.trans (PHeap.le.trans l43473 l43486) l43490) l43505) l43518), hS43526, rfl⟩
                        · intro f43527 w43528 hM43529
                          obtain ⟨s43530, l43531, hS43532, p43533⟩ := hM43529
                          refine (at_normal ?_)
                          rcases ite_some hm with ⟨hc43534, hm⟩ | ⟨hc43534, hm⟩
                          · refine W_cond_t p43533 hc43534 ?_
                            refine W_seq ?_
                            refine W_region ?_
                            refine WL_step rfl rfl (Exec.assign (v := Value.bool (false)) rfl rfl ?_)
                            refine WL_nil (at_normal ?_)
                            refine W_ret (at_ret ?_)
                            have e43536 := Option.some.inj hm
                            subst r
                            refine ⟨_, ret1 rfl, ?_⟩
                            exact ⟨s43530, (PHeap.le.trans (PHeap.le.trans (PHeap.le.trans (PHeap.le.trans (PHeap.le.trans (PHeap.le.trans (PHeap.le.trans (PHeap.le.trans (PHeap.le.trans l42475 l42524) l42953) l42980) l43017) l43050) l43067) l43390) l43407) l43531), hS43532, rfl⟩
                          · refine W_cond_f p43533 hc43534 ?_
                            replace hc43534 := not_true hc43534
                            refine W_skip (at_normal ?_)
                            refine W_seq ?_
                            refine W_region ?_
                            refine WL_step rfl rfl (Exec.assign (v := Value.bool (true)) rfl rfl ?_)
                            refine WL_nil (at_normal ?_)
                            refine W_ret ?_
                            have e43538 := Option.some.inj hm
                            subst r
                            refine ⟨_, ret1 rfl, ?_⟩
                            exact ⟨s43530, (PHeap.le.trans (PHeap.le.trans (PHeap.le.trans (PHeap.le.trans (PHeap.le.trans (PHeap.le.trans (PHeap.le.trans (PHeap.le.trans (PHeap.le.trans l42475 l42524) l42953) l42980) l43017) l43050) l43067) l43390) l43407) l43531), hS43532, rfl⟩
                      · refine W_cond_f p43412 hc43413 ?_
                        replace hc43413 := not_true hc43413
                        refine W_skip (at_normal ?_)
                        refine W_seq ?_
                        refine W_region ?_
                        refine WL_step rfl rfl (Exec.assign (v := Value.bool (true)) rfl rfl ?_)
                        refine WL_nil (at_normal ?_)
                        refine W_ret ?_
                        have e43540 := Option.some.inj hm
                        subst r
                        refine ⟨_, ret1 rfl, ?_⟩
                        have hS43541 := (hS43408).drop
                        have hS43542 := ((hS43541).drop).drop
                        exact ⟨s43406, (PHeap.le.trans (PHeap.le.trans (PHeap.le.trans (PHeap.le.trans (PHeap.le.trans (PHeap.le.trans (PHeap.le.trans (PHeap.le.trans l42475 l42524) l42953) l42980) l43017) l43050) l43067) l43390) l43407), hS43542, rfl⟩
      · replace hm := optC_none hm
        refine WL_step rfl rfl (Exec.move (v := Value.tuple #[Value.pointer none, errV 30 (y42519)]) rfl rfl ?_)
        refine WL_step rfl rfl (Exec.extract (v := Value.pointer none) rfl rfl rfl ?_)
        refine WL_step rfl rfl (Exec.extract (v := errV 30 (y42519)) rfl rfl rfl ?_)
        refine WL_step rfl rfl (Exec.assign (v := Value.pointer none) rfl rfl ?_)
        refine WL_step rfl rfl (Exec.assign (v := errV 30 (y42519)) rfl rfl ?_)
        refine WL_nil (at_normal ?_)
        refine W_seq ?_
        refine W_seq ?_
        refine W_region ?_
        refine WL_step rfl rfl (Exec.move (v := errV 30 (y42519)) rfl rfl ?_)
        refine WL_step rfl rfl (Exec.err_neq_nil (T := 30) Try.underlying26 rfl rfl rfl ?_)
        refine WL_nil (at_normal ?_)
        rcases ite_some hm with ⟨hc43543, hm⟩ | ⟨hc43543, hm⟩
        · refine W_cond_t rfl hc43543 ?_
          refine W_seq ?_
          refine W_region ?_
          refine WL_step rfl rfl (Exec.assign (v := Value.bool (false)) rfl rfl ?_)
          refine WL_nil (at_normal ?_)
          refine W_ret (at_ret ?_)
          have e43545 := Option.some.inj hm
          subst r
          refine ⟨_, ret1 rfl, ?_⟩
          exact ⟨s42530, (PHeap.le.trans l42475 l42531), hS42532, rfl⟩
        · refine W_cond_f rfl hc43543 ?_
          replace hc43543 := not_true hc43543
          refine W_skip (at_normal ?_)
          refine W_seq ?_
          refine W_seq ?_
          refine W_region ?_
          refine WL_step rfl rfl (Exec.move (v := v3) rfl p42478 ?_)
          refine WL_step rfl rfl (Exec.len_rep S22 rfl rfl (a4.mono (PHeap.le.trans l42475 l42531)) ?_)
          refine WL_step rfl rfl (Exec.move (v := Value.int .i64 (0)) rfl rfl ?_)
          refine WL_nil (at_normal ?_)
          obtain ⟨c43689, hB43690, hr43691, hn43692, hb43693⟩ := ctl_some hm
          refine W_mid (M := fun f' w' => ∃ s', (c43689 = .next s' ∨ c43689 = .brk s') ∧ (fun (_ : Unit) => ∃ (s43695 : PHeap) , PHeap.le s42530 s43695 ∧ St w0 s43695 (H) w' ∧ f' 2 = Value.int .u8 (at_5) ∧ f' 7 = Value.int .i64 (IntKind.i64.wrap (1 + ((IntKind.i64.wrap n1).tmod 10))) ∧ f' 8 = Value.pointer none ∧ f' 39 = v3 ∧ f' 40 = Value.int .i64 ((bounds2.length : Int))) s') ?_ ?_
          · refine W_block (W_forC (fun k' s' f' w' => (fun (_ : Unit) => ∃ (s43694 : PHeap) , PHeap.le s42530 s43694 ∧ St w0 s43694 (H) w' ∧ f' 2 = Value.int .u8 (at_5) ∧ f' 7 = Value.int .i64 (IntKind.i64.wrap (1 + ((IntKind.i64.wrap n1).tmod 10))) ∧ f' 8 = Value.pointer none ∧ f' 39 = v3 ∧ f' 40 = Value.int .i64 ((bounds2.length : Int)) ∧ f' 41 = Value.int .i64 (k' : Int)) s') hB43690 ?_ ?_ ?_)
            · exact ⟨s42530, (PHeap.le_refl _), hS42532, p42479, rfl, rfl, rfl, rfl, rfl⟩
            · intro i43546 t43703 c43697 f43698 w43699 hi43704 hI43700 hm43701 hres43702
              obtain ⟨s43705, l43706, hS43707, p43708, p43709, p43710, p43711, p43712, x43713⟩ := hI43700
              refine W_seq ?_
              refine W_region ?_
              refine WL_step rfl rfl (Exec.lss rfl x43713 p43712 ?_)
              refine WL_nil (at_normal ?_)
              refine W_seq ?_
              refine W_true (congrArg Value.bool (decide_eq_true (by omega))) ?_
              refine W_skip (at_normal ?_)
              refine W_seq ?_
              refine W_block ?_
              refine W_seq ?_
              refine W_region ?_
              obtain ⟨x43726, q43727, hm43701⟩ := bind_some hm43701
              refine WL_step rfl rfl (Exec.index_rep S22 rfl p43711 x43713 (a4.mono (PHeap.le.trans (PHeap.le.trans l42475 l42531) l43706)) q43727 ?_)
              intro b43728 o43729 a43730
              refine WL_step rfl rfl (Exec.load_at (E := encBound) hS43707 A32 rfl rfl rfl a43730 ?_)
              intro v43731 q43732
              obtain rfl := encBound_val.1 q43732
              refine WL_step rfl rfl (Exec.alloc (cs := [Value.int .i64 (0), Value.int .i64 (0), Value.int .i64 (0)]) hS43707 Z32 rfl rfl ?_)
              intro b43733 w43734 hS43735
              refine WL_step rfl rfl (Exec.store_box (ds := [Value.int .i64 (x43726.A), Value.int .i64 (x43726.B), Value.int .i64 (x43726.Most)]) (es := [Value.int .i64 (x43726.A), Value.int .i64 (x43726.B), Value.int .i64 (x43726.Most)]) hS43735 A32 rfl rfl rfl rfl (one_cons rfl (one_cons rfl (one_cons rfl one_nil))) (Nat.le_of_ble_eq_true rfl) rfl ?_)
              intro w43736 hS43737
              refine WL_nil (at_normal ?_)
              refine W_seq ?_
              refine W_region ?_
              refine WL_step rfl rfl (Exec.move (v := Value.pointer none) rfl p43710 ?_)
              refine WL_step rfl rfl (Exec.load_box_agg (ds := [Value.int .i64 (x43726.A), Value.int .i64 (x43726.B), Value.int .i64 (x43726.Most)]) (hS43737) A32 rfl rfl rfl ?_)
              refine WL_step rfl rfl (Exec.call rfl rfl Try.func14 rfl N14 (args_cons rfl (args_cons rfl args_nil)) ((stn_Network_Add_nil_sim (stn_Network_Add_nil_tot x43726) hS43737 ).mono ?_))
              rintro _ w43742 ⟨_, rfl, ⟨s43743, l43744, hS43745, rfl⟩⟩
              refine ⟨_, rfl, ?_⟩
              refine WL_step rfl rfl (Exec.assign (v := errV 30 ((stn_Network_Add_nil_t x43726))) rfl rfl ?_)
              refine WL_nil (at_normal ?_)
              refine W_seq ?_
              refine W_mid (M := fun f' w' => ∃ (s43756 : PHeap) , PHeap.le s43743 s43756 ∧ St w0 s43756 (H) w' ∧ f' 2 = Value.int .u8 (at_5) ∧ f' 7 = Value.int .i64 (IntKind.i64.wrap (1 + ((IntKind.i64.wrap n1).tmod 10))) ∧ f' 8 = Value.pointer none ∧ f' 39 = v3 ∧ f' 40 = Value.int .i64 ((bounds2.length : Int)) ∧ f' 41 = Value.int .i64 ((i43546 : Int)) ∧ f' 59 = Value.bool ((((stn_Network_Add_nil_t x43726).isSome) && ((!(base_Is_t (stn_Network_Add_nil_t x43726) 1)) && !(base_Is_t (stn_Network_Add_nil_t x43726) 21))))) ?_ ?_
              · refine W_region ?_
                refine WL_step rfl rfl (Exec.move (v := errV 30 ((stn_Network_Add_nil_t x43726))) rfl rfl ?_)
                refine WL_step rfl rfl (Exec.err_neq_nil (T := 30) Try.underlying26 rfl rfl rfl ?_)
                refine WL_step rfl rfl (Exec.move (v := Value.bool ((stn_Network_Add_nil_t x43726).isSome)) rfl rfl ?_)
                by_cases hc43757 : ((stn_Network_Add_nil_t x43726).isSome) = true
                · refine WL_run rfl (yield_of rfl (congrArg Value.bool hc43757)) rfl (Exec.move (v := errV 30 ((stn_Network_Add_nil_t x43726))) rfl rfl ?_)
                  refine WL_run rfl (yield_of rfl (congrArg Value.bool hc43757)) rfl (Exec.call rfl rfl Try.func11 rfl N11 (args_cons rfl (args_cons rfl args_nil)) ((base_Is_sim (base_Is_tot (stn_Network_Add_nil_t x43726) 1) hS43745 ).mono ?_))
                  rintro _ w43758 ⟨_, rfl, ⟨s43759, l43760, hS43761, rfl⟩⟩
                  refine ⟨_, rfl, ?_⟩
                  refine WL_run rfl (yield_of rfl (congrArg Value.bool hc43757)) rfl (Exec.not rfl rfl ?_)
                  refine WL_step rfl rfl (Exec.pick_t (v := Value.bool (!(base_Is_t (stn_Network_Add_nil_t x43726) 1))) rfl (congrArg Value.bool hc43757) rfl ?_)
                  refine WL_step rfl rfl (Exec.move (v := Value.bool (!(base_Is_t (stn_Network_Add_nil_t x43726) 1))) rfl rfl ?_)
                  by_cases hc43762 : (!(base_Is_t (stn_Network_Add_nil_t x43726) 1)) = true
                  · refine WL_run rfl (yield_of rfl (congrArg Value.bool hc43762)) rfl (Exec.move (v := errV 30 ((stn_Network_Add_nil_t x43726))) rfl rfl ?_)
                    refine WL_run rfl (yield_of rfl (congrArg Value.bool hc43762)) rfl (Exec.call rfl rfl Try.func11 rfl N11 (args_cons rfl (args_cons rfl args_nil)) ((base_Is_sim (base_Is_tot (stn_Network_Add_nil_t x43726) 21) hS43761 ).mono ?_))
                    rintro _ w43763 ⟨_, rfl, ⟨s43764, l43765, hS43766, rfl⟩⟩
                    refine ⟨_, rfl, ?_⟩
                    refine WL_run rfl (yield_of rfl (congrArg Value.bool hc43762)) rfl (Exec.not rfl rfl ?_)
                    refine WL_step rfl rfl (Exec.pick_t (v := Value.bool (!(base_Is_t (stn_Network_Add_nil_t x43726) 21))) rfl (congrArg Value.bool hc43762) rfl ?_)
                    refine WL_nil (at_normal ?_)
                    have hS43767 := (hS43766).drop
                    exact ⟨s43764, (PHeap.le.trans l43760 l43765), hS43767, p43708, p43709, p43710, p43711, p43712, x43713, (congrArg Value.bool (Eq.trans (and_t hc43757) (and_t hc43762))).symm⟩
                  · replace hc43762 := not_true hc43762
                    refine WL_pass rfl (yield_of rfl (congrArg Value.bool hc43762)) rfl rfl ?_
                    refine WL_pass rfl (yield_of rfl (congrArg Value.bool hc43762)) rfl rfl ?_
                    refine WL_pass rfl (yield_of rfl (congrArg Value.bool hc43762)) rfl rfl ?_
                    refine WL_step rfl rfl (Exec.pick_f (v := Value.bool (false)) rfl (congrArg Value.bool hc43762) rfl ?_)
                    refine WL_nil (at_normal ?_)
                    have hS43768 := (hS43761).drop
                    exact ⟨s43759, l43760, hS43768, p43708, p43709, p43710, p43711, p43712, x43713, (congrArg Value.bool (Eq.trans (and_t hc43757) (and_f hc43762))).symm⟩
                · replace hc43757 := not_true hc43757
                  refine WL_pass rfl (yield_of rfl (congrArg Value.bool hc43757)) rfl rfl ?_
                  refine WL_pass rfl (yield_of rfl (congrArg Value.bool hc43757)) rfl rfl ?_
                  refine WL_pass rfl (yield_of rfl (congrArg Value.bool hc43757)) rfl rfl ?_
                  refine WL_step rfl rfl (Exec.pick_f (v := Value.bool (false)) rfl (congrArg Value.bool hc43757) rfl ?_)
                  refine WL_step rfl rfl (Exec.move (v := Value.bool (false)) rfl rfl ?_)
                  refine WL_pass rfl (yield_of rfl rfl) rfl rfl ?_
                  refine WL_pass rfl (yield_of rfl rfl) rfl rfl ?_
                  refine WL_pass rfl (yield_of rfl rfl) rfl rfl ?_
                  refine WL_step rfl rfl (Exec.pick_f (v := Value.bool (false)) rfl rfl rfl ?_)
                  refine WL_nil (at_normal ?_)
                  have hS43769 := (hS43745).drop
                  exact ⟨s43743, (PHeap.le_refl _), hS43769, p43708, p43709, p43710, p43711, p43712, x43713, (congrArg Value.bool (and_f hc43757)).symm⟩
              · intro f43770 w43771 hM43772
                obtain ⟨s43773, l43774, hS43775, p43776, p43777, p43778, p43779, p43780, p43781, p43782⟩ := hM43772
                refine (at_normal ?_)
                rcases ite_some hm43701 with ⟨hc43783, hm43701⟩ | ⟨hc43783, hm43701⟩
                · refine W_cond_t p43782 hc43783 ?_
                  refine W_seq ?_
                  refine W_region ?_
                  refine WL_step rfl rfl (Exec.assign (v := Value.bool (false)) rfl rfl ?_)
                  refine WL_nil (at_normal ?_)
                  refine W_ret (ib_ret (at_ret (at_ret (ib_ret (at_ret (at_ret ?_))))))
                  have e43784 := Option.some.inj hm43701
                  subst c43697
                  have hq43785 := hr43691 _ (hres43702 (by intro _ h; cases h))
                  have e43786 := Option.some.inj hq43785
                  subst r
                  refine ⟨_, ret1 rfl, ?_⟩
                  exact ⟨s43773, (PHeap.le.trans (PHeap.le.trans (PHeap.le.trans (PHeap.le.trans l42475 l42531) l43706) l43744) l43774), hS43775, rfl⟩
                · refine W_cond_f p43782 hc43783 ?_
                  replace hc43783 := not_true hc43783
                  refine W_skip (ib_normal (at_normal ?_))
                  refine W_region ?_
                  refine WL_step rfl rfl (Exec.add rfl p43781 rfl ?_)
                  refine WL_step rfl rfl (Exec.move (v := Value.int .i64 (IntKind.i64.wrap ((i43546 : Int) + 1))) rfl rfl ?_)
                  refine WL_nil (at_normal ?_)
                  have e43787 := Option.some.inj hm43701
                  subst c43697
                  refine ⟨_, rfl, ?_⟩; exact ⟨s43773, (PHeap.le.trans (PHeap.le.trans l43706 l43744) l43774), hS43775, p43776, p43777, p43778, p43779, p43780, (Eq.trans rfl (wrap_up hi43704 (SliceRep.le (a4.mono (PHeap.le.trans l42475 l42531)))))⟩
            · intro t43788 f43789 w43790 hI43791 hres43792
              obtain ⟨s43793, l43794, hS43795, p43796, p43797, p43798, p43799, p43800, x43801⟩ := hI43791
              refine W_seq ?_
              refine W_region ?_
              refine WL_step rfl rfl (Exec.lss rfl x43801 p43800 ?_)
              refine WL_nil (at_normal ?_)
              refine W_seq ?_
              refine W_false (congrArg Value.bool (decide_eq_false (by omega))) ?_
              refine W_exit (at_exit (at_exit (ib_here (at_normal ?_))))
              refine ⟨_, .inl hres43792, ?_⟩; exact ⟨s43793, l43794, hS43795, p43796, p43797, p43798, p43799, p43800⟩
          · rintro f43802 w43803 ⟨t43804, hc43805, hM43806⟩
            have hm := hc43805.elim (hn43692 _) (hb43693 _)
            clear hc43805
            obtain ⟨s43807, l43808, hS43809, p43810, p43811, p43812, p43813, p43814⟩ := hM43806
            refine (at_normal ?_)
            refine W_seq ?_
            refine W_seq ?_
            refine W_region ?_
            refine WL_step rfl rfl (Exec.move (v := Value.pointer none) rfl p43812 ?_)
            refine WL_step rfl rfl (Exec.call rfl rfl Try.func22 rfl N22 (args_cons rfl args_nil) ((stn_Network_Times_nil_sim stn_Network_Times_nil_tot hS43809 ).mono ?_))
            rintro _ w43821 ⟨_, rfl, ⟨s43822, v43825, l43823, hS43824, rfl, r43826⟩⟩
            refine ⟨_, rfl, ?_⟩
            refine WL_step rfl rfl (Exec.move (v := Value.tuple #[v43825, errV 30 ((stn_Network_Times_nil_t).2)]) rfl rfl ?_)
            refine WL_step rfl rfl (Exec.extract (v := v43825) rfl rfl rfl ?_)
            refine WL_step rfl rfl (Exec.extract (v := errV 30 ((stn_Network_Times_nil_t).2)) rfl rfl rfl ?_)
            refine WL_step rfl rfl (Exec.assign (v := v43825) rfl rfl ?_)
            refine WL_step rfl rfl (Exec.assign (v := errV 30 ((stn_Network_Times_nil_t).2)) rfl rfl ?_)
            refine WL_nil (at_normal ?_)
            refine W_seq ?_
            refine W_mid (M := fun f' w' => ∃ (s43832 : PHeap) , PHeap.le s43822 s43832 ∧ St w0 s43832 (H) w' ∧ f' 2 = Value.int .u8 (at_5) ∧ f' 7 = Value.int .i64 (IntKind.i64.wrap (1 + ((IntKind.i64.wrap n1).tmod 10))) ∧ f' 8 = Value.pointer none ∧ f' 73 = Value.bool (((((stn_Network_Times_nil_t).2).isNone) && !(stn_Network_Holds_nil_t ((stn_Network_Times_nil_t).1))))) ?_ ?_
            · refine W_region ?_
              refine WL_step rfl rfl (Exec.move (v := errV 30 ((stn_Network_Times_nil_t).2)) rfl rfl ?_)
              refine WL_step rfl rfl (Exec.err_eql_nil (T := 30) Try.underlying26 rfl rfl rfl ?_)
              refine WL_step rfl rfl (Exec.move (v := Value.bool (((stn_Network_Times_nil_t).2).isNone)) rfl rfl ?_)
              by_cases hc43833 : (((stn_Network_Times_nil_t).2).isNone) = true
              · refine WL_run rfl (yield_of rfl (congrArg Value.bool hc43833)) rfl (Exec.move (v := Value.pointer none) rfl p43812 ?_)
                refine WL_run rfl (yield_of rfl (congrArg Value.bool hc43833)) rfl (Exec.move (v := v43825) rfl rfl ?_)
                refine WL_run rfl (yield_of rfl (congrArg Value.bool hc43833)) rfl (Exec.call rfl rfl Try.func20 rfl N20 (args_cons rfl (args_cons rfl args_nil)) ((stn_Network_Holds_nil_sim (stn_Network_Holds_nil_tot ((stn_Network_Times_nil_t).1)) hS43824 r43826).mono ?_))
                rintro _ w43834 ⟨_, rfl, ⟨s43835, l43836, hS43837, rfl⟩⟩
                refine ⟨_, rfl, ?_⟩
                refine WL_run rfl (yield_of rfl (congrArg Value.bool hc43833)) rfl (Exec.not rfl rfl ?_)
                refine WL_step rfl rfl (Exec.pick_t (v := Value.bool (!(stn_Network_Holds_nil_t ((stn_Network_Times_nil_t).1)))) rfl (congrArg Value.bool hc43833) rfl ?_)
                refine WL_nil (at_normal ?_)
                exact ⟨s43835, l43836, hS43837, p43810, p43811, p43812, (congrArg Value.bool (and_t hc43833)).symm⟩
              · replace hc43833 := not_true hc43833
                refine WL_pass rfl (yield_of rfl (congrArg Value.bool hc43833)) rfl rfl ?_
                refine WL_pass rfl (yield_of rfl (congrArg Value.bool hc43833)) rfl rfl ?_
                refine WL_pass rfl (yield_of rfl (congrArg Value.bool hc43833)) rfl rfl ?_
                refine WL_pass rfl (yield_of rfl (congrArg Value.bool hc43833)) rfl rfl ?_
                refine WL_step rfl rfl (Exec.pick_f (v := Value.bool (false)) rfl (congrArg Value.bool hc43833) rfl ?_)
                refine WL_nil (at_normal ?_)
                exact ⟨s43822, (PHeap.le_refl _), hS43824, p43810, p43811, p43812, (congrArg Value.bool (and_f hc43833)).symm⟩
            · intro f43838 w43839 hM43840
              obtain ⟨s43841, l43842, hS43843, p43844, p43845, p43846, p43847⟩ := hM43840
              refine (at_normal ?_)
              rcases ite_some hm with ⟨hc43848, hm⟩ | ⟨hc43848, hm⟩
              · refine W_cond_t p43847 hc43848 ?_
                refine W_seq ?_
                refine W_region ?_
                refine WL_step rfl rfl (Exec.assign (v := Value.bool (false)) rfl rfl ?_)
                refine WL_nil (at_normal ?_)
                refine W_ret (at_ret ?_)
                have e43850 := Option.some.inj hm
                subst r
                refine ⟨_, ret1 rfl, ?_⟩
                exact ⟨s43841, (PHeap.le.trans (PHeap.le.trans (PHeap.le.trans (PHeap.le.trans l42475 l42531) l43808) l43823) l43842), hS43843, rfl⟩
              · refine W_cond_f p43847 hc43848 ?_
                replace hc43848 := not_true hc43848
                refine W_skip (at_normal ?_)
                refine W_seq ?_
                refine W_region ?_
                refine WL_step rfl rfl (Exec.move (v := Value.int .u8 (at_5)) rfl p43844 ?_)
                refine WL_step rfl rfl (Exec.convert_int (by rw [Try.underlying5]; rfl) Try.underlying3 rfl rfl ?_)
                refine WL_step rfl rfl (Exec.move (v := Value.int .i64 (IntKind.i64.wrap (1 + ((IntKind.i64.wrap n1).tmod 10)))) rfl p43845 ?_)
                obtain ⟨u43853, q43854, hm⟩ := bind_some hm
                refine WL_step rfl rfl (Exec.rem rfl rfl rfl (by simpa using must_some q43854) ?_)
                refine WL_step rfl rfl (Exec.assign (v := Value.int .i64 ((IntKind.i64.wrap at_5).tmod (IntKind.i64.wrap (1 + ((IntKind.i64.wrap n1).tmod 10))))) rfl rfl ?_)
                refine WL_nil (at_normal ?_)
                refine W_seq ?_
                refine W_seq ?_
                refine W_region ?_
                refine WL_step rfl rfl (Exec.move (v := Value.pointer none) rfl p43846 ?_)
                refine WL_step rfl rfl (Exec.move (v := Value.int .i64 ((IntKind.i64.wrap at_5).tmod (IntKind.i64.wrap (1 + ((IntKind.i64.wrap n1).tmod 10))))) rfl rfl ?_)
                refine WL_step rfl rfl (Exec.call rfl rfl Try.func16 rfl N16 (args_cons rfl (args_cons rfl args_nil)) ((stn_Network_Earliest_nil_sim (stn_Network_Earliest_nil_tot ((IntKind.i64.wrap at_5).tmod (IntKind.i64.wrap (1 + ((IntKind.i64.wrap n1).tmod 10))))) hS43843 ).mono ?_))
                rintro _ w43859 ⟨_, rfl, ⟨s43860, l43861, hS43862, rfl⟩⟩
                refine ⟨_, rfl, ?_⟩
                refine WL_step rfl rfl (Exec.move (v := Value.tuple #[Value.int .i64 ((stn_Network_Earliest_nil_t ((IntKind.i64.wrap at_5).tmod (IntKind.i64.wrap (1 + ((IntKind.i64.wrap n1).tmod 10))))).1), errV 30 ((stn_Network_Earliest_nil_t ((IntKind.i64.wrap at_5).tmod (IntKind.i64.wrap (1 + ((IntKind.i64.wrap n1).tmod 10))))).2)]) rfl rfl ?_)
                refine WL_step rfl rfl (Exec.extract (v := Value.int .i64 ((stn_Network_Earliest_nil_t ((IntKind.i64.wrap at_5).tmod (IntKind.i64.wrap (1 + ((IntKind.i64.wrap n1).tmod 10))))).1)) rfl rfl rfl ?_)
                refine WL_step rfl rfl (Exec.extract (v := errV 30 ((stn_Network_Earliest_nil_t ((IntKind.i64.wrap at_5).tmod (IntKind.i64.wrap (1 + ((IntKind.i64.wrap n1).tmod 10))))).2)) rfl rfl rfl ?_)
                refine WL_step rfl rfl (Exec.assign (v := Value.int .i64 ((stn_Network_Earliest_nil_t ((IntKind.i64.wrap at_5).tmod (IntKind.i64.wrap (1 + ((IntKind.i64.wrap n1).tmod 10))))).1)) rfl rfl ?_)
                refine WL_step rfl rfl (Exec.assign (v := errV 30 ((stn_Network_Earliest_nil_t ((IntKind.i64.wrap at_5).tmod (IntKind.i64.wrap (1 + ((IntKind.i64.wrap n1).tmod 10))))).2)) rfl rfl ?_)
                refine WL_nil (at_normal ?_)
                refine W_seq ?_
                refine W_mid (M := fun f' w' => ∃ (s43865 : PHeap) , PHeap.le s43860 s43865 ∧ St w0 s43865 (H) w' ∧ f' 8 = Value.pointer none ∧ f' 15 = Value.int .i64 ((IntKind.i64.wrap at_5).tmod (IntKind.i64.wrap (1 + ((IntKind.i64.wrap n1).tmod 10)))) ∧ f' 16 = Value.int .i64 ((stn_Network_Earliest_nil_t ((IntKind.i64.wrap at_5).tmod (IntKind.i64.wrap (1 + ((IntKind.i64.wrap n1).tmod 10))))).1) ∧ f' 93 = Value.bool (((((stn_Network_Earliest_nil_t ((IntKind.i64.wrap at_5).tmod (IntKind.i64.wrap (1 + ((IntKind.i64.wrap n1).tmod 10))))).2).isNone) && ((decide ((-1099511627776) < ((stn_Network_Earliest_nil_t ((IntKind.i64.wrap at_5).tmod (IntKind.i64.wrap (1 + ((IntKind.i64.wrap n1).tmod 10))))).1))) && decide (((stn_Network_Earliest_nil_t ((IntKind.i64.wrap at_5).tmod (IntKind.i64.wrap (1 + ((IntKind.i64.wrap n1).tmod 10))))).1) < 1099511627776))))) ?_ ?_
                · refine W_region ?_
                  refine WL_step rfl rfl (Exec.move (v := errV 30 ((stn_Network_Earliest_nil_t ((IntKind.i64.wrap at_5).tmod (IntKind.i64.wrap (1 + ((IntKind.i64.wrap n1).tmod 10))))).2)) rfl rfl ?_)
                  refine WL_step rfl rfl (Exec.err_eql_nil (T := 30) Try.underlying26 rfl rfl rfl ?_)
                  refine WL_step rfl rfl (Exec.move (v := Value.bool (((stn_Network_Earliest_nil_t ((IntKind.i64.wrap at_5).tmod (IntKind.i64.wrap (1 + ((IntKind.i64.wrap n1).tmod 10))))).2).isNone)) rfl rfl ?_)
                  by_cases hc43866 : (((stn_Network_Earliest_nil_t ((IntKind.i64.wrap at_5).tmod (IntKind.i64.wrap (1 + ((IntKind.i64.wrap n1).tmod 10))))).2).isNone) = true
                  · refine WL_run rfl (yield_of rfl (congrArg Value.bool hc43866)) rfl (Exec.move (v := Value.int .i64 ((stn_Network_Earliest_nil_t ((IntKind.i64.wrap at_5).tmod (IntKind.i64.wrap (1 + ((IntKind.i64.wrap n1).tmod 10))))).1)) rfl rfl ?_)
                    refine WL_run rfl (yield_of rfl (congrArg Value.bool hc43866)) rfl (Exec.gtr rfl rfl rfl ?_)
                    refine WL_step rfl rfl (Exec.pick_t (v := Value.bool (decide ((-1099511627776) < ((stn_Network_Earliest_nil_t ((IntKind.i64.wrap at_5).tmod (IntKind.i64.wrap (1 + ((IntKind.i64.wrap n1).tmod 10))))).1)))) rfl (congrArg Value.bool hc43866) rfl ?_)
                    refine WL_step rfl rfl (Exec.move (v := Value.bool (decide ((-1099511627776) < ((stn_Network_Earliest_nil_t ((IntKind.i64.wrap at_5).tmod (IntKind.i64.wrap (1 + ((IntKind.i64.wrap n1).tmod 10))))).1)))) rfl rfl ?_)
                    by_cases hc43867 : (decide ((-1099511627776) < ((stn_Network_Earliest_nil_t ((IntKind.i64.wrap at_5).tmod (IntKind.i64.wrap (1 + ((IntKind.i64.wrap n1).tmod 10))))).1))) = true
                    · refine WL_run rfl (yield_of rfl (congrArg Value.bool hc43867)) rfl (Exec.move (v := Value.int .i64 ((stn_Network_Earliest_nil_t ((IntKind.i64.wrap at_5).tmod (IntKind.i64.wrap (1 + ((IntKind.i64.wrap n1).tmod 10))))).1)) rfl rfl ?_)
                      refine WL_run rfl (yield_of rfl (congrArg Value.bool hc43867)) rfl (Exec.lss rfl rfl rfl ?_)
                      refine WL_step rfl rfl (Exec.pick_t (v := Value.bool (decide (((stn_Network_Earliest_nil_t ((IntKind.i64.wrap at_5).tmod (IntKind.i64.wrap (1 + ((IntKind.i64.wrap n1).tmod 10))))).1) < 1099511627776))) rfl (congrArg Value.bool hc43867) rfl ?_)
                      refine WL_nil (at_normal ?_)
                      exact ⟨s43860, (PHeap.le_refl _), hS43862, p43846, rfl, rfl, (congrArg Value.bool (Eq.trans (and_t hc43866) (and_t hc43867))).symm⟩
                    · replace hc43867 := not_true hc43867
                      refine WL_pass rfl (yield_of rfl (congrArg Value.bool hc43867)) rfl rfl ?_
                      refine WL_pass rfl (yield_of rfl (congrArg Value.bool hc43867)) rfl rfl ?_
                      refine WL_step rfl rfl (Exec.pick_f (v := Value.bool (false)) rfl (congrArg Value.bool hc43867) rfl ?_)
                      refine WL_nil (at_normal ?_)
                      exact ⟨s43860, (PHeap.le_refl _), hS43862, p43846, rfl, rfl, (congrArg Value.bool (Eq.trans (and_t hc43866) (and_f hc43867))).symm⟩
                  · replace hc43866 := not_true hc43866
                    refine WL_pass rfl (yield_of rfl (congrArg Value.bool hc43866)) rfl rfl ?_
                    refine WL_pass rfl (yield_of rfl (congrArg Value.bool hc43866)) rfl rfl ?_
                    refine WL_step rfl rfl (Exec.pick_f (v := Value.bool (false)) rfl (congrArg Value.bool hc43866) rfl ?_)
                    refine WL_step rfl rfl (Exec.move (v := Value.bool (false)) rfl rfl ?_)
                    refine WL_pass rfl (yield_of rfl rfl) rfl rfl ?_
                    refine WL_pass rfl (yield_of rfl rfl) rfl rfl ?_
                    refine WL_step rfl rfl (Exec.pick_f (v := Value.bool (false)) rfl rfl rfl ?_)
                    refine WL_nil (at_normal ?_)
                    exact ⟨s43860, (PHeap.le_refl _), hS43862, p43846, rfl, rfl, (congrArg Value.bool (and_f hc43866)).symm⟩
                · intro f43868 w43869 hM43870
                  obtain ⟨s43871, l43872, hS43873, p43874, p43875, p43876, p43877⟩ := hM43870
                  refine (at_normal ?_)
                  rcases ite_some hm with ⟨hc43878, hm⟩ | ⟨hc43878, hm⟩
                  · refine W_cond_t p43877 hc43878 ?_
                    refine W_seq ?_
                    refine W_mid (M := fun f' w' => ∃ (s43900 : PHeap) , PHeap.le s43871 s43900 ∧ St w0 s43900 (H) w' ∧ f' 8 = Value.pointer none ∧ f' 15 = Value.int .i64 ((IntKind.i64.wrap at_5).tmod (IntKind.i64.wrap (1 + ((IntKind.i64.wrap n1).tmod 10)))) ∧ f' 111 = Value.bool (((!(base_Is_t (stn_Network_Add_nil_t (⟨0, (IntKind.i64.wrap at_5).tmod (IntKind.i64.wrap (1 + ((IntKind.i64.wrap n1).tmod 10))), IntKind.i64.wrap (((stn_Network_Earliest_nil_t ((IntKind.i64.wrap at_5).tmod (IntKind.i64.wrap (1 + ((IntKind.i64.wrap n1).tmod 10))))).1) - 1)⟩ : Bound)) 21)) || (stn_Network_Add_nil_t (⟨0, (IntKind.i64.wrap at_5).tmod (IntKind.i64.wrap (1 + ((IntKind.i64.wrap n1).tmod 10))), (stn_Network_Earliest_nil_t ((IntKind.i64.wrap at_5).tmod (IntKind.i64.wrap (1 + ((IntKind.i64.wrap n1).tmod 10))))).1⟩ : Bound)).isSome))) ?_ ?_
                    · refine W_region ?_
                      refine WL_step rfl rfl (Exec.move (v := Value.pointer none) rfl p43874 ?_)
                      refine WL_step rfl rfl (Exec.call rfl rfl Try.func21 rfl N21 (args_cons rfl args_nil) ((stn_Network_Copy_nil_sim stn_Network_Copy_nil_tot hS43873 ).mono ?_))
                      rintro _ w43901 ⟨_, rfl, ⟨s43902, l43903, hS43904, rfl⟩⟩
                      refine ⟨_, rfl, ?_⟩
                      refine WL_step rfl rfl (Exec.move (v := Value.int .i64 ((IntKind.i64.wrap at_5).tmod (IntKind.i64.wrap (1 + ((IntKind.i64.wrap n1).tmod 10))))) rfl p43875 ?_)
                      refine WL_step rfl rfl (Exec.move (v := Value.int .i64 ((stn_Network_Earliest_nil_t ((IntKind.i64.wrap at_5).tmod (IntKind.i64.wrap (1 + ((IntKind.i64.wrap n1).tmod 10))))).1)) rfl p43876 ?_)
                      refine WL_step rfl rfl (Exec.sub rfl rfl rfl ?_)
                      refine WL_step rfl rfl (Exec.build rfl (parts_cons (c := [Value.int .i64 (0)]) (cells_of rfl rfl) (parts_cons (c := [Value.int .i64 ((IntKind.i64.wrap at_5).tmod (IntKind.i64.wrap (1 + ((IntKind.i64.wrap n1).tmod 10))))]) (cells_of rfl rfl) (parts_cons (c := [Value.int .i64 (IntKind.i64.wrap (((stn_Network_Earliest_nil_t ((IntKind.i64.wrap at_5).tmod (IntKind.i64.wrap (1 + ((IntKind.i64.wrap n1).tmod 10))))).1) - 1))]) (cells_of rfl rfl) parts_nil))) (v := Value.agg #[Value.int .i64 (0), Value.int .i64 ((IntKind.i64.wrap at_5).tmod (IntKind.i64.wrap (1 + ((IntKind.i64.wrap n1).tmod 10)))), Value.int .i64 (IntKind.i64.wrap (((stn_Network_Earliest_nil_t ((IntKind.i64.wrap at_5).tmod (IntKind.i64.wrap (1 + ((IntKind.i64.wrap n1).tmod 10))))).1) - 1))]) (fun _ => by kernel_rfl) ?_)
                      refine WL_step rfl rfl (Exec.call rfl rfl Try.func14 rfl N14 (args_cons rfl (args_cons rfl args_nil)) ((stn_Network_Add_nil_sim (stn_Network_Add_nil_tot (⟨0, (IntKind.i64.wrap at_5).tmod (IntKind.i64.wrap (1 + ((IntKind.i64.wrap n1).tmod 10))), IntKind.i64.wrap (((stn_Network_Earliest_nil_t ((IntKind.i64.wrap at_5).tmod (IntKind.i64.wrap (1 + ((IntKind.i64.wrap n1).tmod 10))))).1) - 1)⟩ : Bound)) hS43904 ).mono ?_))
                      rintro _ w43905 ⟨_, rfl, ⟨s43906, l43907, hS43908, rfl⟩⟩
                      refine ⟨_, rfl, ?_⟩
                      refine WL_step rfl rfl (Exec.call rfl rfl Try.func11 rfl N11 (args_cons rfl (args_cons rfl args_nil)) ((base_Is_sim (base_Is_tot (stn_Network_Add_nil_t (⟨0, (IntKind.i64.wrap at_5).tmod (IntKind.i64.wrap (1 + ((IntKind.i64.wrap n1).tmod 10))), IntKind.i64.wrap (((stn_Network_Earliest_nil_t ((IntKind.i64.wrap at_5).tmod (IntKind.i64.wrap (1 + ((IntKind.i64.wrap n1).tmod 10))))).1) - 1)⟩ : Bound)) 21) hS43908 ).mono ?_))
                      rintro _ w43909 ⟨_, rfl, ⟨s43910, l43911, hS43912, rfl⟩⟩
                      refine ⟨_, rfl, ?_⟩
                      refine WL_step rfl rfl (Exec.not rfl rfl ?_)
                      refine WL_step rfl rfl (Exec.move (v := Value.bool (!(base_Is_t (stn_Network_Add_nil_t (⟨0, (IntKind.i64.wrap at_5).tmod (IntKind.i64.wrap (1 + ((IntKind.i64.wrap n1).tmod 10))), IntKind.i64.wrap (((stn_Network_Earliest_nil_t ((IntKind.i64.wrap at_5).tmod (IntKind.i64.wrap (1 + ((IntKind.i64.wrap n1).tmod 10))))).1) - 1)⟩ : Bound)) 21))) rfl rfl ?_)
                      by_cases hc43913 : (!(base_Is_t (stn_Network_Add_nil_t (⟨0, (IntKind.i64.wrap at_5).tmod (IntKind.i64.wrap (1 + ((IntKind.i64.wrap n1).tmod 10))), IntKind.i64.wrap (((stn_Network_Earliest_nil_t ((IntKind.i64.wrap at_5).tmod (IntKind.i64.wrap (1 + ((IntKind.i64.wrap n1).tmod 10))))).1) - 1)⟩ : Bound)) 21)) = true
                      · refine WL_pass rfl (yield_of rfl (congrArg Value.bool hc43913)) rfl rfl ?_
                        refine WL_pass rfl (yield_of rfl (congrArg Value.bool hc43913)) rfl rfl ?_
                        refine WL_pass rfl (yield_of rfl (congrArg Value.bool hc43913)) rfl rfl ?_
                        refine WL_pass rfl (yield_of rfl (congrArg Value.bool hc43913)) rfl rfl ?_
                        refine WL_pass rfl (yield_of rfl (congrArg Value.bool hc43913)) rfl rfl ?_
                        refine WL_pass rfl (yield_of rfl (congrArg Value.bool hc43913)) rfl rfl ?_
                        refine WL_pass rfl (yield_of rfl (congrArg Value.bool hc43913)) rfl rfl ?_
                        refine WL_step rfl rfl (Exec.pick_t (v := Value.bool (true)) rfl (congrArg Value.bool hc43913) rfl ?_)
                        refine WL_nil (at_normal ?_)
                        exact ⟨s43910, (PHeap.le.trans (PHeap.le.trans l43903 l43907) l43911), hS43912, p43874, p43875, (congrArg Value.bool (or_t hc43913)).symm⟩
                      · replace hc43913 := not_true hc43913
                        refine WL_run rfl (yield_of rfl (congrArg Value.bool hc43913)) rfl (Exec.move (v := Value.pointer none) rfl p43874 ?_)
                        refine WL_run rfl (yield_of rfl (congrArg Value.bool hc43913)) rfl (Exec.call rfl rfl Try.func21 rfl N21 (args_cons rfl args_nil) ((stn_Network_Copy_nil_sim stn_Network_Copy_nil_tot hS43912 ).mono ?_))
                        rintro _ w43914 ⟨_, rfl, ⟨s43915, l43916, hS43917, rfl⟩⟩
                        refine ⟨_, rfl, ?_⟩
                        refine WL_run rfl (yield_of rfl (congrArg Value.bool hc43913)) rfl (Exec.move (v := Value.int .i64 ((IntKind.i64.wrap at_5).tmod (IntKind.i64.wrap (1 + ((IntKind.i64.wrap n1).tmod 10))))) rfl p43875 ?_)
                        refine WL_run rfl (yield_of rfl (congrArg Value.bool hc43913)) rfl (Exec.move (v := Value.int .i64 ((stn_Network_Earliest_nil_t ((IntKind.i64.wrap at_5).tmod (IntKind.i64.wrap (1 + ((IntKind.i64.wrap n1).tmod 10))))).1)) rfl p43876 ?_)
                        refine WL_run rfl (yield_of rfl (congrArg Value.bool hc43913)) rfl (Exec.build rfl (parts_cons (c := [Value.int .i64 (0)]) (cells_of rfl rfl) (parts_cons (c := [Value.int .i64 ((IntKind.i64.wrap at_5).tmod (IntKind.i64.wrap (1 + ((IntKind.i64.wrap n1).tmod 10))))]) (cells_of rfl rfl) (parts_cons (c := [Value.int .i64 ((stn_Network_Earliest_nil_t ((IntKind.i64.wrap at_5).tmod (IntKind.i64.wrap (1 + ((IntKind.i64.wrap n1).tmod 10))))).1)]) (cells_of rfl rfl) parts_nil))) (v := Value.agg #[Value.int .i64 (0), Value.int .i64 ((IntKind.i64.wrap at_5).tmod (IntKind.i64.wrap (1 + ((IntKind.i64.wrap n1).tmod 10)))), Value.int .i64 ((stn_Network_Earliest_nil_t ((IntKind.i64.wrap at_5).tmod (IntKind.i64.wrap (1 + ((IntKind.i64.wrap n1).tmod 10))))).1)]) (fun _ => by kernel_rfl) ?_)
                        refine WL_run rfl (yield_of rfl (congrArg Value.bool hc43913)) rfl (Exec.call rfl rfl Try.func14 rfl N14 (args_cons rfl (args_cons rfl args_nil)) ((stn_Network_Add_nil_sim (stn_Network_Add_nil_tot (⟨0, (IntKind.i64.wrap at_5).tmod (IntKind.i64.wrap (1 + ((IntKind.i64.wrap n1).tmod 10))), (stn_Network_Earliest_nil_t ((IntKind.i64.wrap at_5).tmod (IntKind.i64.wrap (1 + ((IntKind.i64.wrap n1).tmod 10))))).1⟩ : Bound)) hS43917 ).mono ?_))
                        rintro _ w43918 ⟨_, rfl, ⟨s43919, l43920, hS43921, rfl⟩⟩
                        refine ⟨_, rfl, ?_⟩
                        refine WL_run rfl (yield_of rfl (congrArg Value.bool hc43913)) rfl (Exec.err_neq_nil (T := 30) Try.underlying26 rfl rfl rfl ?_)
                        refine WL_step rfl rfl (Exec.pick_f (v := Value.bool ((stn_Network_Add_nil_t (⟨0, (IntKind.i64.wrap at_5).tmod (IntKind.i64.wrap (1 + ((IntKind.i64.wrap n1).tmod 10))), (stn_Network_Earliest_nil_t ((IntKind.i64.wrap at_5).tmod (IntKind.i64.wrap (1 + ((IntKind.i64.wrap n1).tmod 10))))).1⟩ : Bound)).isSome)) rfl (congrArg Value.bool hc43913) rfl ?_)
                        refine WL_nil (at_normal ?_)
                        exact ⟨s43919, (PHeap.le.trans (PHeap.le.trans (PHeap.le.trans (PHeap.le.trans l43903 l43907) l43911) l43916) l43920), hS43921, p43874, p43875, (congrArg Value.bool (or_f hc43913)).symm⟩
                    · intro f43922 w43923 hM43924
                      obtain ⟨s43925, l43926, hS43927, p43928, p43929, p43930⟩ := hM43924
                      refine (at_normal ?_)
                      rcases ite_some hm with ⟨hc43931, hm⟩ | ⟨hc43931, hm⟩
                      · refine W_cond_t p43930 hc43931 ?_
                        refine W_seq ?_
                        refine W_region ?_
                        refine WL_step rfl rfl (Exec.assign (v := Value.bool (false)) rfl rfl ?_)
                        refine WL_nil (at_normal ?_)
                        refine W_ret (at_ret ?_)
                        have e43933 := Option.some.inj hm
                        subst r
                        refine ⟨_, ret1 rfl, ?_⟩
                        exact ⟨s43925, (PHeap.le.trans (PHeap.le.trans (PHeap.le.trans (PHeap.le.trans (PHeap.le.trans (PHeap.le.trans (PHeap.le.trans l42475 l42531) l43808) l43823) l43842) l43861) l43872) l43926), hS43927, rfl⟩
                      · refine W_cond_f p43930 hc43931 ?_
                        replace hc43931 := not_true hc43931
                        refine W_skip (at_normal ?_)
                        refine W_seq ?_
                        refine W_seq ?_
                        refine W_region ?_
                        refine WL_step rfl rfl (Exec.move (v := Value.pointer none) rfl p43928 ?_)
                        refine WL_step rfl rfl (Exec.move (v := Value.int .i64 ((IntKind.i64.wrap at_5).tmod (IntKind.i64.wrap (1 + ((IntKind.i64.wrap n1).tmod 10))))) rfl p43929 ?_)
                        refine WL_step rfl rfl (Exec.call rfl rfl Try.func17 rfl N17 (args_cons rfl (args_cons rfl args_nil)) ((stn_Network_Latest_nil_sim (stn_Network_Latest_nil_tot ((IntKind.i64.wrap at_5).tmod (IntKind.i64.wrap (1 + ((IntKind.i64.wrap n1).tmod 10))))) hS43927 ).mono ?_))
                        rintro _ w43938 ⟨_, rfl, ⟨s43939, l43940, hS43941, rfl⟩⟩
                        refine ⟨_, rfl, ?_⟩
                        refine WL_step rfl rfl (Exec.move (v := Value.tuple #[Value.int .i64 ((stn_Network_Latest_nil_t ((IntKind.i64.wrap at_5).tmod (IntKind.i64.wrap (1 + ((IntKind.i64.wrap n1).tmod 10))))).1), errV 30 ((stn_Network_Latest_nil_t ((IntKind.i64.wrap at_5).tmod (IntKind.i64.wrap (1 + ((IntKind.i64.wrap n1).tmod 10))))).2)]) rfl rfl ?_)
                        refine WL_step rfl rfl (Exec.extract (v := Value.int .i64 ((stn_Network_Latest_nil_t ((IntKind.i64.wrap at_5).tmod (IntKind.i64.wrap (1 + ((IntKind.i64.wrap n1).tmod 10))))).1)) rfl rfl rfl ?_)
                        refine WL_step rfl rfl (Exec.extract (v := errV 30 ((stn_Network_Latest_nil_t ((IntKind.i64.wrap at_5).tmod (IntKind.i64.wrap (1 + ((IntKind.i64.wrap n1).tmod 10))))).2)) rfl rfl rfl ?_)
                        refine WL_step rfl rfl (Exec.assign (v := Value.int .i64 ((stn_Network_Latest_nil_t ((IntKind.i64.wrap at_5).tmod (IntKind.i64.wrap (1 + ((IntKind.i64.wrap n1).tmod 10))))).1)) rfl rfl ?_)
                        refine WL_step rfl rfl (Exec.assign (v := errV 30 ((stn_Network_Latest_nil_t ((IntKind.i64.wrap at_5).tmod (IntKind.i64.wrap (1 + ((IntKind.i64.wrap n1).tmod 10))))).2)) rfl rfl ?_)
                        refine WL_nil (at_normal ?_)
                        refine W_seq ?_
                        refine W_mid (M := fun f' w' => ∃ (s43944 : PHeap) , PHeap.le s43939 s43944 ∧ St w0 s43944 (H) w' ∧ f' 8 = Value.pointer none ∧ f' 15 = Value.int .i64 ((IntKind.i64.wrap at_5).tmod (IntKind.i64.wrap (1 + ((IntKind.i64.wrap n1).tmod 10)))) ∧ f' 18 = Value.int .i64 ((stn_Network_Latest_nil_t ((IntKind.i64.wrap at_5).tmod (IntKind.i64.wrap (1 + ((IntKind.i64.wrap n1).tmod 10))))).1) ∧ f' 127 = Value.bool (((((stn_Network_Latest_nil_t ((IntKind.i64.wrap at_5).tmod (IntKind.i64.wrap (1 + ((IntKind.i64.wrap n1).tmod 10))))).2).isNone) && ((decide ((-1099511627776) < ((stn_Network_Latest_nil_t ((IntKind.i64.wrap at_5).tmod (IntKind.i64.wrap (1 + ((IntKind.i64.wrap n1).tmod 10))))).1))) && decide (((stn_Network_Latest_nil_t ((IntKind.i64.wrap at_5).tmod (IntKind.i64.wrap (1 + ((IntKind.i64.wrap n1).tmod 10))))).1) < 1099511627776))))) ?_ ?_
                        · refine W_region ?_
                          refine WL_step rfl rfl (Exec.move (v := errV 30 ((stn_Network_Latest_nil_t ((IntKind.i64.wrap at_5).tmod (IntKind.i64.wrap (1 + ((IntKind.i64.wrap n1).tmod 10))))).2)) rfl rfl ?_)
                          refine WL_step rfl rfl (Exec.err_eql_nil (T := 30) Try.underlying26 rfl rfl rfl ?_)
                          refine WL_step rfl rfl (Exec.move (v := Value.bool (((stn_Network_Latest_nil_t ((IntKind.i64.wrap at_5).tmod (IntKind.i64.wrap (1 + ((IntKind.i64.wrap n1).tmod 10))))).2).isNone)) rfl rfl ?_)
                          by_cases hc43945 : (((stn_Network_Latest_nil_t ((IntKind.i64.wrap at_5).tmod (IntKind.i64.wrap (1 + ((IntKind.i64.wrap n1).tmod 10))))).2).isNone) = true
                          · refine WL_run rfl (yield_of rfl (congrArg Value.bool hc43945)) rfl (Exec.move (v := Value.int .i64 ((stn_Network_Latest_nil_t ((IntKind.i64.wrap at_5).tmod (IntKind.i64.wrap (1 + ((IntKind.i64.wrap n1).tmod 10))))).1)) rfl rfl ?_)
                            refine WL_run rfl (yield_of rfl (congrArg Value.bool hc43945)) rfl (Exec.gtr rfl rfl rfl ?_)
                            refine WL_step rfl rfl (Exec.pick_t (v := Value.bool (decide ((-1099511627776) < ((stn_Network_Latest_nil_t ((IntKind.i64.wrap at_5).tmod (IntKind.i64.wrap (1 + ((IntKind.i64.wrap n1).tmod 10))))).1)))) rfl (congrArg Value.bool hc43945) rfl ?_)
                            refine WL_step rfl rfl (Exec.move (v := Value.bool (decide ((-1099511627776) < ((stn_Network_Latest_nil_t ((IntKind.i64.wrap at_5).tmod (IntKind.i64.wrap (1 + ((IntKind.i64.wrap n1).tmod 10))))).1)))) rfl rfl ?_)
                            by_cases hc43946 : (decide ((-1099511627776) < ((stn_Network_Latest_nil_t ((IntKind.i64.wrap at_5).tmod (IntKind.i64.wrap (1 + ((IntKind.i64.wrap n1).tmod 10))))).1))) = true
                            · refine WL_run rfl (yield_of rfl (congrArg Value.bool hc43946)) rfl (Exec.move (v := Value.int .i64 ((stn_Network_Latest_nil_t ((IntKind.i64.wrap at_5).tmod (IntKind.i64.wrap (1 + ((IntKind.i64.wrap n1).tmod 10))))).1)) rfl rfl ?_)
                              refine WL_run rfl (yield_of rfl (congrArg Value.bool hc43946)) rfl (Exec.lss rfl rfl rfl ?_)
                              refine WL_step rfl rfl (Exec.pick_t (v := Value.bool (decide (((stn_Network_Latest_nil_t ((IntKind.i64.wrap at_5).tmod (IntKind.i64.wrap (1 + ((IntKind.i64.wrap n1).tmod 10))))).1) < 1099511627776))) rfl (congrArg Value.bool hc43946) rfl ?_)
                              refine WL_nil (at_normal ?_)
                              exact ⟨s43939, (PHeap.le_refl _), hS43941, p43928, p43929, rfl, (congrArg Value.bool (Eq.trans (and_t hc43945) (and_t hc43946))).symm⟩
                            · replace hc43946 := not_true hc43946
                              refine WL_pass rfl (yield_of rfl (congrArg Value.bool hc43946)) rfl rfl ?_
                              refine WL_pass rfl (yield_of rfl (congrArg Value.bool hc43946)) rfl rfl ?_
                              refine WL_step rfl rfl (Exec.pick_f (v := Value.bool (false)) rfl (congrArg Value.bool hc43946) rfl ?_)
                              refine WL_nil (at_normal ?_)
                              exact ⟨s43939, (PHeap.le_refl _), hS43941, p43928, p43929, rfl, (congrArg Value.bool (Eq.trans (and_t hc43945) (and_f hc43946))).symm⟩
                          · replace hc43945 := not_true hc43945
                            refine WL_pass rfl (yield_of rfl (congrArg Value.bool hc43945)) rfl rfl ?_
                            refine WL_pass rfl (yield_of rfl (congrArg Value.bool hc43945)) rfl rfl ?_
                            refine WL_step rfl rfl (Exec.pick_f (v := Value.bool (false)) rfl (congrArg Value.bool hc43945) rfl ?_)
                            refine WL_step rfl rfl (Exec.move (v := Value.bool (false)) rfl rfl ?_)
                            refine WL_pass rfl (yield_of rfl rfl) rfl rfl ?_
                            refine WL_pass rfl (yield_of rfl rfl) rfl rfl ?_
                            refine WL_step rfl rfl (Exec.pick_f (v := Value.bool (false)) rfl rfl rfl ?_)
                            refine WL_nil (at_normal ?_)
                            exact ⟨s43939, (PHeap.le_refl _), hS43941, p43928, p43929, rfl, (congrArg Value.bool (and_f hc43945)).symm⟩
                        · intro f43947 w43948 hM43949
                          obtain ⟨s43950, l43951, hS43952, p43953, p43954, p43955, p43956⟩ := hM43949
                          refine (at_normal ?_)
                          rcases ite_some hm with ⟨hc43957, hm⟩ | ⟨hc43957, hm⟩
                          · refine W_cond_t p43956 hc43957 ?_
                            refine W_seq ?_
                            refine W_mid (M := fun f' w' => ∃ (s43979 : PHeap) , PHeap.le s43950 s43979 ∧ St w0 s43979 (H) w' ∧ f' 147 = Value.bool (((!(base_Is_t (stn_Network_Add_nil_t (⟨(IntKind.i64.wrap at_5).tmod (IntKind.i64.wrap (1 + ((IntKind.i64.wrap n1).tmod 10))), 0, IntKind.i64.wrap ((IntKind.i64.wrap (0 - ((stn_Network_Latest_nil_t ((IntKind.i64.wrap at_5).tmod (IntKind.i64.wrap (1 + ((IntKind.i64.wrap n1).tmod 10))))).1))) - 1)⟩ : Bound)) 21)) || (stn_Network_Add_nil_t (⟨(IntKind.i64.wrap at_5).tmod (IntKind.i64.wrap (1 + ((IntKind.i64.wrap n1).tmod 10))), 0, IntKind.i64.wrap (0 - ((stn_Network_Latest_nil_t ((IntKind.i64.wrap at_5).tmod (IntKind.i64.wrap (1 + ((IntKind.i64.wrap n1).tmod 10))))).1))⟩ : Bound)).isSome))) ?_ ?_
                            · refine W_region ?_
                              refine WL_step rfl rfl (Exec.move (v := Value.pointer none) rfl p43953 ?_)
                              refine WL_step rfl rfl (Exec.call rfl rfl Try.func21 rfl N21 (args_cons rfl args_nil) ((stn_Network_Copy_nil_sim stn_Network_Copy_nil_tot hS43952 ).mono ?_))
                              rintro _ w43980 ⟨_, rfl, ⟨s43981, l43982, hS43983, rfl⟩⟩
                              refine ⟨_, rfl, ?_⟩
                              refine WL_step rfl rfl (Exec.move (v := Value.int .i64 ((IntKind.i64.wrap at_5).tmod (IntKind.i64.wrap (1 + ((IntKind.i64.wrap n1).tmod 10))))) rfl p43954 ?_)
                              refine WL_step rfl rfl (Exec.move (v := Value.int .i64 ((stn_Network_Latest_nil_t ((IntKind.i64.wrap at_5).tmod (IntKind.i64.wrap (1 + ((IntKind.i64.wrap n1).tmod 10))))).1)) rfl p43955 ?_)
                              refine WL_step rfl rfl (Exec.neg rfl rfl ?_)
                              refine WL_step rfl rfl (Exec.sub rfl rfl rfl ?_)
                              refine WL_step rfl rfl (Exec.build rfl (parts_cons (c := [Value.int .i64 ((IntKind.i64.wrap at_5).tmod (IntKind.i64.wrap (1 + ((IntKind.i64.wrap n1).tmod 10))))]) (cells_of rfl rfl) (parts_cons (c := [Value.int .i64 (0)]) (cells_of rfl rfl) (parts_cons (c := [Value.int .i64 (IntKind.i64.wrap ((IntKind.i64.wrap (0 - ((stn_Network_Latest_nil_t ((IntKind.i64.wrap at_5).tmod (IntKind.i64.wrap (1 + ((IntKind.i64.wrap n1).tmod 10))))).1))) - 1))]) (cells_of rfl rfl) parts_nil))) (v := Value.agg #[Value.int .i64 ((IntKind.i64.wrap at_5).tmod (IntKind.i64.wrap (1 + ((IntKind.i64.wrap n1).tmod 10)))), Value.int .i64 (0), Value.int .i64 (IntKind.i64.wrap ((IntKind.i64.wrap (0 - ((stn_Network_Latest_nil_t ((IntKind.i64.wrap at_5).tmod (IntKind.i64.wrap (1 + ((IntKind.i64.wrap n1).tmod 10))))).1))) - 1))]) (fun _ => by kernel_rfl) ?_)
                              refine WL_step rfl rfl (Exec.call rfl rfl Try.func14 rfl N14 (args_cons rfl (args_cons rfl args_nil)) ((stn_Network_Add_nil_sim (stn_Network_Add_nil_tot (⟨(IntKind.i64.wrap at_5).tmod (IntKind.i64.wrap (1 + ((IntKind.i64.wrap n1).tmod 10))), 0, IntKind.i64.wrap ((IntKind.i64.wrap (0 - ((stn_Network_Latest_nil_t ((IntKind.i64.wrap at_5).tmod (IntKind.i64.wrap (1 + ((IntKind.i64.wrap n1).tmod 10))))).1))) - 1)⟩ : Bound)) hS43983 ).mono ?_))
                              rintro _ w43984 ⟨_, rfl, ⟨s43985, l43986, hS43987, rfl⟩⟩
                              refine ⟨_, rfl, ?_⟩
                              refine WL_step rfl rfl (Exec.call rfl rfl Try.func11 rfl N11 (args_cons rfl (args_cons rfl args_nil)) ((base_Is_sim (base_Is_tot (stn_Network_Add_nil_t (⟨(IntKind.i64.wrap at_5).tmod (IntKind.i64.wrap (1 + ((IntKind.i64.wrap n1).tmod 10))), 0, IntKind.i64.wrap ((IntKind.i64.wrap (0 - ((stn_Network_Latest_nil_t ((IntKind.i64.wrap at_5).tmod (IntKind.i64.wrap (1 + ((IntKind.i64.wrap n1).tmod 10))))).1))) - 1)⟩ : Bound)) 21) hS43987 ).mono ?_))
                              rintro _ w43988 ⟨_, rfl, ⟨s43989, l43990, hS43991, rfl⟩⟩
                              refine ⟨_, rfl, ?_⟩
                              refine WL_step rfl rfl (Exec.not rfl rfl ?_)
                              refine WL_step rfl rfl (Exec.move (v := Value.bool (!(base_Is_t (stn_Network_Add_nil_t (⟨(IntKind.i64.wrap at_5).tmod (IntKind.i64.wrap (1 + ((IntKind.i64.wrap n1).tmod 10))), 0, IntKind.i64.wrap ((IntKind.i64.wrap (0 - ((stn_Network_Latest_nil_t ((IntKind.i64.wrap at_5).tmod (IntKind.i64.wrap (1 + ((IntKind.i64.wrap n1).tmod 10))))).1))) - 1)⟩ : Bound)) 21))) rfl rfl ?_)
                              by_cases hc43992 : (!(base_Is_t (stn_Network_Add_nil_t (⟨(IntKind.i64.wrap at_5).tmod (IntKind.i64.wrap (1 + ((IntKind.i64.wrap n1).tmod 10))), 0, IntKind.i64.wrap ((IntKind.i64.wrap (0 - ((stn_Network_Latest_nil_t ((IntKind.i64.wrap at_5).tmod (IntKind.i64.wrap (1 + ((IntKind.i64.wrap n1).tmod 10))))).1))) - 1)⟩ : Bound)) 21)) = true
                              · refine WL_pass rfl (yield_of rfl (congrArg Value.bool hc43992)) rfl rfl ?_
                                refine WL_pass rfl (yield_of rfl (congrArg Value.bool hc43992)) rfl rfl ?_
                                refine WL_pass rfl (yield_of rfl (congrArg Value.bool hc43992)) rfl rfl ?_
                                refine WL_pass rfl (yield_of rfl (congrArg Value.bool hc43992)) rfl rfl ?_
                                refine WL_pass rfl (yield_of rfl (congrArg Value.bool hc43992)) rfl rfl ?_
                                refine WL_pass rfl (yield_of rfl (congrArg Value.bool hc43992)) rfl rfl ?_
                                refine WL_pass rfl (yield_of rfl (congrArg Value.bool hc43992)) rfl rfl ?_
                                refine WL_pass rfl (yield_of rfl (congrArg Value.bool hc43992)) rfl rfl ?_
                                refine WL_step rfl rfl (Exec.pick_t (v := Value.bool (true)) rfl (congrArg Value.bool hc43992) rfl ?_)
                                refine WL_nil (at_normal ?_)
                                exact ⟨s43989, (PHeap.le.trans (PHeap.le.trans l43982 l43986) l43990), hS43991, (congrArg Value.bool (or_t hc43992)).symm⟩
                              · replace hc43992 := not_true hc43992
                                refine WL_run rfl (yield_of rfl (congrArg Value.bool hc43992)) rfl (Exec.move (v := Value.pointer none) rfl p43953 ?_)
                                refine WL_run rfl (yield_of rfl (congrArg Value.bool hc43992)) rfl (Exec.call rfl rfl Try.func21 rfl N21 (args_cons rfl args_nil) ((stn_Network_Copy_nil_sim stn_Network_Copy_nil_tot hS43991 ).mono ?_))
                                rintro _ w43993 ⟨_, rfl, ⟨s43994, l43995, hS43996, rfl⟩⟩
                                refine ⟨_, rfl, ?_⟩
                                refine WL_run rfl (yield_of rfl (congrArg Value.bool hc43992)) rfl (Exec.move (v := Value.int .i64 ((IntKind.i64.wrap at_5).tmod (IntKind.i64.wrap (1 + ((IntKind.i64.wrap n1).tmod 10))))) rfl p43954 ?_)
                                refine WL_run rfl (yield_of rfl (congrArg Value.bool hc43992)) rfl (Exec.move (v := Value.int .i64 ((stn_Network_Latest_nil_t ((IntKind.i64.wrap at_5).tmod (IntKind.i64.wrap (1 + ((IntKind.i64.wrap n1).tmod 10))))).1)) rfl p43955 ?_)
                                refine WL_run rfl (yield_of rfl (congrArg Value.bool hc43992)) rfl (Exec.neg rfl rfl ?_)
                                refine WL_run rfl (yield_of rfl (congrArg Value.bool hc43992)) rfl (Exec.build rfl (parts_cons (c := [Value.int .i64 ((IntKind.i64.wrap at_5).tmod (IntKind.i64.wrap (1 + ((IntKind.i64.wrap n1).tmod 10))))]) (cells_of rfl rfl) (parts_cons (c := [Value.int .i64 (0)]) (cells_of rfl rfl) (parts_cons (c := [Value.int .i64 (IntKind.i64.wrap (0 - ((stn_Network_Latest_nil_t ((IntKind.i64.wrap at_5).tmod (IntKind.i64.wrap (1 + ((IntKind.i64.wrap n1).tmod 10))))).1)))]) (cells_of rfl rfl) parts_nil))) (v := Value.agg #[Value.int .i64 ((IntKind.i64.wrap at_5).tmod (IntKind.i64.wrap (1 + ((IntKind.i64.wrap n1).tmod 10)))), Value.int .i64 (0), Value.int .i64 (IntKind.i64.wrap (0 - ((stn_Network_Latest_nil_t ((IntKind.i64.wrap at_5).tmod (IntKind.i64.wrap (1 + ((IntKind.i64.wrap n1).tmod 10))))).1)))]) (fun _ => by kernel_rfl) ?_)
                                refine WL_run rfl (yield_of rfl (congrArg Value.bool hc43992)) rfl (Exec.call rfl rfl Try.func14 rfl N14 (args_cons rfl (args_cons rfl args_nil)) ((stn_Network_Add_nil_sim (stn_Network_Add_nil_tot (⟨(IntKind.i64.wrap at_5).tmod (IntKind.i64.wrap (1 + ((IntKind.i64.wrap n1).tmod 10))), 0, IntKind.i64.wrap (0 - ((stn_Network_Latest_nil_t ((IntKind.i64.wrap at_5).tmod (IntKind.i64.wrap (1 + ((IntKind.i64.wrap n1).tmod 10))))).1))⟩ : Bound)) hS43996 ).mono ?_))
                                rintro _ w43997 ⟨_, rfl, ⟨s43998, l43999, hS44000, rfl⟩⟩
                                refine ⟨_, rfl, ?_⟩
                                refine WL_run rfl (yield_of rfl (congrArg Value.bool hc43992)) rfl (Exec.err_neq_nil (T := 30) Try.underlying26 rfl rfl rfl ?_)
                                refine WL_step rfl rfl (Exec.pick_f (v := Value.bool ((stn_Network_Add_nil_t (⟨(IntKind.i64.wrap at_5).tmod (IntKind.i64.wrap (1 + ((IntKind.i64.wrap n1).tmod 10))), 0, IntKind.i64.wrap (0 - ((stn_Network_Latest_nil_t ((IntKind.i64.wrap at_5).tmod (IntKind.i64.wrap (1 + ((IntKind.i64.wrap n1).tmod 10))))).1))⟩ : Bound)).isSome)) rfl (congrArg Value.bool hc43992) rfl ?_)
                                refine WL_nil (at_normal ?_)
                                exact ⟨s43998, (PHeap.le.trans (PHeap.le.trans (PHeap.le.trans (PHeap.le.trans l43982 l43986) l43990) l43995) l43999), hS44000, (congrArg Value.bool (or_f hc43992)).symm⟩
                            · intro f44001 w44002 hM44003
                              obtain ⟨s44004, l44005, hS44006, p44007⟩ := hM44003
                              refine (at_normal ?_)
                              rcases ite_some hm with ⟨hc44008, hm⟩ | ⟨hc44008, hm⟩
                              · refine W_cond_t p44007 hc44008 ?_
                                refine W_seq ?_
                                refine W_region ?_
                                refine WL_step rfl rfl (Exec.assign (v := Value.bool (false)) rfl rfl ?_)
                                refine WL_nil (at_normal ?_)
                                refine W_ret (at_ret ?_)
                                have e44010 := Option.some.inj hm
                                subst r
                                refine ⟨_, ret1 rfl, ?_⟩
                                exact ⟨s44004, (PHeap.le.trans (PHeap.le.trans (PHeap.le.trans (PHeap.le.trans (PHeap.le.trans (PHeap.le.trans (PHeap.le.trans (PHeap.le.trans (PHeap.le.trans (PHeap.le.trans l42475 l42531) l43808) l43823) l43842) l43861) l43872) l43926) l43940) l43951) l44005), hS44006, rfl⟩
                              · refine W_cond_f p44007 hc44008 ?_
                                replace hc44008 := not_true hc44008
                                refine W_skip (at_normal ?_)
                                refine W_seq ?_
                                refine W_region ?_
                                refine WL_step rfl rfl (Exec.assign (v := Value.bool (true)) rfl rfl ?_)
                                refine WL_nil (at_normal ?_)
                                refine W_ret ?_
                                have e44012 := Option.some.inj hm
                                subst r
                                refine ⟨_, ret1 rfl, ?_⟩
                                exact ⟨s44004, (PHeap.le.trans (PHeap.le.trans (PHeap.le.trans (PHeap.le.trans (PHeap.le.trans (PHeap.le.trans (PHeap.le.trans (PHeap.le.trans (PHeap.le.trans (PHeap.le.trans l42475 l42531) l43808) l43823) l43842) l43861) l43872) l43926) l43940) l43951) l44005), hS44006, rfl⟩
                          · refine W_cond_f p43956 hc43957 ?_
                            replace hc43957 := not_true hc43957
                            refine W_skip (at_normal ?_)
                            refine W_seq ?_
                            refine W_region ?_
                            refine WL_step rfl rfl (Exec.assign (v := Value.bool (true)) rfl rfl ?_)
                            refine WL_nil (at_normal ?_)
                            refine W_ret ?_
                            have e44014 := Option.some.inj hm
                            subst r
                            refine ⟨_, ret1 rfl, ?_⟩
                            exact ⟨s43950, (PHeap.le.trans (PHeap.le.trans (PHeap.le.trans (PHeap.le.trans (PHeap.le.trans (PHeap.le.trans (PHeap.le.trans (PHeap.le.trans (PHeap.le.trans l42475 l42531) l43808) l43823) l43842) l43861) l43872) l43926) l43940) l43951), hS43952, rfl⟩
                  · refine W_cond_f p43877 hc43878 ?_
                    replace hc43878 := not_true hc43878
                    refine W_skip (at_normal ?_)
                    refine W_seq ?_
                    refine W_seq ?_
                    refine W_region ?_
                    refine WL_step rfl rfl (Exec.move (v := Value.pointer none) rfl p43874 ?_)
                    refine WL_step rfl rfl (Exec.move (v := Value.int .i64 ((IntKind.i64.wrap at_5).tmod (IntKind.i64.wrap (1 + ((IntKind.i64.wrap n1).tmod 10))))) rfl p43875 ?_)
                    refine WL_step rfl rfl (Exec.call rfl rfl Try.func17 rfl N17 (args_cons rfl (args_cons rfl args_nil)) ((stn_Network_Latest_nil_sim (stn_Network_Latest_nil_tot ((IntKind.i64.wrap at_5).tmod (IntKind.i64.wrap (1 + ((IntKind.i64.wrap n1).tmod 10))))) hS43873 ).mono ?_))
                    rintro _ w44019 ⟨_, rfl, ⟨s44020, l44021, hS44022, rfl⟩⟩
                    refine ⟨_, rfl, ?_⟩
                    refine WL_step rfl rfl (Exec.move (v := Value.tuple #[Value.int .i64 ((stn_Network_Latest_nil_t ((IntKind.i64.wrap at_5).tmod (IntKind.i64.wrap (1 + ((IntKind.i64.wrap n1).tmod 10))))).1), errV 30 ((stn_Network_Latest_nil_t ((IntKind.i64.wrap at_5).tmod (IntKind.i64.wrap (1 + ((IntKind.i64.wrap n1).tmod 10))))).2)]) rfl rfl ?_)
                    refine WL_step rfl rfl (Exec.extract (v := Value.int .i64 ((stn_Network_Latest_nil_t ((IntKind.i64.wrap at_5).tmod (IntKind.i64.wrap (1 + ((IntKind.i64.wrap n1).tmod 10))))).1)) rfl rfl rfl ?_)
                    refine WL_step rfl rfl (Exec.extract (v := errV 30 ((stn_Network_Latest_nil_t ((IntKind.i64.wrap at_5).tmod (IntKind.i64.wrap (1 + ((IntKind.i64.wrap n1).tmod 10))))).2)) rfl rfl rfl ?_)
                    refine WL_step rfl rfl (Exec.assign (v := Value.int .i64 ((stn_Network_Latest_nil_t ((IntKind.i64.wrap at_5).tmod (IntKind.i64.wrap (1 + ((IntKind.i64.wrap n1).tmod 10))))).1)) rfl rfl ?_)
                    refine WL_step rfl rfl (Exec.assign (v := errV 30 ((stn_Network_Latest_nil_t ((IntKind.i64.wrap at_5).tmod (IntKind.i64.wrap (1 + ((IntKind.i64.wrap n1).tmod 10))))).2)) rfl rfl ?_)
                    refine WL_nil (at_normal ?_)
                    refine W_seq ?_
                    refine W_mid (M := fun f' w' => ∃ (s44025 : PHeap) , PHeap.le s44020 s44025 ∧ St w0 s44025 (H) w' ∧ f' 8 = Value.pointer none ∧ f' 15 = Value.int .i64 ((IntKind.i64.wrap at_5).tmod (IntKind.i64.wrap (1 + ((IntKind.i64.wrap n1).tmod 10)))) ∧ f' 18 = Value.int .i64 ((stn_Network_Latest_nil_t ((IntKind.i64.wrap at_5).tmod (IntKind.i64.wrap (1 + ((IntKind.i64.wrap n1).tmod 10))))).1) ∧ f' 127 = Value.bool (((((stn_Network_Latest_nil_t ((IntKind.i64.wrap at_5).tmod (IntKind.i64.wrap (1 + ((IntKind.i64.wrap n1).tmod 10))))).2).isNone) && ((decide ((-1099511627776) < ((stn_Network_Latest_nil_t ((IntKind.i64.wrap at_5).tmod (IntKind.i64.wrap (1 + ((IntKind.i64.wrap n1).tmod 10))))).1))) && decide (((stn_Network_Latest_nil_t ((IntKind.i64.wrap at_5).tmod (IntKind.i64.wrap (1 + ((IntKind.i64.wrap n1).tmod 10))))).1) < 1099511627776))))) ?_ ?_
                    · refine W_region ?_
                      refine WL_step rfl rfl (Exec.move (v := errV 30 ((stn_Network_Latest_nil_t ((IntKind.i64.wrap at_5).tmod (IntKind.i64.wrap (1 + ((IntKind.i64.wrap n1).tmod 10))))).2)) rfl rfl ?_)
                      refine WL_step rfl rfl (Exec.err_eql_nil (T := 30) Try.underlying26 rfl rfl rfl ?_)
                      refine WL_step rfl rfl (Exec.move (v := Value.bool (((stn_Network_Latest_nil_t ((IntKind.i64.wrap at_5).tmod (IntKind.i64.wrap (1 + ((IntKind.i64.wrap n1).tmod 10))))).2).isNone)) rfl rfl ?_)
                      by_cases hc44026 : (((stn_Network_Latest_nil_t ((IntKind.i64.wrap at_5).tmod (IntKind.i64.wrap (1 + ((IntKind.i64.wrap n1).tmod 10))))).2).isNone) = true
                      · refine WL_run rfl (yield_of rfl (congrArg Value.bool hc44026)) rfl (Exec.move (v := Value.int .i64 ((stn_Network_Latest_nil_t ((IntKind.i64.wrap at_5).tmod (IntKind.i64.wrap (1 + ((IntKind.i64.wrap n1).tmod 10))))).1)) rfl rfl ?_)
                        refine WL_run rfl (yield_of rfl (congrArg Value.bool hc44026)) rfl (Exec.gtr rfl rfl rfl ?_)
                        refine WL_step rfl rfl (Exec.pick_t (v := Value.bool (decide ((-1099511627776) < ((stn_Network_Latest_nil_t ((IntKind.i64.wrap at_5).tmod (IntKind.i64.wrap (1 + ((IntKind.i64.wrap n1).tmod 10))))).1)))) rfl (congrArg Value.bool hc44026) rfl ?_)
                        refine WL_step rfl rfl (Exec.move (v := Value.bool (decide ((-1099511627776) < ((stn_Network_Latest_nil_t ((IntKind.i64.wrap at_5).tmod (IntKind.i64.wrap (1 + ((IntKind.i64.wrap n1).tmod 10))))).1)))) rfl rfl ?_)
                        by_cases hc44027 : (decide ((-1099511627776) < ((stn_Network_Latest_nil_t ((IntKind.i64.wrap at_5).tmod (IntKind.i64.wrap (1 + ((IntKind.i64.wrap n1).tmod 10))))).1))) = true
                        · refine WL_run rfl (yield_of rfl (congrArg Value.bool hc44027)) rfl (Exec.move (v := Value.int .i64 ((stn_Network_Latest_nil_t ((IntKind.i64.wrap at_5).tmod (IntKind.i64.wrap (1 + ((IntKind.i64.wrap n1).tmod 10))))).1)) rfl rfl ?_)
                          refine WL_run rfl (yield_of rfl (congrArg Value.bool hc44027)) rfl (Exec.lss rfl rfl rfl ?_)
                          refine WL_step rfl rfl (Exec.pick_t (v := Value.bool (decide (((stn_Network_Latest_nil_t ((IntKind.i64.wrap at_5).tmod (IntKind.i64.wrap (1 + ((IntKind.i64.wrap n1).tmod 10))))).1) < 1099511627776))) rfl (congrArg Value.bool hc44027) rfl ?_)
                          refine WL_nil (at_normal ?_)
                          exact ⟨s44020, (PHeap.le_refl _), hS44022, p43874, p43875, rfl, (congrArg Value.bool (Eq.trans (and_t hc44026) (and_t hc44027))).symm⟩
                        · replace hc44027 := not_true hc44027
                          refine WL_pass rfl (yield_of rfl (congrArg Value.bool hc44027)) rfl rfl ?_
                          refine WL_pass rfl (yield_of rfl (congrArg Value.bool hc44027)) rfl rfl ?_
                          refine WL_step rfl rfl (Exec.pick_f (v := Value.bool (false)) rfl (congrArg Value.bool hc44027) rfl ?_)
                          refine WL_nil (at_normal ?_)
                          exact ⟨s44020, (PHeap.le_refl _), hS44022, p43874, p43875, rfl, (congrArg Value.bool (Eq.trans (and_t hc44026) (and_f hc44027))).symm⟩
                      · replace hc44026 := not_true hc44026
                        refine WL_pass rfl (yield_of rfl (congrArg Value.bool hc44026)) rfl rfl ?_
                        refine WL_pass rfl (yield_of rfl (congrArg Value.bool hc44026)) rfl rfl ?_
                        refine WL_step rfl rfl (Exec.pick_f (v := Value.bool (false)) rfl (congrArg Value.bool hc44026) rfl ?_)
                        refine WL_step rfl rfl (Exec.move (v := Value.bool (false)) rfl rfl ?_)
                        refine WL_pass rfl (yield_of rfl rfl) rfl rfl ?_
                        refine WL_pass rfl (yield_of rfl rfl) rfl rfl ?_
                        refine WL_step rfl rfl (Exec.pick_f (v := Value.bool (false)) rfl rfl rfl ?_)
                        refine WL_nil (at_normal ?_)
                        exact ⟨s44020, (PHeap.le_refl _), hS44022, p43874, p43875, rfl, (congrArg Value.bool (and_f hc44026)).symm⟩
                    · intro f44028 w44029 hM44030
                      obtain ⟨s44031, l44032, hS44033, p44034, p44035, p44036, p44037⟩ := hM44030
                      refine (at_normal ?_)
                      rcases ite_some hm with ⟨hc44038, hm⟩ | ⟨hc44038, hm⟩
                      · refine W_cond_t p44037 hc44038 ?_
                        refine W_seq ?_
                        refine W_mid (M := fun f' w' => ∃ (s44060 : PHeap) , PHeap.le s44031 s44060 ∧ St w0 s44060 (H) w' ∧ f' 147 = Value.bool (((!(base_Is_t (stn_Network_Add_nil_t (⟨(IntKind.i64.wrap at_5).tmod (IntKind.i64.wrap (1 + ((IntKind.i64.wrap n1).tmod 10))), 0, IntKind.i64.wrap ((IntKind.i64.wrap (0 - ((stn_Network_Latest_nil_t ((IntKind.i64.wrap at_5).tmod (IntKind.i64.wrap (1 + ((IntKind.i64.wrap n1).tmod 10))))).1))) - 1)⟩ : Bound)) 21)) || (stn_Network_Add_nil_t (⟨(IntKind.i64.wrap at_5).tmod (IntKind.i64.wrap (1 + ((IntKind.i64.wrap n1).tmod 10))), 0, IntKind.i64.wrap (0 - ((stn_Network_Latest_nil_t ((IntKind.i64.wrap at_5).tmod (IntKind.i64.wrap (1 + ((IntKind.i64.wrap n1).tmod 10))))).1))⟩ : Bound)).isSome))) ?_ ?_
                        · refine W_region ?_
                          refine WL_step rfl rfl (Exec.move (v := Value.pointer none) rfl p44034 ?_)
                          refine WL_step rfl rfl (Exec.call rfl rfl Try.func21 rfl N21 (args_cons rfl args_nil) ((stn_Network_Copy_nil_sim stn_Network_Copy_nil_tot hS44033 ).mono ?_))
                          rintro _ w44061 ⟨_, rfl, ⟨s44062, l44063, hS44064, rfl⟩⟩
                          refine ⟨_, rfl, ?_⟩
                          refine WL_step rfl rfl (Exec.move (v := Value.int .i64 ((IntKind.i64.wrap at_5).tmod (IntKind.i64.wrap (1 + ((IntKind.i64.wrap n1).tmod 10))))) rfl p44035 ?_)
                          refine WL_step rfl rfl (Exec.move (v := Value.int .i64 ((stn_Network_Latest_nil_t ((IntKind.i64.wrap at_5).tmod (IntKind.i64.wrap (1 + ((IntKind.i64.wrap n1).tmod 10))))).1)) rfl p44036 ?_)
                          refine WL_step rfl rfl (Exec.neg rfl rfl ?_)
                          refine WL_step rfl rfl (Exec.sub rfl rfl rfl ?_)
                          refine WL_step rfl rfl (Exec.build rfl (parts_cons (c := [Value.int .i64 ((IntKind.i64.wrap at_5).tmod (IntKind.i64.wrap (1 + ((IntKind.i64.wrap n1).tmod 10))))]) (cells_of rfl rfl) (parts_cons (c := [Value.int .i64 (0)]) (cells_of rfl rfl) (parts_cons (c := [Value.int .i64 (IntKind.i64.wrap ((IntKind.i64.wrap (0 - ((stn_Network_Latest_nil_t ((IntKind.i64.wrap at_5).tmod (IntKind.i64.wrap (1 + ((IntKind.i64.wrap n1).tmod 10))))).1))) - 1))]) (cells_of rfl rfl) parts_nil))) (v := Value.agg #[Value.int .i64 ((IntKind.i64.wrap at_5).tmod (IntKind.i64.wrap (1 + ((IntKind.i64.wrap n1).tmod 10)))), Value.int .i64 (0), Value.int .i64 (IntKind.i64.wrap ((IntKind.i64.wrap (0 - ((stn_Network_Latest_nil_t ((IntKind.i64.wrap at_5).tmod (IntKind.i64.wrap (1 + ((IntKind.i64.wrap n1).tmod 10))))).1))) - 1))]) (fun _ => by kernel_rfl) ?_)
                          refine WL_step rfl rfl (Exec.call rfl rfl Try.func14 rfl N14 (args_cons rfl (args_cons rfl args_nil)) ((stn_Network_Add_nil_sim (stn_Network_Add_nil_tot (⟨(IntKind.i64.wrap at_5).tmod (IntKind.i64.wrap (1 + ((IntKind.i64.wrap n1).tmod 10))), 0, IntKind.i64.wrap ((IntKind.i64.wrap (0 - ((stn_Network_Latest_nil_t ((IntKind.i64.wrap at_5).tmod (IntKind.i64.wrap (1 + ((IntKind.i64.wrap n1).tmod 10))))).1))) - 1)⟩ : Bound)) hS44064 ).mono ?_))
                          rintro _ w44065 ⟨_, rfl, ⟨s44066, l44067, hS44068, rfl⟩⟩
                          refine ⟨_, rfl, ?_⟩
                          refine WL_step rfl rfl (Exec.call rfl rfl Try.func11 rfl N11 (args_cons rfl (args_cons rfl args_nil)) ((base_Is_sim (base_Is_tot (stn_Network_Add_nil_t (⟨(IntKind.i64.wrap at_5).tmod (IntKind.i64.wrap (1 + ((IntKind.i64.wrap n1).tmod 10))), 0, IntKind.i64.wrap ((IntKind.i64.wrap (0 - ((stn_Network_Latest_nil_t ((IntKind.i64.wrap at_5).tmod (IntKind.i64.wrap (1 + ((IntKind.i64.wrap n1).tmod 10))))).1))) - 1)⟩ : Bound)) 21) hS44068 ).mono ?_))
                          rintro _ w44069 ⟨_, rfl, ⟨s44070, l44071, hS44072, rfl⟩⟩
                          refine ⟨_, rfl, ?_⟩
                          refine WL_step rfl rfl (Exec.not rfl rfl ?_)
                          refine WL_step rfl rfl (Exec.move (v := Value.bool (!(base_Is_t (stn_Network_Add_nil_t (⟨(IntKind.i64.wrap at_5).tmod (IntKind.i64.wrap (1 + ((IntKind.i64.wrap n1).tmod 10))), 0, IntKind.i64.wrap ((IntKind.i64.wrap (0 - ((stn_Network_Latest_nil_t ((IntKind.i64.wrap at_5).tmod (IntKind.i64.wrap (1 + ((IntKind.i64.wrap n1).tmod 10))))).1))) - 1)⟩ : Bound)) 21))) rfl rfl ?_)
                          by_cases hc44073 : (!(base_Is_t (stn_Network_Add_nil_t (⟨(IntKind.i64.wrap at_5).tmod (IntKind.i64.wrap (1 + ((IntKind.i64.wrap n1).tmod 10))), 0, IntKind.i64.wrap ((IntKind.i64.wrap (0 - ((stn_Network_Latest_nil_t ((IntKind.i64.wrap at_5).tmod (IntKind.i64.wrap (1 + ((IntKind.i64.wrap n1).tmod 10))))).1))) - 1)⟩ : Bound)) 21)) = true
                          · refine WL_pass rfl (yield_of rfl (congrArg Value.bool hc44073)) rfl rfl ?_
                            refine WL_pass rfl (yield_of rfl (congrArg Value.bool hc44073)) rfl rfl ?_
                            refine WL_pass rfl (yield_of rfl (congrArg Value.bool hc44073)) rfl rfl ?_
                            refine WL_pass rfl (yield_of rfl (congrArg Value.bool hc44073)) rfl rfl ?_
                            refine WL_pass rfl (yield_of rfl (congrArg Value.bool hc44073)) rfl rfl ?_
                            refine WL_pass rfl (yield_of rfl (congrArg Value.bool hc44073)) rfl rfl ?_
                            refine WL_pass rfl (yield_of rfl (congrArg Value.bool hc44073)) rfl rfl ?_
                            refine WL_pass rfl (yield_of rfl (congrArg Value.bool hc44073)) rfl rfl ?_
                            refine WL_step rfl rfl (Exec.pick_t (v := Value.bool (true)) rfl (congrArg Value.bool hc44073) rfl ?_)
                            refine WL_nil (at_normal ?_)
                            exact ⟨s44070, (PHeap.le.trans (PHeap.le.trans l44063 l44067) l44071), hS44072, (congrArg Value.bool (or_t hc44073)).symm⟩
                          · replace hc44073 := not_true hc44073
                            refine WL_run rfl (yield_of rfl (congrArg Value.bool hc44073)) rfl (Exec.move (v := Value.pointer none) rfl p44034 ?_)
                            refine WL_run rfl (yield_of rfl (congrArg Value.bool hc44073)) rfl (Exec.call rfl rfl Try.func21 rfl N21 (args_cons rfl args_nil) ((stn_Network_Copy_nil_sim stn_Network_Copy_nil_tot hS44072 ).mono ?_))
                            rintro _ w44074 ⟨_, rfl, ⟨s44075, l44076, hS44077, rfl⟩⟩
                            refine ⟨_, rfl, ?_⟩
                            refine WL_run rfl (yield_of rfl (congrArg Value.bool hc44073)) rfl (Exec.move (v := Value.int .i64 ((IntKind.i64.wrap at_5).tmod (IntKind.i64.wrap (1 + ((IntKind.i64.wrap n1).tmod 10))))) rfl p44035 ?_)
                            refine WL_run rfl (yield_of rfl (congrArg Value.bool hc44073)) rfl (Exec.move (v := Value.int .i64 ((stn_Network_Latest_nil_t ((IntKind.i64.wrap at_5).tmod (IntKind.i64.wrap (1 + ((IntKind.i64.wrap n1).tmod 10))))).1)) rfl p44036 ?_)
                            refine WL_run rfl (yield_of rfl (congrArg Value.bool hc44073)) rfl (Exec.neg rfl rfl ?_)
                            refine WL_run rfl (yield_of rfl (congrArg Value.bool hc44073)) rfl (Exec.build rfl (parts_cons (c := [Value.int .i64 ((IntKind.i64.wrap at_5).tmod (IntKind.i64.wrap (1 + ((IntKind.i64.wrap n1).tmod 10))))]) (cells_of rfl rfl) (parts_cons (c := [Value.int .i64 (0)]) (cells_of rfl rfl) (parts_cons (c := [Value.int .i64 (IntKind.i64.wrap (0 - ((stn_Network_Latest_nil_t ((IntKind.i64.wrap at_5).tmod (IntKind.i64.wrap (1 + ((IntKind.i64.wrap n1).tmod 10))))).1)))]) (cells_of rfl rfl) parts_nil))) (v := Value.agg #[Value.int .i64 ((IntKind.i64.wrap at_5).tmod (IntKind.i64.wrap (1 + ((IntKind.i64.wrap n1).tmod 10)))), Value.int .i64 (0), Value.int .i64 (IntKind.i64.wrap (0 - ((stn_Network_Latest_nil_t ((IntKind.i64.wrap at_5).tmod (IntKind.i64.wrap (1 + ((IntKind.i64.wrap n1).tmod 10))))).1)))]) (fun _ => by kernel_rfl) ?_)
                            refine WL_run rfl (yield_of rfl (congrArg Value.bool hc44073)) rfl (Exec.call rfl rfl Try.func14 rfl N14 (args_cons rfl (args_cons rfl args_nil)) ((stn_Network_Add_nil_sim (stn_Network_Add_nil_tot (⟨(IntKind.i64.wrap at_5).tmod (IntKind.i64.wrap (1 + ((IntKind.i64.wrap n1).tmod 10))), 0, IntKind.i64.wrap (0 - ((stn_Network_Latest_nil_t ((IntKind.i64.wrap at_5).tmod (IntKind.i64.wrap (1 + ((IntKind.i64.wrap n1).tmod 10))))).1))⟩ : Bound)) hS44077 ).mono ?_))
                            rintro _ w44078 ⟨_, rfl, ⟨s44079, l44080, hS44081, rfl⟩⟩
                            refine ⟨_, rfl, ?_⟩
                            refine WL_run rfl (yield_of rfl (congrArg Value.bool hc44073)) rfl (Exec.err_neq_nil (T := 30) Try.underlying26 rfl rfl rfl ?_)
                            refine WL_step rfl rfl (Exec.pick_f (v := Value.bool ((stn_Network_Add_nil_t (⟨(IntKind.i64.wrap at_5).tmod (IntKind.i64.wrap (1 + ((IntKind.i64.wrap n1).tmod 10))), 0, IntKind.i64.wrap (0 - ((stn_Network_Latest_nil_t ((IntKind.i64.wrap at_5).tmod (IntKind.i64.wrap (1 + ((IntKind.i64.wrap n1).tmod 10))))).1))⟩ : Bound)).isSome)) rfl (congrArg Value.bool hc44073) rfl ?_)
                            refine WL_nil (at_normal ?_)
                            exact ⟨s44079, (PHeap.le.trans (PHeap.le.trans (PHeap.le.trans (PHeap.le.trans l44063 l44067) l44071) l44076) l44080), hS44081, (congrArg Value.bool (or_f hc44073)).symm⟩
                        · intro f44082 w44083 hM44084
                          obtain ⟨s44085, l44086, hS44087, p44088⟩ := hM44084
                          refine (at_normal ?_)
                          rcases ite_some hm with ⟨hc44089, hm⟩ | ⟨hc44089, hm⟩
                          · refine W_cond_t p44088 hc44089 ?_
                            refine W_seq ?_
                            refine W_region ?_
                            refine WL_step rfl rfl (Exec.assign (v := Value.bool (false)) rfl rfl ?_)
                            refine WL_nil (at_normal ?_)
                            refine W_ret (at_ret ?_)
                            have e44091 := Option.some.inj hm
                            subst r
                            refine ⟨_, ret1 rfl, ?_⟩
                            exact ⟨s44085, (PHeap.le.trans (PHeap.le.trans (PHeap.le.trans (PHeap.le.trans (PHeap.le.trans (PHeap.le.trans (PHeap.le.trans (PHeap.le.trans (PHeap.le.trans l42475 l42531) l43808) l43823) l43842) l43861) l43872) l44021) l44032) l44086), hS44087, rfl⟩
                          · refine W_cond_f p44088 hc44089 ?_
                            replace hc44089 := not_true hc44089
                            refine W_skip (at_normal ?_)
                            refine W_seq ?_
                            refine W_region ?_
                            refine WL_step rfl rfl (Exec.assign (v := Value.bool (true)) rfl rfl ?_)
                            refine WL_nil (at_normal ?_)
                            refine W_ret ?_
                            have e44093 := Option.some.inj hm
                            subst r
                            refine ⟨_, ret1 rfl, ?_⟩
                            exact ⟨s44085, (PHeap.le.trans (PHeap.le.trans (PHeap.le.trans (PHeap.le.trans (PHeap.le.trans (PHeap.le.trans (PHeap.le.trans (PHeap.le.trans (PHeap.le.trans l42475 l42531) l43808) l43823) l43842) l43861) l43872) l44021) l44032) l44086), hS44087, rfl⟩
                      · refine W_cond_f p44037 hc44038 ?_
                        replace hc44038 := not_true hc44038
                        refine W_skip (at_normal ?_)
                        refine W_seq ?_
                        refine W_region ?_
                        refine WL_step rfl rfl (Exec.assign (v := Value.bool (true)) rfl rfl ?_)
                        refine WL_nil (at_normal ?_)
                        refine W_ret ?_
                        have e44095 := Option.some.inj hm
                        subst r
                        refine ⟨_, ret1 rfl, ?_⟩
                        exact ⟨s44031, (PHeap.le.trans (PHeap.le.trans (PHeap.le.trans (PHeap.le.trans (PHeap.le.trans (PHeap.le.trans (PHeap.le.trans (PHeap.le.trans l42475 l42531) l43808) l43823) l43842) l43861) l43872) l44021) l44032), hS44033, rfl⟩

end Go.Pw
