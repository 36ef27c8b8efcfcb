/-
  The walks (printed by my generator).
-/
import Derived.Test.YtagooehmocpcjaaDoorSb4
set_option maxRecDepth 100000
set_option maxHeartbeats 4000000
set_option linter.unusedVariables false
namespace Go.Pw
open Go.Proofs
theorem law45_ShrinkSizes_sim {w0 w : World} {s : PHeap} {H : List Res} {x1 : System} {most8 : Int} {v2 : Value} {v4 : Value} {v6 : Value} {r : Bool} (hm : law45_ShrinkSizes_p x1 most8 = some r) (hS : St w0 s (H) w) (a3 : SliceRep (encInt .i64) s v2 x1.Costs) (a5 : SliceRep encEdge s v4 x1.Edges) (a7 : SliceRep encBool s v6 x1.Goals) :
  Calls Tryd.prog 7 #[Value.agg #[Value.int .i64 (x1.States), Value.int .i64 (x1.Init), v2, v4, v6], Value.int .u8 (most8)] w fun e w' => ∃ v, e = .returned v ∧ ((fun (y100 : Bool) => ∃ (s100 : PHeap) , PHeap.le s s100 ∧ St w0 s100 (H) w' ∧ v = Value.bool (y100)) r) := by
 unfold law45_ShrinkSizes_p at hm
 refine calls_of_W Tryd.func7 rfl rfl ?_
 refine W_seq ?_
 refine W_region ?_
 refine WL_step rfl rfl (Exec.box (cs := [Value.int .i64 (x1.States), Value.int .i64 (x1.Init), v2, v4, v6]) hS rfl rfl rfl ?_)
 intro b100 w100 hS100
 refine WL_step rfl rfl (Exec.assign (v := Value.bool (false)) rfl rfl ?_)
 refine WL_nil (at_normal ?_)
 refine W_seq ?_
 refine W_seq ?_
 obtain ⟨z100, ht100, hm⟩ := bind_some hm
 refine W_mid (M := fun f' w' => (fun (z100 : Bool) => ∃ (s101 : PHeap) , PHeap.le s s101 ∧ St w0 s101 (Res.box b100 26 [Value.int .i64 (x1.States), Value.int .i64 (x1.Init), v2, v4, v6] :: H) w' ∧ f' 1 = Value.int .u8 (most8) ∧ f' 2 = Value.pointer (some ⟨b100, 0, none⟩) ∧ f' 22 = Value.bool (z100)) z100) ?_ ?_
 ·refine W_region ?_
  obtain ⟨y101, q100, ht100⟩ := bind_some ht100
  refine WL_step rfl rfl (Exec.call rfl rfl Tryd.func10 rfl N10 args_nil ((law45_awake_sim q100 hS100 ).mono ?_))
  rintro _ w101 ⟨_, rfl, ⟨s102, l100, hS101, rfl⟩⟩
  refine ⟨_, rfl, ?_⟩
  refine WL_step rfl rfl (Exec.not rfl rfl ?_)
  refine WL_step rfl rfl (Exec.move (v := Value.bool (!y101)) rfl rfl ?_)
  rcases ite_some ht100 with ⟨hc100, ht100⟩ | ⟨hc100, ht100⟩
  ·refine WL_pass rfl (yield_of rfl (congrArg Value.bool hc100)) rfl rfl ?_
   refine WL_pass rfl (yield_of rfl (congrArg Value.bool hc100)) rfl rfl ?_
   refine WL_step rfl rfl (Exec.pick_t (v := Value.bool (true)) rfl (congrArg Value.bool hc100) rfl ?_)
   refine WL_step rfl rfl (Exec.move (v := Value.bool (true)) rfl rfl ?_)
   refine WL_pass rfl (yield_of rfl rfl) rfl rfl ?_
   refine WL_pass rfl (yield_of rfl rfl) rfl rfl ?_
   refine WL_pass rfl (yield_of rfl rfl) rfl rfl ?_
   refine WL_step rfl rfl (Exec.pick_t (v := Value.bool (true)) rfl rfl rfl ?_)
   refine WL_nil (at_normal ?_)
   have e100 := Option.some.inj ht100
   subst z100
   exact ⟨s102, l100, hS101, rfl, rfl, rfl⟩
  ·replace hc100 := not_true hc100
   refine WL_run rfl (yield_of rfl (congrArg Value.bool hc100)) rfl (Exec.load_box_agg (ds := [Value.int .i64 (x1.States), Value.int .i64 (x1.Init), v2, v4, v6]) (hS101) A26 rfl rfl rfl ?_)
   obtain ⟨y102, q101, ht100⟩ := bind_some ht100
   refine WL_run rfl (yield_of rfl (congrArg Value.bool hc100)) rfl (Exec.call rfl rfl Tryd.func11 rfl N11 (args_cons rfl args_nil) ((law45_large_sim q101 hS101 (a3.mono l100) (a5.mono l100) (a7.mono l100)).mono ?_))
   rintro _ w102 ⟨_, rfl, ⟨s103, l101, hS102, rfl⟩⟩
   refine ⟨_, rfl, ?_⟩
   refine WL_step rfl rfl (Exec.pick_f (v := Value.bool (y102)) rfl (congrArg Value.bool hc100) rfl ?_)
   refine WL_step rfl rfl (Exec.move (v := Value.bool (y102)) rfl rfl ?_)
   rcases ite_some ht100 with ⟨hc101, ht100⟩ | ⟨hc101, ht100⟩
   ·refine WL_pass rfl (yield_of rfl (congrArg Value.bool hc101)) rfl rfl ?_
    refine WL_pass rfl (yield_of rfl (congrArg Value.bool hc101)) rfl rfl ?_
    refine WL_pass rfl (yield_of rfl (congrArg Value.bool hc101)) rfl rfl ?_
    refine WL_step rfl rfl (Exec.pick_t (v := Value.bool (true)) rfl (congrArg Value.bool hc101) rfl ?_)
    refine WL_nil (at_normal ?_)
    have e101 := Option.some.inj ht100
    subst z100
    exact ⟨s103, (PHeap.le.trans l100 l101), hS102, rfl, rfl, rfl⟩
   ·replace hc101 := not_true hc101
    refine WL_run rfl (yield_of rfl (congrArg Value.bool hc101)) rfl (Exec.load_box_agg (ds := [Value.int .i64 (x1.States), Value.int .i64 (x1.Init), v2, v4, v6]) (hS102) A26 rfl rfl rfl ?_)
    obtain ⟨y103, q102, ht100⟩ := bind_some ht100
    refine WL_run rfl (yield_of rfl (congrArg Value.bool hc101)) rfl (Exec.call rfl rfl Tryd.func22 rfl N22 (args_cons rfl args_nil) ((transys_Valid_sim q102 hS102 (a3.mono (PHeap.le.trans l100 l101)) (a5.mono (PHeap.le.trans l100 l101)) (a7.mono (PHeap.le.trans l100 l101))).mono ?_))
    rintro _ w103 ⟨_, rfl, ⟨s104, l102, hS103, rfl⟩⟩
    refine ⟨_, rfl, ?_⟩
    refine WL_run rfl (yield_of rfl (congrArg Value.bool hc101)) rfl (Exec.not rfl rfl ?_)
    refine WL_step rfl rfl (Exec.pick_f (v := Value.bool (!y103)) rfl (congrArg Value.bool hc101) rfl ?_)
    refine WL_nil (at_normal ?_)
    have e102 := Option.some.inj ht100
    subst z100
    exact ⟨s104, (PHeap.le.trans (PHeap.le.trans l100 l101) l102), hS103, rfl, rfl, rfl⟩
 ·intro f100 w104 hM100
  obtain ⟨s105, l103, hS104, p100, p101, p102⟩ := hM100
  refine (at_normal ?_)
  rcases ite_some hm with ⟨hc102, hm⟩ | ⟨hc102, hm⟩
  ·refine W_cond_t p102 hc102 ?_
   refine W_seq ?_
   refine W_region ?_
   obtain ⟨y104, q103, hm⟩ := bind_some hm
   refine WL_step rfl rfl (Exec.call rfl rfl Tryd.func10 rfl N10 args_nil ((law45_awake_sim q103 hS104 ).mono ?_))
   rintro _ w105 ⟨_, rfl, ⟨s106, l104, hS105, rfl⟩⟩
   refine ⟨_, rfl, ?_⟩
   refine WL_step rfl rfl (Exec.assign (v := Value.bool (y104)) rfl rfl ?_)
   refine WL_nil (at_normal ?_)
   refine W_ret (at_ret ?_)
   have e103 := Option.some.inj hm
   subst r
   refine ⟨_, ret1 rfl, ?_⟩
   have hS106 := (hS105).drop
   exact ⟨s106, (PHeap.le.trans l103 l104), hS106, rfl⟩
  ·refine W_cond_f p102 hc102 ?_
   replace hc102 := not_true hc102
   refine W_skip (at_normal ?_)
   refine W_seq ?_
   refine W_region ?_
   refine WL_step rfl rfl (Exec.load_box_agg (ds := [Value.int .i64 (x1.States), Value.int .i64 (x1.Init), v2, v4, v6]) (hS104) A26 rfl p101 rfl ?_)
   refine WL_step rfl rfl (Exec.move (v := Value.int .u8 (most8)) rfl p100 ?_)
   refine WL_step rfl rfl (Exec.convert_int (by rw [Tryd.underlying5]; rfl) Tryd.underlying3 rfl rfl ?_)
   obtain ⟨t100, q104, hm⟩ := bind_some hm
   obtain ⟨y105, y106⟩ := t100
   replace hm := un2_eq hm
   refine WL_step rfl rfl (Exec.call rfl rfl Tryd.func17 rfl N17 (args_cons rfl (args_cons rfl args_nil)) ((shrink_Merge_sim q104 hS104 (a3.mono l103) (a5.mono l103) (a7.mono l103)).mono ?_))
   rintro _ w106 ⟨_, rfl, ⟨s107, v100, l105, hS107, rfl⟩⟩
   refine ⟨_, rfl, ?_⟩
   refine WL_step rfl rfl (Exec.move (v := Value.tuple #[v100, errV 34 (y106)]) rfl rfl ?_)
   refine WL_step rfl rfl (Exec.extract (v := v100) rfl rfl rfl ?_)
   refine WL_step rfl rfl (Exec.extract (v := errV 34 (y106)) rfl rfl rfl ?_)
   refine WL_step rfl rfl (Exec.assign (v := v100) rfl rfl ?_)
   refine WL_step rfl rfl (Exec.assign (v := errV 34 (y106)) rfl rfl ?_)
   refine WL_nil (at_normal ?_)
   refine W_seq ?_
   refine W_seq ?_
   refine W_mid (M := fun f' w' => ∃ (s108 : PHeap) , PHeap.le s107 s108 ∧ St w0 s108 (Res.box b100 26 [Value.int .i64 (x1.States), Value.int .i64 (x1.Init), v2, v4, v6] :: Res.arr (encInt .i64) 3 v100 y105 :: H) w' ∧ f' 1 = Value.int .u8 (most8) ∧ f' 2 = Value.pointer (some ⟨b100, 0, none⟩) ∧ f' 5 = v100 ∧ f' 39 = Value.bool ((y106.isSome || !decide ((y105.length : Int) = x1.States)))) ?_ ?_
   ·refine W_region ?_
    refine WL_step rfl rfl (Exec.move (v := errV 34 (y106)) rfl rfl ?_)
    refine WL_step rfl rfl (Exec.err_neq_nil (T := 34) Tryd.underlying30 rfl rfl rfl ?_)
    refine WL_step rfl rfl (Exec.move (v := Value.bool (y106.isSome)) rfl rfl ?_)
    by_cases hc103 : y106.isSome = true
    ·refine WL_pass rfl (yield_of rfl (congrArg Value.bool hc103)) rfl rfl ?_
     refine WL_pass rfl (yield_of rfl (congrArg Value.bool hc103)) rfl rfl ?_
     refine WL_pass rfl (yield_of rfl (congrArg Value.bool hc103)) rfl rfl ?_
     refine WL_pass rfl (yield_of rfl (congrArg Value.bool hc103)) rfl rfl ?_
     refine WL_pass rfl (yield_of rfl (congrArg Value.bool hc103)) rfl rfl ?_
     refine WL_step rfl rfl (Exec.pick_t (v := Value.bool (true)) rfl (congrArg Value.bool hc103) rfl ?_)
     refine WL_nil (at_normal ?_)
     have hS108 := (hS107).f1
     exact ⟨s107, (PHeap.le_refl _), hS108, p100, p101, rfl, (congrArg Value.bool (or_t hc103)).symm⟩
    ·replace hc103 := not_true hc103
     refine WL_run rfl (yield_of rfl (congrArg Value.bool hc103)) rfl (Exec.move (v := v100) rfl rfl ?_)
     refine WL_run rfl (yield_of rfl (congrArg Value.bool hc103)) rfl (Exec.len_arr (hS107) S22 rfl rfl ?_)
     refine WL_run rfl (yield_of rfl (congrArg Value.bool hc103)) rfl (Exec.field F26_0 rfl p101 rfl ?_)
     refine WL_run rfl (yield_of rfl (congrArg Value.bool hc103)) rfl (Exec.load_box ((hS107).f1) A3 rfl rfl rfl ?_)
     refine WL_run rfl (yield_of rfl (congrArg Value.bool hc103)) rfl (Exec.neq rfl rfl rfl ?_)
     refine WL_step rfl rfl (Exec.pick_f (v := Value.bool (!decide ((y105.length : Int) = x1.States))) rfl (congrArg Value.bool hc103) rfl ?_)
     refine WL_nil (at_normal ?_)
     have hS109 := (hS107).f1
     exact ⟨s107, (PHeap.le_refl _), hS109, p100, p101, rfl, (congrArg Value.bool (or_f hc103)).symm⟩
   ·intro f101 w107 hM101
    obtain ⟨s109, l106, hS110, p103, p104, p105, p106⟩ := hM101
    refine (at_normal ?_)
    rcases ite_some hm with ⟨hc104, hm⟩ | ⟨hc104, hm⟩
    ·refine W_cond_t p106 hc104 ?_
     refine W_seq ?_
     refine W_region ?_
     refine WL_step rfl rfl (Exec.assign (v := Value.bool (false)) rfl rfl ?_)
     refine WL_nil (at_normal ?_)
     refine W_ret (at_ret ?_)
     have e104 := Option.some.inj hm
     subst r
     refine ⟨_, ret1 rfl, ?_⟩
     have hS111 := (hS110).drop
     have hS112 := (hS111).drop
     exact ⟨s109, (PHeap.le.trans (PHeap.le.trans l103 l105) l106), hS112, rfl⟩
    ·refine W_cond_f p106 hc104 ?_
     replace hc104 := not_true hc104
     refine W_skip (at_normal ?_)
     refine W_seq ?_
     refine W_region ?_
     refine WL_step rfl rfl (Exec.assign (v := Value.int .i64 (0)) rfl rfl ?_)
     refine WL_nil (at_normal ?_)
     refine W_seq ?_
     refine W_seq ?_
     refine W_region ?_
     refine WL_step rfl rfl (Exec.move (v := v100) rfl p105 ?_)
     refine WL_step rfl rfl (Exec.len_arr ((hS110).f1) S22 rfl rfl ?_)
     refine WL_step rfl rfl (Exec.move (v := Value.int .i64 (0)) rfl rfl ?_)
     refine WL_nil (at_normal ?_)
     obtain ⟨c100, hB100, hr100, hn100, hb100⟩ := ctl_some hm
     refine W_mid (M := fun f' w' => ∃ s', (c100 = .next s' ∨ c100 = .brk s') ∧ (fun (many100 : Int) => ∃ (s110 : PHeap) , PHeap.le s109 s110 ∧ St w0 s110 (Res.box b100 26 [Value.int .i64 (x1.States), Value.int .i64 (x1.Init), v2, v4, v6] :: Res.arr (encInt .i64) 3 v100 y105 :: H) w' ∧ f' 1 = Value.int .u8 (most8) ∧ f' 2 = Value.pointer (some ⟨b100, 0, none⟩) ∧ f' 5 = v100 ∧ f' 7 = Value.int .i64 (many100) ∧ f' 40 = v100 ∧ f' 41 = Value.int .i64 ((y105.length : Int))) s') ?_ ?_
     ·refine W_block (W_forC (fun k' s' f' w' => (fun (many101 : Int) => ∃ (s111 : PHeap) , PHeap.le s109 s111 ∧ St w0 s111 (Res.box b100 26 [Value.int .i64 (x1.States), Value.int .i64 (x1.Init), v2, v4, v6] :: Res.arr (encInt .i64) 3 v100 y105 :: H) w' ∧ f' 1 = Value.int .u8 (most8) ∧ f' 2 = Value.pointer (some ⟨b100, 0, none⟩) ∧ f' 5 = v100 ∧ f' 7 = Value.int .i64 (many101) ∧ f' 40 = v100 ∧ f' 41 = Value.int .i64 ((y105.length : Int)) ∧ f' 42 = Value.int .i64 (k' : Int)) s') hB100 ?_ ?_ ?_)
      ·have hS113 := (hS110).f1
       have hS114 := (hS113).f1
       exact ⟨s109, (PHeap.le_refl _), hS114, p103, p104, p105, rfl, rfl, rfl, rfl⟩
      ·intro i100 many101 c101 f102 w108 hi100 hI100 hm100 hres100
       obtain ⟨s112, l107, hS115, p107, p108, p109, p110, p111, p112, x100⟩ := hI100
       refine W_seq ?_
       refine W_region ?_
       refine WL_step rfl rfl (Exec.lss rfl x100 p112 ?_)
       refine WL_nil (at_normal ?_)
       refine W_seq ?_
       refine W_true (congrArg Value.bool (decide_eq_true (by omega))) ?_
       refine W_skip (at_normal ?_)
       refine W_seq ?_
       refine W_block ?_
       refine W_seq ?_
       refine W_region ?_
       obtain ⟨x101, q105, hm100⟩ := bind_some hm100
       obtain ⟨g100, c102, e105⟩ := ((hS115).f1).arr_at q105
       refine WL_step rfl rfl (Exec.index_slice S22 rfl (Eq.trans p111 e105) x100 (idx_some q105).1 (idx_some q105).2.1 ?_)
       refine WL_step rfl rfl (Exec.load_arr (F := (encInt .i64)) ((hS115).f1) e105 A3 rfl rfl rfl q105 (Sub.refl _) ?_)
       intro v101 q106
       obtain rfl := encInt_val.1 q106
       refine WL_step rfl rfl (Exec.assign (v := Value.int .i64 (x101)) rfl rfl ?_)
       refine WL_nil (at_normal ?_)
       refine W_seq ?_
       refine W_seq ?_
       refine W_mid (M := fun f' w' => ∃ (s113 : PHeap) , PHeap.le s112 s113 ∧ St w0 s113 (Res.box b100 26 [Value.int .i64 (x1.States), Value.int .i64 (x1.Init), v2, v4, v6] :: Res.arr (encInt .i64) 3 v100 y105 :: H) w' ∧ f' 1 = Value.int .u8 (most8) ∧ f' 2 = Value.pointer (some ⟨b100, 0, none⟩) ∧ f' 5 = v100 ∧ f' 7 = Value.int .i64 (many101) ∧ f' 9 = Value.int .i64 (x101) ∧ f' 40 = v100 ∧ f' 41 = Value.int .i64 ((y105.length : Int)) ∧ f' 42 = Value.int .i64 ((i100 : Int)) ∧ f' 52 = Value.bool (((decide (many101 < x101)) || decide (x101 < 0)))) ?_ ?_
       ·refine W_region ?_
        refine WL_step rfl rfl (Exec.move (v := Value.int .i64 (x101)) rfl rfl ?_)
        refine WL_step rfl rfl (Exec.move (v := Value.int .i64 (many101)) rfl p110 ?_)
        refine WL_step rfl rfl (Exec.gtr rfl rfl rfl ?_)
        refine WL_step rfl rfl (Exec.move (v := Value.bool (decide (many101 < x101))) rfl rfl ?_)
        by_cases hc105 : (decide (many101 < x101)) = true
        ·refine WL_pass rfl (yield_of rfl (congrArg Value.bool hc105)) rfl rfl ?_
         refine WL_pass rfl (yield_of rfl (congrArg Value.bool hc105)) rfl rfl ?_
         refine WL_step rfl rfl (Exec.pick_t (v := Value.bool (true)) rfl (congrArg Value.bool hc105) rfl ?_)
         refine WL_nil (at_normal ?_)
         have hS116 := (hS115).f1
         have hS117 := (hS116).f1
         exact ⟨s112, (PHeap.le_refl _), hS117, p107, p108, p109, p110, rfl, p111, p112, x100, (congrArg Value.bool (or_t hc105)).symm⟩
        ·replace hc105 := not_true hc105
         refine WL_run rfl (yield_of rfl (congrArg Value.bool hc105)) rfl (Exec.move (v := Value.int .i64 (x101)) rfl rfl ?_)
         refine WL_run rfl (yield_of rfl (congrArg Value.bool hc105)) rfl (Exec.lss rfl rfl rfl ?_)
         refine WL_step rfl rfl (Exec.pick_f (v := Value.bool (decide (x101 < 0))) rfl (congrArg Value.bool hc105) rfl ?_)
         refine WL_nil (at_normal ?_)
         have hS118 := (hS115).f1
         have hS119 := (hS118).f1
         exact ⟨s112, (PHeap.le_refl _), hS119, p107, p108, p109, p110, rfl, p111, p112, x100, (congrArg Value.bool (or_f hc105)).symm⟩
       ·intro f103 w109 hM102
        obtain ⟨s114, l108, hS120, p113, p114, p115, p116, p117, p118, p119, p120, p121⟩ := hM102
        refine (at_normal ?_)
        rcases ite_some hm100 with ⟨hc106, hm100⟩ | ⟨hc106, hm100⟩
        ·refine W_cond_t p121 hc106 ?_
         refine W_seq ?_
         refine W_region ?_
         refine WL_step rfl rfl (Exec.assign (v := Value.bool (false)) rfl rfl ?_)
         refine WL_nil (at_normal ?_)
         refine W_ret (at_ret (ib_ret (at_ret (at_ret (ib_ret (at_ret (at_ret ?_)))))))
         have e106 := Option.some.inj hm100
         subst c101
         have hq100 := hr100 _ (hres100 (by intro _ h; cases h))
         have e107 := Option.some.inj hq100
         subst r
         refine ⟨_, ret1 rfl, ?_⟩
         have hS121 := (hS120).drop
         have hS122 := (hS121).drop
         exact ⟨s114, (PHeap.le.trans (PHeap.le.trans (PHeap.le.trans (PHeap.le.trans l103 l105) l106) l107) l108), hS122, rfl⟩
        ·refine W_cond_f p121 hc106 ?_
         replace hc106 := not_true hc106
         refine W_skip (at_normal ?_)
         refine W_region ?_
         refine WL_step rfl rfl (Exec.move (v := Value.int .i64 (many101)) rfl p116 ?_)
         refine WL_step rfl rfl (Exec.move (v := Value.int .i64 (x101)) rfl p117 ?_)
         refine WL_step rfl rfl (Exec.add rfl rfl rfl ?_)
         refine WL_step rfl rfl (Exec.max2 rfl rfl rfl ?_)
         refine WL_step rfl rfl (Exec.assign (v := Value.int .i64 (max many101 (IntKind.i64.wrap (x101 + 1)))) rfl rfl ?_)
         refine WL_nil (ib_normal (at_normal ?_))
         refine W_region ?_
         refine WL_step rfl rfl (Exec.add rfl p120 rfl ?_)
         refine WL_step rfl rfl (Exec.move (v := Value.int .i64 (IntKind.i64.wrap ((i100 : Int) + 1))) rfl rfl ?_)
         refine WL_nil (at_normal ?_)
         have e108 := Option.some.inj hm100
         subst c101
         have hS123 := (hS120).f1
         have hS124 := (hS123).f1
         refine ⟨_, rfl, ?_⟩; exact ⟨s114, (PHeap.le.trans l107 l108), hS124, p113, p114, p115, rfl, p118, p119, (Eq.trans rfl (wrap_up hi100 ((hS110).f1).arr_le))⟩
      ·intro many101 f104 w110 hI101 hres101
       obtain ⟨s115, l109, hS125, p122, p123, p124, p125, p126, p127, x102⟩ := hI101
       refine W_seq ?_
       refine W_region ?_
       refine WL_step rfl rfl (Exec.lss rfl x102 p127 ?_)
       refine WL_nil (at_normal ?_)
       refine W_seq ?_
       refine W_false (congrArg Value.bool (decide_eq_false (by omega))) ?_
       refine W_exit (at_exit (at_exit (ib_here (at_normal ?_))))
       have hS126 := (hS125).f1
       have hS127 := (hS126).f1
       refine ⟨_, .inl hres101, ?_⟩; exact ⟨s115, l109, hS127, p122, p123, p124, p125, p126, p127⟩
     ·rintro f105 w111 ⟨many100, hc107, hM103⟩
      have hm := hc107.elim (hn100 _) (hb100 _)
      clear hc107
      obtain ⟨s116, l110, hS128, p128, p129, p130, p131, p132, p133⟩ := hM103
      refine (at_normal ?_)
      refine W_seq ?_
      refine W_seq ?_
      refine W_region ?_
      refine WL_step rfl rfl (Exec.move (v := Value.int .i64 (many100)) rfl p131 ?_)
      refine WL_step rfl rfl (Exec.move (v := Value.int .u8 (most8)) rfl p128 ?_)
      refine WL_step rfl rfl (Exec.convert_int (by rw [Tryd.underlying5]; rfl) Tryd.underlying3 rfl rfl ?_)
      refine WL_step rfl rfl (Exec.max2 rfl rfl rfl ?_)
      refine WL_step rfl rfl (Exec.gtr rfl rfl rfl ?_)
      refine WL_nil (at_normal ?_)
      rcases ite_some hm with ⟨hc108, hm⟩ | ⟨hc108, hm⟩
      ·refine W_cond_t rfl hc108 ?_
       refine W_seq ?_
       refine W_region ?_
       refine WL_step rfl rfl (Exec.assign (v := Value.bool (false)) rfl rfl ?_)
       refine WL_nil (at_normal ?_)
       refine W_ret (at_ret ?_)
       have e109 := Option.some.inj hm
       subst r
       refine ⟨_, ret1 rfl, ?_⟩
       have hS129 := (hS128).drop
       have hS130 := (hS129).drop
       exact ⟨s116, (PHeap.le.trans (PHeap.le.trans (PHeap.le.trans l103 l105) l106) l110), hS130, rfl⟩
      ·refine W_cond_f rfl hc108 ?_
       replace hc108 := not_true hc108
       refine W_skip (at_normal ?_)
       refine W_seq ?_
       refine W_seq ?_
       refine W_region ?_
       refine WL_step rfl rfl (Exec.move (v := Value.int .i64 (many100)) rfl p131 ?_)
       refine WL_step rfl rfl (Exec.geq rfl rfl rfl ?_)
       refine WL_nil (at_normal ?_)
       rcases ite_some hm with ⟨hc109, hm⟩ | ⟨hc109, hm⟩
       ·refine W_cond_t rfl hc109 ?_
        refine W_seq ?_
        refine W_region ?_
        refine WL_step rfl rfl (Exec.move (v := v100) rfl p130 ?_)
        refine WL_step rfl rfl (Exec.len_arr ((hS128).f1) S22 rfl rfl ?_)
        refine WL_step rfl rfl (Exec.move (v := Value.int .i64 (0)) rfl rfl ?_)
        refine WL_nil (at_normal ?_)
        obtain ⟨c103, hB101, hr101, hn101, hb101⟩ := ctl_some hm
        refine W_mid (M := fun f' w' => ∃ s', (c103 = .next s' ∨ c103 = .brk s') ∧ (fun (_ : Unit) => ∃ (s117 : PHeap) , PHeap.le s116 s117 ∧ St w0 s117 (Res.box b100 26 [Value.int .i64 (x1.States), Value.int .i64 (x1.Init), v2, v4, v6] :: Res.arr (encInt .i64) 3 v100 y105 :: H) w' ∧ f' 2 = Value.pointer (some ⟨b100, 0, none⟩) ∧ f' 5 = v100 ∧ f' 66 = Value.int .i64 ((y105.length : Int))) s') ?_ ?_
        ·refine W_block (W_forC (fun k' s' f' w' => (fun (_ : Unit) => ∃ (s118 : PHeap) , PHeap.le s116 s118 ∧ St w0 s118 (Res.box b100 26 [Value.int .i64 (x1.States), Value.int .i64 (x1.Init), v2, v4, v6] :: Res.arr (encInt .i64) 3 v100 y105 :: H) w' ∧ f' 2 = Value.pointer (some ⟨b100, 0, none⟩) ∧ f' 5 = v100 ∧ f' 66 = Value.int .i64 ((y105.length : Int)) ∧ f' 67 = Value.int .i64 (k' : Int)) s') hB101 ?_ ?_ ?_)
         ·have hS131 := (hS128).f1
          have hS132 := (hS131).f1
          exact ⟨s116, (PHeap.le_refl _), hS132, p129, p130, rfl, rfl⟩
         ·intro i101 t101 c104 f106 w112 hi101 hI102 hm101 hres102
          obtain ⟨s119, l111, hS133, p134, p135, p136, x103⟩ := hI102
          refine W_seq ?_
          refine W_region ?_
          refine WL_step rfl rfl (Exec.lss rfl x103 p136 ?_)
          refine WL_nil (at_normal ?_)
          refine W_seq ?_
          refine W_true (congrArg Value.bool (decide_eq_true (by omega))) ?_
          refine W_skip (at_normal ?_)
          refine W_seq ?_
          refine W_block ?_
          refine W_seq ?_
          refine W_region ?_
          refine WL_step rfl rfl (Exec.move (v := Value.int .i64 ((i101 : Int))) rfl x103 ?_)
          refine WL_step rfl rfl (Exec.assign (v := Value.int .i64 ((i101 : Int))) rfl rfl ?_)
          refine WL_nil (at_normal ?_)
          refine W_seq ?_
          refine W_region ?_
          refine WL_step rfl rfl (Exec.move (v := v100) rfl p135 ?_)
          refine WL_step rfl rfl (Exec.len_arr ((hS133).f1) S22 rfl rfl ?_)
          refine WL_step rfl rfl (Exec.move (v := Value.int .i64 (0)) rfl rfl ?_)
          refine WL_nil (at_normal ?_)
          obtain ⟨c105, hB102, hr102, hn102, hb102⟩ := ctl_some hm101
          refine W_mid (M := fun f' w' => ∃ s', (c105 = .next s' ∨ c105 = .brk s') ∧ (fun (_ : Unit) => ∃ (s120 : PHeap) , PHeap.le s119 s120 ∧ St w0 s120 (Res.box b100 26 [Value.int .i64 (x1.States), Value.int .i64 (x1.Init), v2, v4, v6] :: Res.arr (encInt .i64) 3 v100 y105 :: H) w' ∧ f' 2 = Value.pointer (some ⟨b100, 0, none⟩) ∧ f' 5 = v100 ∧ f' 10 = Value.int .i64 ((i101 : Int)) ∧ f' 66 = Value.int .i64 ((y105.length : Int)) ∧ f' 67 = Value.int .i64 ((i101 : Int)) ∧ f' 71 = Value.int .i64 ((y105.length : Int))) s') ?_ ?_
          ·refine W_block (W_forC (fun k' s' f' w' => (fun (_ : Unit) => ∃ (s121 : PHeap) , PHeap.le s119 s121 ∧ St w0 s121 (Res.box b100 26 [Value.int .i64 (x1.States), Value.int .i64 (x1.Init), v2, v4, v6] :: Res.arr (encInt .i64) 3 v100 y105 :: H) w' ∧ f' 2 = Value.pointer (some ⟨b100, 0, none⟩) ∧ f' 5 = v100 ∧ f' 10 = Value.int .i64 ((i101 : Int)) ∧ f' 66 = Value.int .i64 ((y105.length : Int)) ∧ f' 67 = Value.int .i64 ((i101 : Int)) ∧ f' 71 = Value.int .i64 ((y105.length : Int)) ∧ f' 72 = Value.int .i64 (k' : Int)) s') hB102 ?_ ?_ ?_)
           ·have hS134 := (hS133).f1
            have hS135 := (hS134).f1
            exact ⟨s119, (PHeap.le_refl _), hS135, p134, p135, rfl, p136, x103, rfl, rfl⟩
           ·intro i102 t102 c106 f107 w113 hi102 hI103 hm102 hres103
            obtain ⟨s122, l112, hS136, p137, p138, p139, p140, p141, p142, x104⟩ := hI103
            refine W_seq ?_
            refine W_region ?_
            refine WL_step rfl rfl (Exec.lss rfl x104 p142 ?_)
            refine WL_nil (at_normal ?_)
            refine W_seq ?_
            refine W_true (congrArg Value.bool (decide_eq_true (by omega))) ?_
            refine W_skip (at_normal ?_)
            refine W_seq ?_
            refine W_block ?_
            refine W_seq ?_
            refine W_region ?_
            refine WL_step rfl rfl (Exec.move (v := Value.int .i64 ((i102 : Int))) rfl x104 ?_)
            refine WL_step rfl rfl (Exec.assign (v := Value.int .i64 ((i102 : Int))) rfl rfl ?_)
            refine WL_nil (at_normal ?_)
            refine W_seq ?_
            obtain ⟨z101, ht101, hm102⟩ := bind_some hm102
            refine W_mid (M := fun f' w' => (fun (z101 : Bool) => ∃ (s123 : PHeap) , PHeap.le s122 s123 ∧ St w0 s123 (Res.box b100 26 [Value.int .i64 (x1.States), Value.int .i64 (x1.Init), v2, v4, v6] :: Res.arr (encInt .i64) 3 v100 y105 :: H) w' ∧ f' 2 = Value.pointer (some ⟨b100, 0, none⟩) ∧ f' 5 = v100 ∧ f' 10 = Value.int .i64 ((i101 : Int)) ∧ f' 66 = Value.int .i64 ((y105.length : Int)) ∧ f' 67 = Value.int .i64 ((i101 : Int)) ∧ f' 71 = Value.int .i64 ((y105.length : Int)) ∧ f' 72 = Value.int .i64 ((i102 : Int)) ∧ f' 96 = Value.bool (z101)) z101) ?_ ?_
            ·refine W_dl (n0 := 22) (.q 0 (.q 1 (.q 2 (.q 3 (.q 4 (.q 5 (.q 6 (.q 7 (.q 8 (.q 9 (.q 10 (.q 11 (.q 12 (.q 13 (.q 14 (.q 15 (.q 16 (.q 17 (.q 18 (.q 19 (.q 20 (.q 21 .done)))))))))))))))))))))) hmix (by kernel_rfl) (by kernel_rfl) ?_
             have hS137 := hS136.drew
             refine DL_q rfl rfl (Exec.move (v := v100) rfl p138 ⟨rfl, ?_⟩)
             refine DL_q rfl rfl (Exec.move (v := Value.int .i64 ((i101 : Int))) rfl p139 ⟨rfl, ?_⟩)
             obtain ⟨x105, q107, ht101⟩ := bind_some ht101
             obtain ⟨g101, c107, e110⟩ := ((hS137).f1).arr_at q107
             refine DL_q rfl rfl (Exec.index_slice S22 rfl e110 rfl (idx_some q107).1 (idx_some q107).2.1 ⟨rfl, ?_⟩)
             refine DL_q rfl rfl (Exec.load_arr (F := (encInt .i64)) ((hS137).f1) e110 A3 rfl rfl rfl q107 (Sub.refl _) ?_)
             intro v102 q108
             obtain rfl := encInt_val.1 q108
             refine ⟨rfl, ?_⟩
             refine DL_q rfl rfl (Exec.move (v := v100) rfl p138 ⟨rfl, ?_⟩)
             refine DL_q rfl rfl (Exec.move (v := Value.int .i64 ((i102 : Int))) rfl rfl ⟨rfl, ?_⟩)
             obtain ⟨x106, q109, ht101⟩ := bind_some ht101
             obtain ⟨g102, c108, e111⟩ := ((hS137).f1).arr_at q109
             refine DL_q rfl rfl (Exec.index_slice S22 rfl e111 rfl (idx_some q109).1 (idx_some q109).2.1 ⟨rfl, ?_⟩)
             refine DL_q rfl rfl (Exec.load_arr (F := (encInt .i64)) ((hS137).f1) e111 A3 rfl rfl rfl q109 (Sub.refl _) ?_)
             intro v103 q110
             obtain rfl := encInt_val.1 q110
             refine ⟨rfl, ?_⟩
             refine DL_q rfl rfl (Exec.eql rfl rfl rfl ⟨rfl, ?_⟩)
             refine DL_q rfl rfl (Exec.move (v := Value.bool (decide (x105 = x106))) rfl rfl ⟨rfl, ?_⟩)
             rcases ite_some ht101 with ⟨hc110, ht101⟩ | ⟨hc110, ht101⟩
             ·refine DL_qg rfl rfl (yield_of rfl (congrArg Value.bool hc110)) (Exec.field F26_4 rfl p137 rfl ⟨rfl, ?_⟩)
              refine DL_qg rfl rfl (yield_of rfl (congrArg Value.bool hc110)) (Exec.load_box (hS137) A24 rfl rfl rfl ⟨rfl, ?_⟩)
              refine DL_qg rfl rfl (yield_of rfl (congrArg Value.bool hc110)) (Exec.move (v := Value.int .i64 ((i101 : Int))) rfl p139 ⟨rfl, ?_⟩)
              obtain ⟨x107, q111, ht101⟩ := bind_some ht101
              refine DL_qg rfl rfl (yield_of rfl (congrArg Value.bool hc110)) (Exec.index_repE S24 rfl rfl rfl (a7.mono (PHeap.le.trans (PHeap.le.trans (PHeap.le.trans (PHeap.le.trans (PHeap.le.trans l103 l105) l106) l110) l111) l112)) q111 ?_)
              intro b101 o100 a100 e112
              refine ⟨rfl, ?_⟩
              refine DL_qg rfl rfl (yield_of rfl (congrArg Value.bool hc110)) (Exec.load_at (E := encBool) hS137 A4 rfl rfl rfl a100 ?_)
              intro v104 q112
              obtain rfl := encBool_val.1 q112
              refine ⟨rfl, ?_⟩
              refine DL_qg rfl rfl (yield_of rfl (congrArg Value.bool hc110)) (Exec.field F26_4 rfl p137 rfl ⟨rfl, ?_⟩)
              refine DL_qg rfl rfl (yield_of rfl (congrArg Value.bool hc110)) (Exec.load_box (hS137) A24 rfl rfl rfl ⟨rfl, ?_⟩)
              refine DL_qg rfl rfl (yield_of rfl (congrArg Value.bool hc110)) (Exec.move (v := Value.int .i64 ((i102 : Int))) rfl rfl ⟨rfl, ?_⟩)
              obtain ⟨x108, q113, ht101⟩ := bind_some ht101
              refine DL_qg rfl rfl (yield_of rfl (congrArg Value.bool hc110)) (Exec.index_repE S24 rfl rfl rfl (a7.mono (PHeap.le.trans (PHeap.le.trans (PHeap.le.trans (PHeap.le.trans (PHeap.le.trans l103 l105) l106) l110) l111) l112)) q113 ?_)
              intro b102 o101 a101 e113
              refine ⟨rfl, ?_⟩
              refine DL_qg rfl rfl (yield_of rfl (congrArg Value.bool hc110)) (Exec.load_at (E := encBool) hS137 A4 rfl rfl rfl a101 ?_)
              intro v105 q114
              obtain rfl := encBool_val.1 q114
              refine ⟨rfl, ?_⟩
              refine DL_qg rfl rfl (yield_of rfl (congrArg Value.bool hc110)) (Exec.bool_neq Tryd.underlying4 rfl rfl rfl ⟨rfl, ?_⟩)
              refine DL_q rfl rfl (Exec.pick_t (v := Value.bool (!(x107 == x108))) rfl (congrArg Value.bool hc110) rfl ⟨rfl, ?_⟩)
              refine DL_done ?_
              refine WL_nil (at_normal ?_)
              have e114 := Option.some.inj ht101
              subst z101
              have hS138 := (hS137).f1
              have hS139 := (hS138).f1
              exact ⟨s122, (PHeap.le_refl _), hS139, p137, p138, p139, p140, p141, p142, x104, rfl⟩
             ·replace hc110 := not_true hc110
              refine DL_qp rfl rfl (yield_of rfl (congrArg Value.bool hc110)) rfl ?_
              refine DL_qp rfl rfl (yield_of rfl (congrArg Value.bool hc110)) rfl ?_
              refine DL_qp rfl rfl (yield_of rfl (congrArg Value.bool hc110)) rfl ?_
              refine DL_qp rfl rfl (yield_of rfl (congrArg Value.bool hc110)) rfl ?_
              refine DL_qp rfl rfl (yield_of rfl (congrArg Value.bool hc110)) rfl ?_
              refine DL_qp rfl rfl (yield_of rfl (congrArg Value.bool hc110)) rfl ?_
              refine DL_qp rfl rfl (yield_of rfl (congrArg Value.bool hc110)) rfl ?_
              refine DL_qp rfl rfl (yield_of rfl (congrArg Value.bool hc110)) rfl ?_
              refine DL_qp rfl rfl (yield_of rfl (congrArg Value.bool hc110)) rfl ?_
              refine DL_qp rfl rfl (yield_of rfl (congrArg Value.bool hc110)) rfl ?_
              refine DL_qp rfl rfl (yield_of rfl (congrArg Value.bool hc110)) rfl ?_
              refine DL_q rfl rfl (Exec.pick_f (v := Value.bool (false)) rfl (congrArg Value.bool hc110) rfl ⟨rfl, ?_⟩)
              refine DL_done ?_
              refine WL_nil (at_normal ?_)
              have e115 := Option.some.inj ht101
              subst z101
              have hS140 := (hS137).f1
              have hS141 := (hS140).f1
              exact ⟨s122, (PHeap.le_refl _), hS141, p137, p138, p139, p140, p141, p142, x104, rfl⟩
            ·intro f108 w114 hM104
             obtain ⟨s124, l113, hS142, p143, p144, p145, p146, p147, p148, p149, p150⟩ := hM104
             refine (at_normal ?_)
             rcases ite_some hm102 with ⟨hc111, hm102⟩ | ⟨hc111, hm102⟩
             ·refine W_cond_t p150 hc111 ?_
              refine W_seq ?_
              refine W_region ?_
              refine WL_step rfl rfl (Exec.assign (v := Value.bool (false)) rfl rfl ?_)
              refine WL_nil (at_normal ?_)
              refine W_ret (ib_ret (at_ret (at_ret (ib_ret (at_ret (ib_ret (at_ret (at_ret (ib_ret (at_ret (at_ret ?_)))))))))))
              have e116 := Option.some.inj hm102
              subst c106
              have hq101 := hr102 _ (hres103 (by intro _ h; cases h))
              have e117 := Option.some.inj hq101
              subst c104
              have hq102 := hr101 _ (hres102 (by intro _ h; cases h))
              have e118 := Option.some.inj hq102
              subst r
              refine ⟨_, ret1 rfl, ?_⟩
              have hS143 := (hS142).drop
              have hS144 := (hS143).drop
              exact ⟨s124, (PHeap.le.trans (PHeap.le.trans (PHeap.le.trans (PHeap.le.trans (PHeap.le.trans (PHeap.le.trans l103 l105) l106) l110) l111) l112) l113), hS144, rfl⟩
             ·refine W_cond_f p150 hc111 ?_
              replace hc111 := not_true hc111
              refine W_skip (ib_normal (at_normal ?_))
              refine W_region ?_
              refine WL_step rfl rfl (Exec.add rfl p149 rfl ?_)
              refine WL_step rfl rfl (Exec.move (v := Value.int .i64 (IntKind.i64.wrap ((i102 : Int) + 1))) rfl rfl ?_)
              refine WL_nil (at_normal ?_)
              have e119 := Option.some.inj hm102
              subst c106
              have hS145 := (hS142).f1
              have hS146 := (hS145).f1
              refine ⟨_, rfl, ?_⟩; exact ⟨s124, (PHeap.le.trans l112 l113), hS146, p143, p144, p145, p146, p147, p148, (Eq.trans rfl (wrap_up hi102 ((hS133).f1).arr_le))⟩
           ·intro t103 f109 w115 hI104 hres104
            obtain ⟨s125, l114, hS147, p151, p152, p153, p154, p155, p156, x109⟩ := hI104
            refine W_seq ?_
            refine W_region ?_
            refine WL_step rfl rfl (Exec.lss rfl x109 p156 ?_)
            refine WL_nil (at_normal ?_)
            refine W_seq ?_
            refine W_false (congrArg Value.bool (decide_eq_false (by omega))) ?_
            refine W_exit (at_exit (at_exit (ib_here (at_normal ?_))))
            have hS148 := (hS147).f1
            have hS149 := (hS148).f1
            refine ⟨_, .inl hres104, ?_⟩; exact ⟨s125, l114, hS149, p151, p152, p153, p154, p155, p156⟩
          ·rintro f110 w116 ⟨t104, hc112, hM105⟩
           have hm101 := hc112.elim (hn102 _) (hb102 _)
           clear hc112
           obtain ⟨s126, l115, hS150, p157, p158, p159, p160, p161, p162⟩ := hM105
           refine (ib_normal (at_normal ?_))
           refine W_region ?_
           refine WL_step rfl rfl (Exec.add rfl p161 rfl ?_)
           refine WL_step rfl rfl (Exec.move (v := Value.int .i64 (IntKind.i64.wrap ((i101 : Int) + 1))) rfl rfl ?_)
           refine WL_nil (at_normal ?_)
           have e120 := Option.some.inj hm101
           subst c104
           have hS151 := (hS150).f1
           have hS152 := (hS151).f1
           refine ⟨_, rfl, ?_⟩; exact ⟨s126, (PHeap.le.trans l111 l115), hS152, p157, p158, p160, (Eq.trans rfl (wrap_up hi101 ((hS128).f1).arr_le))⟩
         ·intro t105 f111 w117 hI105 hres105
          obtain ⟨s127, l116, hS153, p163, p164, p165, x110⟩ := hI105
          refine W_seq ?_
          refine W_region ?_
          refine WL_step rfl rfl (Exec.lss rfl x110 p165 ?_)
          refine WL_nil (at_normal ?_)
          refine W_seq ?_
          refine W_false (congrArg Value.bool (decide_eq_false (by omega))) ?_
          refine W_exit (at_exit (at_exit (ib_here (at_normal ?_))))
          have hS154 := (hS153).f1
          have hS155 := (hS154).f1
          refine ⟨_, .inl hres105, ?_⟩; exact ⟨s127, l116, hS155, p163, p164, p165⟩
        ·rintro f112 w118 ⟨t106, hc113, hM106⟩
         have hm := hc113.elim (hn101 _) (hb101 _)
         clear hc113
         obtain ⟨s128, l117, hS156, p166, p167, p168⟩ := hM106
         refine (at_normal ?_)
         refine W_seq ?_
         refine W_region ?_
         refine WL_step rfl rfl (Exec.load_box_agg (ds := [Value.int .i64 (x1.States), Value.int .i64 (x1.Init), v2, v4, v6]) (hS156) A26 rfl p166 rfl ?_)
         refine WL_step rfl rfl (Exec.move (v := v100) rfl p167 ?_)
         obtain ⟨y107, q115, hm⟩ := bind_some hm
         have hS157 := (hS156).f1
         refine WL_step rfl rfl (Exec.call rfl rfl Tryd.func26 rfl N26 (args_cons rfl (args_cons rfl args_nil)) ((law45_bounded_o_sim q115 hS157 (a3.mono (PHeap.le.trans (PHeap.le.trans (PHeap.le.trans (PHeap.le.trans l103 l105) l106) l110) l117)) (a5.mono (PHeap.le.trans (PHeap.le.trans (PHeap.le.trans (PHeap.le.trans l103 l105) l106) l110) l117)) (a7.mono (PHeap.le.trans (PHeap.le.trans (PHeap.le.trans (PHeap.le.trans l103 l105) l106) l110) l117))).mono ?_))
         rintro _ w119 ⟨_, rfl, ⟨s129, l118, hS158, rfl⟩⟩
         refine ⟨_, rfl, ?_⟩
         refine WL_step rfl rfl (Exec.assign (v := Value.bool (y107)) rfl rfl ?_)
         refine WL_nil (at_normal ?_)
         refine W_ret ?_
         have e121 := Option.some.inj hm
         subst r
         refine ⟨_, ret1 rfl, ?_⟩
         have hS159 := (hS158).drop
         have hS160 := (hS159).drop
         exact ⟨s129, (PHeap.le.trans (PHeap.le.trans (PHeap.le.trans (PHeap.le.trans (PHeap.le.trans l103 l105) l106) l110) l117) l118), hS160, rfl⟩
       ·refine W_cond_f rfl hc109 ?_
        replace hc109 := not_true hc109
        refine W_skip (at_normal ?_)
        refine W_seq ?_
        refine W_region ?_
        refine WL_step rfl rfl (Exec.load_box_agg (ds := [Value.int .i64 (x1.States), Value.int .i64 (x1.Init), v2, v4, v6]) (hS128) A26 rfl p129 rfl ?_)
        refine WL_step rfl rfl (Exec.move (v := v100) rfl p130 ?_)
        obtain ⟨y108, q116, hm⟩ := bind_some hm
        have hS161 := (hS128).f1
        refine WL_step rfl rfl (Exec.call rfl rfl Tryd.func26 rfl N26 (args_cons rfl (args_cons rfl args_nil)) ((law45_bounded_o_sim q116 hS161 (a3.mono (PHeap.le.trans (PHeap.le.trans (PHeap.le.trans l103 l105) l106) l110)) (a5.mono (PHeap.le.trans (PHeap.le.trans (PHeap.le.trans l103 l105) l106) l110)) (a7.mono (PHeap.le.trans (PHeap.le.trans (PHeap.le.trans l103 l105) l106) l110))).mono ?_))
        rintro _ w120 ⟨_, rfl, ⟨s130, l119, hS162, rfl⟩⟩
        refine ⟨_, rfl, ?_⟩
        refine WL_step rfl rfl (Exec.assign (v := Value.bool (y108)) rfl rfl ?_)
        refine WL_nil (at_normal ?_)
        refine W_ret ?_
        have e122 := Option.some.inj hm
        subst r
        refine ⟨_, ret1 rfl, ?_⟩
        have hS163 := (hS162).drop
        have hS164 := (hS163).drop
        exact ⟨s130, (PHeap.le.trans (PHeap.le.trans (PHeap.le.trans (PHeap.le.trans l103 l105) l106) l110) l119), hS164, rfl⟩

theorem shrink_classes_sim {w0 w : World} {s : PHeap} {H : List Res} {class100 : (List Int)} {n100 : Int} {v100 : Value} {r : Int × Bool} (hm : shrink_classes_p class100 n100 = some r) (hS : St w0 s (H) w) (a100 : SliceRep (encInt .i64) s v100 class100) :
  Calls Tryd.prog 46 #[v100, Value.int .i64 (n100)] w fun e w' => ∃ v, e = .returned v ∧ ((un2 fun (y100 : Int) (y101 : Bool) => ∃ (s100 : PHeap) , PHeap.le s s100 ∧ St w0 s100 (H) w' ∧ v = Value.tuple #[Value.int .i64 (y100), Value.bool (y101)]) r) := by
 unfold shrink_classes_p at hm
 refine calls_of_W Tryd.func46 rfl rfl ?_
 refine W_seq ?_
 refine W_region ?_
 refine WL_step rfl rfl (Exec.assign (v := Value.int .i64 (0)) rfl rfl ?_)
 refine WL_step rfl rfl (Exec.assign (v := Value.bool (false)) rfl rfl ?_)
 refine WL_nil (at_normal ?_)
 refine W_seq ?_
 refine W_seq ?_
 refine W_region ?_
 refine WL_step rfl rfl (Exec.move (v := v100) rfl rfl ?_)
 refine WL_step rfl rfl (Exec.len_rep S22 rfl rfl a100 ?_)
 refine WL_step rfl rfl (Exec.move (v := Value.int .i64 (n100)) rfl rfl ?_)
 refine WL_step rfl rfl (Exec.neq rfl rfl rfl ?_)
 refine WL_nil (at_normal ?_)
 rcases ite_some hm with ⟨hc100, hm⟩ | ⟨hc100, hm⟩
 ·refine W_cond_t rfl hc100 ?_
  refine W_seq ?_
  refine W_region ?_
  refine WL_step rfl rfl (Exec.assign (v := Value.int .i64 (0)) rfl rfl ?_)
  refine WL_step rfl rfl (Exec.assign (v := Value.bool (false)) rfl rfl ?_)
  refine WL_nil (at_normal ?_)
  refine W_ret (at_ret ?_)
  have e100 := Option.some.inj hm
  subst r
  refine ⟨_, ret2 rfl, ?_⟩
  exact ⟨s, (PHeap.le_refl _), hS, (tup2 rfl rfl)⟩
 ·refine W_cond_f rfl hc100 ?_
  replace hc100 := not_true hc100
  refine W_skip (at_normal ?_)
  refine W_seq ?_
  refine W_region ?_
  refine WL_step rfl rfl (Exec.move (v := Value.int .i64 (n100)) rfl rfl ?_)
  obtain ⟨l100, q100, hm⟩ := bind_some hm
  refine WL_step rfl rfl (Exec.make (E := encBool) hS S24 Z4 rfl rfl rfl rfl q100 ?_)
  intro v101 w100 hS100
  refine WL_step rfl rfl (Exec.assign (v := v101) rfl rfl ?_)
  refine WL_nil (at_normal ?_)
  refine W_seq ?_
  refine W_region ?_
  refine WL_step rfl rfl (Exec.assign (v := Value.int .i64 (0)) rfl rfl ?_)
  refine WL_nil (at_normal ?_)
  refine W_seq ?_
  refine W_seq ?_
  refine W_region ?_
  refine WL_step rfl rfl (Exec.move (v := v100) rfl rfl ?_)
  refine WL_step rfl rfl (Exec.len_rep S22 rfl rfl a100 ?_)
  refine WL_step rfl rfl (Exec.move (v := Value.int .i64 (0)) rfl rfl ?_)
  refine WL_nil (at_normal ?_)
  obtain ⟨c100, hB100, hr100, hn100, hb100⟩ := ctl_some hm
  refine W_mid (M := fun f' w' => ∃ s', (c100 = .next s' ∨ c100 = .brk s') ∧ (un2 fun (most100 : Int) (l101 : (List Bool)) => ∃ (s101 : PHeap) , PHeap.le s s101 ∧ St w0 s101 (Res.arr encBool 4 v101 l101 :: H) w' ∧ f' 1 = Value.int .i64 (n100) ∧ f' 6 = v101 ∧ f' 7 = Value.int .i64 (most100) ∧ f' 18 = v100 ∧ f' 19 = Value.int .i64 ((class100.length : Int))) s') ?_ ?_
  ·refine W_block (W_forC (fun k' s' f' w' => (un2 fun (most101 : Int) (l102 : (List Bool)) => ∃ (s102 : PHeap) , PHeap.le s s102 ∧ St w0 s102 (Res.arr encBool 4 v101 l102 :: H) w' ∧ f' 1 = Value.int .i64 (n100) ∧ f' 6 = v101 ∧ f' 7 = Value.int .i64 (most101) ∧ f' 18 = v100 ∧ f' 19 = Value.int .i64 ((class100.length : Int)) ∧ f' 20 = Value.int .i64 (k' : Int)) s') hB100 ?_ ?_ ?_)
   ·exact ⟨s, (PHeap.le_refl _), hS100, rfl, rfl, rfl, rfl, rfl, rfl⟩
   ·intro i100 t100 c101 f100 w101 hi100 hI100 hm100 hres100
    obtain ⟨most101, l102⟩ := t100
    replace hm100 := un2_eq hm100
    obtain ⟨s103, l103, hS101, p100, p101, p102, p103, p104, x100⟩ := hI100
    refine W_seq ?_
    refine W_region ?_
    refine WL_step rfl rfl (Exec.lss rfl x100 p104 ?_)
    refine WL_nil (at_normal ?_)
    refine W_seq ?_
    refine W_true (congrArg Value.bool (decide_eq_true (by omega))) ?_
    refine W_skip (at_normal ?_)
    refine W_seq ?_
    refine W_block ?_
    refine W_seq ?_
    refine W_region ?_
    obtain ⟨x101, q101, hm100⟩ := bind_some hm100
    refine WL_step rfl rfl (Exec.index_rep S22 rfl p103 x100 (a100.mono l103) q101 ?_)
    intro b100 o100 a101
    refine WL_step rfl rfl (Exec.load_at (E := (encInt .i64)) hS101 A3 rfl rfl rfl a101 ?_)
    intro v102 q102
    obtain rfl := encInt_val.1 q102
    refine WL_step rfl rfl (Exec.assign (v := Value.int .i64 (x101)) rfl rfl ?_)
    refine WL_nil (at_normal ?_)
    refine W_seq ?_
    refine W_seq ?_
    refine W_mid (M := fun f' w' => ∃ (s104 : PHeap) , PHeap.le s103 s104 ∧ St w0 s104 (Res.arr encBool 4 v101 l102 :: H) w' ∧ f' 1 = Value.int .i64 (n100) ∧ f' 6 = v101 ∧ f' 7 = Value.int .i64 (most101) ∧ f' 9 = Value.int .i64 (x101) ∧ f' 18 = v100 ∧ f' 19 = Value.int .i64 ((class100.length : Int)) ∧ f' 20 = Value.int .i64 ((i100 : Int)) ∧ f' 30 = Value.bool (((decide (x101 < 0)) || decide (n100 ≤ x101)))) ?_ ?_
    ·refine W_region ?_
     refine WL_step rfl rfl (Exec.move (v := Value.int .i64 (x101)) rfl rfl ?_)
     refine WL_step rfl rfl (Exec.lss rfl rfl rfl ?_)
     refine WL_step rfl rfl (Exec.move (v := Value.bool (decide (x101 < 0))) rfl rfl ?_)
     by_cases hc101 : (decide (x101 < 0)) = true
     ·refine WL_pass rfl (yield_of rfl (congrArg Value.bool hc101)) rfl rfl ?_
      refine WL_pass rfl (yield_of rfl (congrArg Value.bool hc101)) rfl rfl ?_
      refine WL_pass rfl (yield_of rfl (congrArg Value.bool hc101)) rfl rfl ?_
      refine WL_step rfl rfl (Exec.pick_t (v := Value.bool (true)) rfl (congrArg Value.bool hc101) rfl ?_)
      refine WL_nil (at_normal ?_)
      exact ⟨s103, (PHeap.le_refl _), hS101, p100, p101, p102, rfl, p103, p104, x100, (congrArg Value.bool (or_t hc101)).symm⟩
     ·replace hc101 := not_true hc101
      refine WL_run rfl (yield_of rfl (congrArg Value.bool hc101)) rfl (Exec.move (v := Value.int .i64 (x101)) rfl rfl ?_)
      refine WL_run rfl (yield_of rfl (congrArg Value.bool hc101)) rfl (Exec.move (v := Value.int .i64 (n100)) rfl p100 ?_)
      refine WL_run rfl (yield_of rfl (congrArg Value.bool hc101)) rfl (Exec.geq rfl rfl rfl ?_)
      refine WL_step rfl rfl (Exec.pick_f (v := Value.bool (decide (n100 ≤ x101))) rfl (congrArg Value.bool hc101) rfl ?_)
      refine WL_nil (at_normal ?_)
      exact ⟨s103, (PHeap.le_refl _), hS101, p100, p101, p102, rfl, p103, p104, x100, (congrArg Value.bool (or_f hc101)).symm⟩
    ·intro f101 w102 hM100
     obtain ⟨s105, l104, hS102, p105, p106, p107, p108, p109, p110, p111, p112⟩ := hM100
     refine (at_normal ?_)
     rcases ite_some hm100 with ⟨hc102, hm100⟩ | ⟨hc102, hm100⟩
     ·refine W_cond_t p112 hc102 ?_
      refine W_seq ?_
      refine W_region ?_
      refine WL_step rfl rfl (Exec.assign (v := Value.int .i64 (0)) rfl rfl ?_)
      refine WL_step rfl rfl (Exec.assign (v := Value.bool (false)) rfl rfl ?_)
      refine WL_nil (at_normal ?_)
      refine W_ret (at_ret (ib_ret (at_ret (at_ret (ib_ret (at_ret (at_ret ?_)))))))
      have e101 := Option.some.inj hm100
      subst c101
      have hq100 := hr100 _ (hres100 (by intro _ h; cases h))
      have e102 := Option.some.inj hq100
      subst r
      refine ⟨_, ret2 rfl, ?_⟩
      have hS103 := (hS102).drop
      exact ⟨s105, (PHeap.le.trans l103 l104), hS103, (tup2 rfl rfl)⟩
     ·refine W_cond_f p112 hc102 ?_
      replace hc102 := not_true hc102
      refine W_skip (at_normal ?_)
      refine W_seq ?_
      refine W_region ?_
      refine WL_step rfl rfl (Exec.move (v := v101) rfl p106 ?_)
      refine WL_step rfl rfl (Exec.move (v := Value.int .i64 (x101)) rfl p108 ?_)
      obtain ⟨x102, q103, hm100⟩ := bind_some hm100
      obtain ⟨g100, c102, e103⟩ := (hS102).arr_at q103
      refine WL_step rfl rfl (Exec.index_slice S24 rfl e103 rfl (idx_some q103).1 (idx_some q103).2.1 ?_)
      obtain ⟨l105, q104, hm100⟩ := bind_some hm100
      refine WL_step rfl rfl (Exec.store_arr hS102 e103 A4 rfl rfl rfl rfl (encBool_val.2 rfl) q104 ?_)
      intro w103 hS104
      refine WL_nil (at_normal ?_)
      refine W_region ?_
      refine WL_step rfl rfl (Exec.move (v := Value.int .i64 (most101)) rfl p107 ?_)
      refine WL_step rfl rfl (Exec.move (v := Value.int .i64 (x101)) rfl p108 ?_)
      refine WL_step rfl rfl (Exec.add rfl rfl rfl ?_)
      refine WL_step rfl rfl (Exec.max2 rfl rfl rfl ?_)
      refine WL_step rfl rfl (Exec.assign (v := Value.int .i64 (max most101 (IntKind.i64.wrap (x101 + 1)))) rfl rfl ?_)
      refine WL_nil (ib_normal (at_normal ?_))
      refine W_region ?_
      refine WL_step rfl rfl (Exec.add rfl p111 rfl ?_)
      refine WL_step rfl rfl (Exec.move (v := Value.int .i64 (IntKind.i64.wrap ((i100 : Int) + 1))) rfl rfl ?_)
      refine WL_nil (at_normal ?_)
      have e104 := Option.some.inj hm100
      subst c101
      refine ⟨_, rfl, ?_⟩; exact ⟨s105, (PHeap.le.trans l103 l104), hS104, p105, p106, rfl, p109, p110, (Eq.trans rfl (wrap_up hi100 (SliceRep.le a100)))⟩
   ·intro t101 f102 w104 hI101 hres101
    obtain ⟨most101, l102⟩ := t101
    obtain ⟨s106, l106, hS105, p113, p114, p115, p116, p117, x103⟩ := hI101
    refine W_seq ?_
    refine W_region ?_
    refine WL_step rfl rfl (Exec.lss rfl x103 p117 ?_)
    refine WL_nil (at_normal ?_)
    refine W_seq ?_
    refine W_false (congrArg Value.bool (decide_eq_false (by omega))) ?_
    refine W_exit (at_exit (at_exit (ib_here (at_normal ?_))))
    refine ⟨_, .inl hres101, ?_⟩; exact ⟨s106, l106, hS105, p113, p114, p115, p116, p117⟩
  ·rintro f103 w105 ⟨t102, hc103, hM101⟩
   have hm := hc103.elim (hn100 _) (hb100 _)
   clear hc103
   obtain ⟨most100, l101⟩ := t102
   replace hm := un2_eq hm
   obtain ⟨s107, l107, hS106, p118, p119, p120, p121, p122⟩ := hM101
   refine (at_normal ?_)
   refine W_seq ?_
   refine W_seq ?_
   refine W_region ?_
   refine WL_step rfl rfl (Exec.move (v := v101) rfl p119 ?_)
   refine WL_step rfl rfl (Exec.move (v := Value.int .i64 (most100)) rfl p120 ?_)
   obtain ⟨s108, l108, hS107, r100⟩ := hS106.freezeArr
   obtain ⟨c103, q105, hm⟩ := bind_some hm
   refine WL_step rfl rfl (Exec.slice_to S24 rfl rfl rfl r100 q105 ?_)
   intro v103 r101
   refine WL_step rfl rfl (Exec.len_rep S24 rfl rfl r101 ?_)
   refine WL_step rfl rfl (Exec.move (v := Value.int .i64 (0)) rfl rfl ?_)
   refine WL_nil (at_normal ?_)
   obtain ⟨c104, hB101, hr101, hn101, hb101⟩ := ctl_some hm
   refine W_mid (M := fun f' w' => ∃ s', (c104 = .next s' ∨ c104 = .brk s') ∧ (fun (_ : Unit) => ∃ (s109 : PHeap) , PHeap.le s108 s109 ∧ St w0 s109 (H) w' ∧ f' 7 = Value.int .i64 (most100) ∧ f' 41 = v103 ∧ f' 42 = Value.int .i64 ((c103.length : Int))) s') ?_ ?_
   ·refine W_block (W_forC (fun k' s' f' w' => (fun (_ : Unit) => ∃ (s110 : PHeap) , PHeap.le s108 s110 ∧ St w0 s110 (H) w' ∧ f' 7 = Value.int .i64 (most100) ∧ f' 41 = v103 ∧ f' 42 = Value.int .i64 ((c103.length : Int)) ∧ f' 43 = Value.int .i64 (k' : Int)) s') hB101 ?_ ?_ ?_)
    ·exact ⟨s108, (PHeap.le_refl _), hS107, p120, rfl, rfl, rfl⟩
    ·intro i101 t103 c105 f104 w106 hi101 hI102 hm101 hres102
     obtain ⟨s111, l109, hS108, p123, p124, p125, x104⟩ := hI102
     refine W_seq ?_
     refine W_region ?_
     refine WL_step rfl rfl (Exec.lss rfl x104 p125 ?_)
     refine WL_nil (at_normal ?_)
     refine W_seq ?_
     refine W_true (congrArg Value.bool (decide_eq_true (by omega))) ?_
     refine W_skip (at_normal ?_)
     refine W_seq ?_
     refine W_block ?_
     refine W_seq ?_
     refine W_region ?_
     obtain ⟨x105, q106, hm101⟩ := bind_some hm101
     refine WL_step rfl rfl (Exec.index_rep S24 rfl p124 x104 (r101.mono l109) q106 ?_)
     intro b101 o101 a102
     refine WL_step rfl rfl (Exec.load_at (E := encBool) hS108 A4 rfl rfl rfl a102 ?_)
     intro v104 q107
     obtain rfl := encBool_val.1 q107
     refine WL_step rfl rfl (Exec.assign (v := Value.bool (x105)) rfl rfl ?_)
     refine WL_nil (at_normal ?_)
     refine W_seq ?_
     refine W_region ?_
     refine WL_step rfl rfl (Exec.move (v := Value.bool (x105)) rfl rfl ?_)
     refine WL_step rfl rfl (Exec.not rfl rfl ?_)
     refine WL_nil (at_normal ?_)
     rcases ite_some hm101 with ⟨hc104, hm101⟩ | ⟨hc104, hm101⟩
     ·refine W_cond_t rfl hc104 ?_
      refine W_seq ?_
      refine W_region ?_
      refine WL_step rfl rfl (Exec.assign (v := Value.int .i64 (0)) rfl rfl ?_)
      refine WL_step rfl rfl (Exec.assign (v := Value.bool (false)) rfl rfl ?_)
      refine WL_nil (at_normal ?_)
      refine W_ret (ib_ret (at_ret (at_ret (ib_ret (at_ret (at_ret ?_))))))
      have e105 := Option.some.inj hm101
      subst c105
      have hq101 := hr101 _ (hres102 (by intro _ h; cases h))
      have e106 := Option.some.inj hq101
      subst r
      refine ⟨_, ret2 rfl, ?_⟩
      exact ⟨s111, (PHeap.le.trans (PHeap.le.trans l107 l108) l109), hS108, (tup2 rfl rfl)⟩
     ·refine W_cond_f rfl hc104 ?_
      replace hc104 := not_true hc104
      refine W_skip (ib_normal (at_normal ?_))
      refine W_region ?_
      refine WL_step rfl rfl (Exec.add rfl x104 rfl ?_)
      refine WL_step rfl rfl (Exec.move (v := Value.int .i64 (IntKind.i64.wrap ((i101 : Int) + 1))) rfl rfl ?_)
      refine WL_nil (at_normal ?_)
      have e107 := Option.some.inj hm101
      subst c105
      refine ⟨_, rfl, ?_⟩; exact ⟨s111, l109, hS108, p123, p124, p125, (Eq.trans rfl (wrap_up hi101 (SliceRep.le r101)))⟩
    ·intro t104 f105 w107 hI103 hres103
     obtain ⟨s112, l110, hS109, p126, p127, p128, x106⟩ := hI103
     refine W_seq ?_
     refine W_region ?_
     refine WL_step rfl rfl (Exec.lss rfl x106 p128 ?_)
     refine WL_nil (at_normal ?_)
     refine W_seq ?_
     refine W_false (congrArg Value.bool (decide_eq_false (by omega))) ?_
     refine W_exit (at_exit (at_exit (ib_here (at_normal ?_))))
     refine ⟨_, .inl hres103, ?_⟩; exact ⟨s112, l110, hS109, p126, p127, p128⟩
   ·rintro f106 w108 ⟨t105, hc105, hM102⟩
    have hm := hc105.elim (hn101 _) (hb101 _)
    clear hc105
    obtain ⟨s113, l111, hS110, p129, p130, p131⟩ := hM102
    refine (at_normal ?_)
    refine W_seq ?_
    refine W_region ?_
    refine WL_step rfl rfl (Exec.move (v := Value.int .i64 (most100)) rfl p129 ?_)
    refine WL_step rfl rfl (Exec.assign (v := Value.int .i64 (most100)) rfl rfl ?_)
    refine WL_step rfl rfl (Exec.assign (v := Value.bool (true)) rfl rfl ?_)
    refine WL_nil (at_normal ?_)
    refine W_ret ?_
    have e108 := Option.some.inj hm
    subst r
    refine ⟨_, ret2 rfl, ?_⟩
    exact ⟨s113, (PHeap.le.trans (PHeap.le.trans l107 l108) l111), hS110, (tup2 rfl rfl)⟩

theorem shrink_Quotient_sim {w0 w : World} {s : PHeap} {H : List Res} {x100 : System} {class100 : (List Int)} {v100 : Value} {v101 : Value} {v102 : Value} {v103 : Value} {r : (Option Int) × System} (hm : shrink_Quotient_p x100 class100 = some r) (hS : St w0 s (H) w) (a100 : SliceRep (encInt .i64) s v100 x100.Costs) (a101 : SliceRep encEdge s v101 x100.Edges) (a102 : SliceRep encBool s v102 x100.Goals) (a103 : SliceRep (encInt .i64) s v103 class100) :
  Calls Tryd.prog 24 #[Value.agg #[Value.int .i64 (x100.States), Value.int .i64 (x100.Init), v100, v101, v102], v103] w fun e w' => ∃ v, e = .returned v ∧ ((un2 fun (y100 : (Option Int)) (y101 : System) => ∃ (s100 : PHeap) (v104 : Value) (v105 : Value) (v106 : Value), PHeap.le s s100 ∧ St w0 s100 (H) w' ∧ v = Value.tuple #[Value.agg #[Value.int .i64 (y101.States), Value.int .i64 (y101.Init), v104, v105, v106], errV 34 (y100)] ∧ SliceRep (encInt .i64) s100 v104 y101.Costs ∧ SliceRep encEdge s100 v105 y101.Edges ∧ SliceRep encBool s100 v106 y101.Goals) r) := by
 unfold shrink_Quotient_p at hm
 refine calls_of_W Tryd.func24 rfl rfl ?_
 refine W_seq ?_
 refine W_region ?_
 refine WL_step rfl rfl (Exec.box (cs := [Value.int .i64 (x100.States), Value.int .i64 (x100.Init), v100, v101, v102]) hS rfl rfl rfl ?_)
 intro b100 w100 hS100
 refine WL_step rfl rfl (Exec.alloc (cs := [Value.int .i64 (0), Value.int .i64 (0), Value.slice none 0 0, Value.slice none 0 0, Value.slice none 0 0]) hS100 Z26 rfl rfl ?_)
 intro b101 w101 hS101
 refine WL_step rfl rfl (Exec.assign (v := errV 34 (none)) rfl rfl ?_)
 refine WL_nil (at_normal ?_)
 refine W_seq ?_
 refine W_region ?_
 refine WL_step rfl rfl (Exec.move (v := v103) rfl rfl ?_)
 refine WL_step rfl rfl (Exec.field F26_0 rfl rfl rfl ?_)
 refine WL_step rfl rfl (Exec.load_box ((hS101).f1) A3 rfl rfl rfl ?_)
 obtain ⟨t100, q100, hm⟩ := bind_some hm
 obtain ⟨y102, y103⟩ := t100
 replace hm := un2_eq hm
 refine WL_step rfl rfl (Exec.call rfl rfl Tryd.func46 rfl N46 (args_cons rfl (args_cons rfl args_nil)) ((shrink_classes_sim q100 hS101 a103).mono ?_))
 rintro _ w102 ⟨_, rfl, ⟨s101, l100, hS102, rfl⟩⟩
 refine ⟨_, rfl, ?_⟩
 refine WL_step rfl rfl (Exec.move (v := Value.tuple #[Value.int .i64 (y102), Value.bool (y103)]) rfl rfl ?_)
 refine WL_step rfl rfl (Exec.extract (v := Value.int .i64 (y102)) rfl rfl rfl ?_)
 refine WL_step rfl rfl (Exec.extract (v := Value.bool (y103)) rfl rfl rfl ?_)
 refine WL_step rfl rfl (Exec.assign (v := Value.int .i64 (y102)) rfl rfl ?_)
 refine WL_step rfl rfl (Exec.assign (v := Value.bool (y103)) rfl rfl ?_)
 refine WL_nil (at_normal ?_)
 refine W_seq ?_
 refine W_seq ?_
 obtain ⟨z100, ht100, hm⟩ := bind_some hm
 refine W_mid (M := fun f' w' => (fun (z100 : Bool) => ∃ (s102 : PHeap) , PHeap.le s101 s102 ∧ St w0 s102 (Res.box b100 26 [Value.int .i64 (x100.States), Value.int .i64 (x100.Init), v100, v101, v102] :: Res.box b101 26 [Value.int .i64 (0), Value.int .i64 (0), Value.slice none 0 0, Value.slice none 0 0, Value.slice none 0 0] :: H) w' ∧ f' 1 = v103 ∧ f' 2 = Value.pointer (some ⟨b100, 0, none⟩) ∧ f' 4 = Value.pointer (some ⟨b101, 0, none⟩) ∧ f' 6 = Value.int .i64 (y102) ∧ f' 26 = Value.bool (z100)) z100) ?_ ?_
 ·refine W_region ?_
  refine WL_step rfl rfl (Exec.load_box_agg (ds := [Value.int .i64 (x100.States), Value.int .i64 (x100.Init), v100, v101, v102]) ((hS102).f1) A26 rfl rfl rfl ?_)
  obtain ⟨y104, q101, ht100⟩ := bind_some ht100
  refine WL_step rfl rfl (Exec.call rfl rfl Tryd.func22 rfl N22 (args_cons rfl args_nil) ((transys_Valid_sim q101 hS102 (a100.mono l100) (a101.mono l100) (a102.mono l100)).mono ?_))
  rintro _ w103 ⟨_, rfl, ⟨s103, l101, hS103, rfl⟩⟩
  refine ⟨_, rfl, ?_⟩
  refine WL_step rfl rfl (Exec.not rfl rfl ?_)
  refine WL_step rfl rfl (Exec.move (v := Value.bool (!y104)) rfl rfl ?_)
  rcases ite_some ht100 with ⟨hc100, ht100⟩ | ⟨hc100, ht100⟩
  ·refine WL_pass rfl (yield_of rfl (congrArg Value.bool hc100)) rfl rfl ?_
   refine WL_pass rfl (yield_of rfl (congrArg Value.bool hc100)) rfl rfl ?_
   refine WL_step rfl rfl (Exec.pick_t (v := Value.bool (true)) rfl (congrArg Value.bool hc100) rfl ?_)
   refine WL_nil (at_normal ?_)
   have e100 := Option.some.inj ht100
   subst z100
   have hS104 := (hS103).f1
   exact ⟨s103, l101, hS104, rfl, rfl, rfl, rfl, rfl⟩
  ·replace hc100 := not_true hc100
   refine WL_run rfl (yield_of rfl (congrArg Value.bool hc100)) rfl (Exec.move (v := Value.bool (y103)) rfl rfl ?_)
   refine WL_run rfl (yield_of rfl (congrArg Value.bool hc100)) rfl (Exec.not rfl rfl ?_)
   refine WL_step rfl rfl (Exec.pick_f (v := Value.bool (!y103)) rfl (congrArg Value.bool hc100) rfl ?_)
   refine WL_nil (at_normal ?_)
   have e101 := Option.some.inj ht100
   subst z100
   have hS105 := (hS103).f1
   exact ⟨s103, l101, hS105, rfl, rfl, rfl, rfl, rfl⟩
 ·intro f100 w104 hM100
  obtain ⟨s104, l102, hS106, p100, p101, p102, p103, p104⟩ := hM100
  refine (at_normal ?_)
  rcases ite_some hm with ⟨hc101, hm⟩ | ⟨hc101, hm⟩
  ·refine W_cond_t p104 hc101 ?_
   refine W_seq ?_
   refine W_region ?_
   refine WL_step rfl rfl (Exec.build rfl parts_nil (v := Value.agg #[Value.int .i64 (0), Value.int .i64 (0), Value.slice none 0 0, Value.slice none 0 0, Value.slice none 0 0]) (fun _ => by kernel_rfl) ?_)
   refine WL_step rfl rfl (Exec.makeInterface C34 rfl rfl ?_)
   have hS107 := (hS106).f1
   refine WL_step rfl rfl (Exec.store_box (ds := [Value.int .i64 (0), Value.int .i64 (0), Value.slice none 0 0, Value.slice none 0 0, Value.slice none 0 0]) (es := [Value.int .i64 (0), Value.int .i64 (0), Value.slice none 0 0, Value.slice none 0 0, Value.slice none 0 0]) hS107 A26 rfl p102 rfl rfl (one_cons rfl (one_cons rfl (one_cons rfl (one_cons rfl (one_cons rfl one_nil))))) (Nat.le_of_ble_eq_true rfl) rfl ?_)
   intro w105 hS108
   refine WL_step rfl rfl (Exec.assign (v := errV 34 (some 2)) rfl rfl ?_)
   refine WL_nil (at_normal ?_)
   refine W_ret (at_ret ?_)
   have e102 := Option.some.inj hm
   subst r
   refine ⟨_, retG2 rfl ⟨_, _, p102, cellRes (hS108) A26⟩ rfl, ?_⟩
   have hS109 := (hS108).drop
   have hS110 := (hS109).drop
   exact ⟨s104, (Value.slice none 0 0), (Value.slice none 0 0), (Value.slice none 0 0), (PHeap.le.trans l100 l102), hS110, (tup2 rfl rfl), (SliceRep.nil _ _), (SliceRep.nil _ _), (SliceRep.nil _ _)⟩
  ·refine W_cond_f p104 hc101 ?_
   replace hc101 := not_true hc101
   refine W_skip (at_normal ?_)
   refine W_seq ?_
   obtain ⟨x101, q102, hm⟩ := bind_some hm
   obtain ⟨y105, q103, hm⟩ := bind_some hm
   obtain ⟨l103, q104, hm⟩ := bind_some hm
   refine W_mid (M := fun f' w' => ∃ (s105 : PHeap) (b102 : Nat) (v107 : Value) (v108 : Value), PHeap.le s104 s105 ∧ St w0 s105 (Res.box b100 26 [Value.int .i64 (x100.States), Value.int .i64 (x100.Init), v100, v101, v102] :: Res.box b101 26 [Value.int .i64 (0), Value.int .i64 (0), Value.slice none 0 0, Value.slice none 0 0, Value.slice none 0 0] :: Res.box b102 26 [Value.int .i64 (y102), Value.int .i64 (x101), v107, Value.slice none 0 0, v108] :: Res.arr (encInt .i64) 3 v107 y105 :: Res.arr encBool 4 v108 l103 :: H) w' ∧ f' 1 = v103 ∧ f' 2 = Value.pointer (some ⟨b100, 0, none⟩) ∧ f' 4 = Value.pointer (some ⟨b101, 0, none⟩) ∧ f' 8 = Value.pointer (some ⟨b102, 0, none⟩)) ?_ ?_
   ·refine W_dl (n0 := 13) (.q 0 (.q 1 (.q 2 (.q 3 (.q 4 (.q 5 (.q 6 (.q 7 (.q 9 (.alt (.e 8 [0, 1, 2, 3, 4, 5, 9] (.alt (.e 10 [0, 1, 2, 3, 4, 5] (.q 11 (.e 12 [0, 1, 2, 3, 4, 5, 11] .done))) (.e 12 [0, 1, 2, 3, 4, 5, 9] (.e 10 [0, 1, 2, 3, 4, 5] (.q 11 .done))))) (.alt (.e 10 [0, 1, 2, 3, 4, 5, 6, 7] (.alt (.e 8 [0, 1, 2, 3, 4, 5] (.q 11 (.e 12 [0, 1, 2, 3, 4, 5, 11] .done))) (.e 12 [0, 1, 2, 3, 4, 5, 6, 7] (.e 8 [0, 1, 2, 3, 4, 5] (.q 11 .done))))) (.e 12 [0, 1, 2, 3, 4, 5, 6, 7, 9] (.alt (.e 8 [0, 1, 2, 3, 4, 5, 9] (.e 10 [0, 1, 2, 3, 4, 5] (.q 11 .done))) (.e 10 [0, 1, 2, 3, 4, 5, 6, 7] (.e 8 [0, 1, 2, 3, 4, 5] (.q 11 .done)))))))))))))))) hmix (by kernel_rfl) (by kernel_rfl) ?_
    have hS111 := hS106.drew
    refine DL_q rfl rfl (Exec.move (v := Value.int .i64 (y102)) rfl p103 ⟨rfl, ?_⟩)
    refine DL_q rfl rfl (Exec.move (v := v103) rfl p100 ⟨rfl, ?_⟩)
    refine DL_q rfl rfl (Exec.field F26_1 rfl p101 rfl ⟨rfl, ?_⟩)
    refine DL_q rfl rfl (Exec.load_box (hS111) A3 rfl rfl rfl ⟨rfl, ?_⟩)
    refine DL_q rfl rfl (Exec.index_repE S22 rfl rfl rfl (a103.mono (PHeap.le.trans l100 l102)) q102 ?_)
    intro b103 o100 a104 e103
    refine ⟨rfl, ?_⟩
    refine DL_q rfl rfl (Exec.load_at (E := (encInt .i64)) hS111 A3 rfl rfl rfl a104 ?_)
    intro v109 q105
    obtain rfl := encInt_val.1 q105
    refine ⟨rfl, ?_⟩
    refine DL_q rfl rfl (Exec.field F26_2 rfl p101 rfl ⟨rfl, ?_⟩)
    refine DL_q rfl rfl (Exec.load_box (hS111) A22 rfl rfl rfl ⟨rfl, ?_⟩)
    refine DL_q rfl rfl (Exec.move (v := Value.int .i64 (y102)) rfl p103 ⟨rfl, ?_⟩)
    refine DL_alt ?_ ?_
    ·refine DL_e rfl rfl (Exec.call rfl rfl Tryd.func47 rfl N47 (args_cons rfl args_nil) ((slices_Clone___int_int__sim q103 hS111 (a100.mono (PHeap.le.trans l100 l102))).mono ?_))
     rintro _ w106 ⟨v110, rfl, ⟨s106, _, l104, hS112, rfl⟩⟩
     refine ⟨_, rfl, ?_⟩
     refine ⟨(ag_cons (ag_r rfl rfl (Exec.move (v := Value.int .i64 (y102)) rfl p103 ⟨rfl, rfl⟩)) (ag_cons (ag_r rfl rfl (Exec.move (v := v103) rfl p100 ⟨rfl, rfl⟩)) (ag_cons (ag_r rfl rfl (Exec.field F26_1 rfl p101 rfl ⟨rfl, rfl⟩)) (ag_cons (ag_r rfl rfl (Exec.load_box ((hS112).f1) A3 rfl rfl rfl ⟨rfl, rfl⟩)) (ag_cons (ag_r rfl rfl (Exec.index_run rfl rfl rfl e103 ⟨rfl, rfl⟩)) (ag_cons (ag_r rfl rfl (Exec.load_at (E := (encInt .i64)) hS112 A3 rfl rfl rfl (a104.mono l104) (fun _ q => ⟨rfl, encInt_val.1 q⟩))) (ag_cons (ag_r rfl rfl (Exec.move (v := Value.int .i64 (y102)) rfl p103 ⟨rfl, rfl⟩)) ag_nil))))))), ?_⟩
     refine DL_alt ?_ ?_
     ·refine DL_e rfl rfl (Exec.make (E := encBool) hS112 S24 Z4 rfl rfl rfl rfl q104 ?_)
      intro v111 w107 hS113
      refine ⟨(ag_cons (ag_r rfl rfl (Exec.move (v := Value.int .i64 (y102)) rfl p103 ⟨rfl, rfl⟩)) (ag_cons (ag_r rfl rfl (Exec.move (v := v103) rfl p100 ⟨rfl, rfl⟩)) (ag_cons (ag_r rfl rfl (Exec.field F26_1 rfl p101 rfl ⟨rfl, rfl⟩)) (ag_cons (ag_r rfl rfl (Exec.load_box ((hS113).f2) A3 rfl rfl rfl ⟨rfl, rfl⟩)) (ag_cons (ag_r rfl rfl (Exec.index_run rfl rfl rfl e103 ⟨rfl, rfl⟩)) (ag_cons (ag_r rfl rfl (Exec.load_at (E := (encInt .i64)) hS113 A3 rfl rfl rfl (a104.mono l104) (fun _ q => ⟨rfl, encInt_val.1 q⟩))) ag_nil)))))), ?_⟩
      refine DL_q rfl rfl (Exec.build rfl (parts_cons (c := [Value.int .i64 (y102)]) (cells_of rfl rfl) (parts_cons (c := [Value.int .i64 (x101)]) (cells_of rfl rfl) (parts_cons (c := [v110]) (cells_of rfl (cells_one ((hS113).f1).arr_one)) (parts_cons (c := [v111]) (cells_of rfl (cells_one (hS113).arr_one)) parts_nil)))) (v := Value.agg #[Value.int .i64 (y102), Value.int .i64 (x101), v110, Value.slice none 0 0, v111]) (fun _ => by kernel_rfl) ⟨rfl, ?_⟩)
      refine DL_e rfl rfl (Exec.alloc (cs := [Value.int .i64 (0), Value.int .i64 (0), Value.slice none 0 0, Value.slice none 0 0, Value.slice none 0 0]) hS113 Z26 rfl rfl ?_)
      intro b104 w108 hS114
      refine ⟨(ag_cons (ag_r rfl rfl (Exec.move (v := Value.int .i64 (y102)) rfl p103 ⟨rfl, rfl⟩)) (ag_cons (ag_r rfl rfl (Exec.move (v := v103) rfl p100 ⟨rfl, rfl⟩)) (ag_cons (ag_r rfl rfl (Exec.field F26_1 rfl p101 rfl ⟨rfl, rfl⟩)) (ag_cons (ag_r rfl rfl (Exec.load_box ((hS114).f3) A3 rfl rfl rfl ⟨rfl, rfl⟩)) (ag_cons (ag_r rfl rfl (Exec.index_run rfl rfl rfl e103 ⟨rfl, rfl⟩)) (ag_cons (ag_r rfl rfl (Exec.load_at (E := (encInt .i64)) hS114 A3 rfl rfl rfl (a104.mono l104) (fun _ q => ⟨rfl, encInt_val.1 q⟩))) (ag_cons (ag_r rfl rfl (Exec.build rfl (parts_cons (c := [Value.int .i64 (y102)]) (cells_of rfl rfl) (parts_cons (c := [Value.int .i64 (x101)]) (cells_of rfl rfl) (parts_cons (c := [v110]) (cells_of rfl (cells_one ((hS114).f2).arr_one)) (parts_cons (c := [v111]) (cells_of rfl (cells_one ((hS114).f1).arr_one)) parts_nil)))) (v := Value.agg #[Value.int .i64 (y102), Value.int .i64 (x101), v110, Value.slice none 0 0, v111]) (fun _ => by kernel_rfl) ⟨rfl, rfl⟩)) ag_nil))))))), ?_⟩
      refine DL_done ?_
      refine WL_step rfl rfl (Exec.store_box (ds := [Value.int .i64 (y102), Value.int .i64 (x101), v110, Value.slice none 0 0, v111]) (es := [Value.int .i64 (y102), Value.int .i64 (x101), v110, Value.slice none 0 0, v111]) hS114 A26 rfl rfl rfl rfl (one_cons rfl (one_cons rfl (one_cons ((hS114).f2).arr_one (one_cons rfl (one_cons ((hS114).f1).arr_one one_nil))))) (Nat.le_of_ble_eq_true rfl) rfl ?_)
      intro w109 hS115
      refine WL_nil (at_normal ?_)
      have hS116 := (hS115).f1
      have hS117 := (hS116).f2
      have hS118 := (hS117).f2
      have hS119 := (hS118).f4
      have hS120 := (hS119).f4
      exact ⟨s106, b104, v110, v111, l104, hS120, p100, p101, p102, rfl⟩
     refine DL_e rfl rfl (Exec.alloc (cs := [Value.int .i64 (0), Value.int .i64 (0), Value.slice none 0 0, Value.slice none 0 0, Value.slice none 0 0]) hS112 Z26 rfl rfl ?_)
     intro b105 w110 hS121
     refine ⟨(ag_cons (ag_r rfl rfl (Exec.move (v := Value.int .i64 (y102)) rfl p103 ⟨rfl, rfl⟩)) (ag_cons (ag_r rfl rfl (Exec.move (v := v103) rfl p100 ⟨rfl, rfl⟩)) (ag_cons (ag_r rfl rfl (Exec.field F26_1 rfl p101 rfl ⟨rfl, rfl⟩)) (ag_cons (ag_r rfl rfl (Exec.load_box ((hS121).f2) A3 rfl rfl rfl ⟨rfl, rfl⟩)) (ag_cons (ag_r rfl rfl (Exec.index_run rfl rfl rfl e103 ⟨rfl, rfl⟩)) (ag_cons (ag_r rfl rfl (Exec.load_at (E := (encInt .i64)) hS121 A3 rfl rfl rfl (a104.mono l104) (fun _ q => ⟨rfl, encInt_val.1 q⟩))) (ag_cons (ag_r rfl rfl (Exec.move (v := Value.int .i64 (y102)) rfl p103 ⟨rfl, rfl⟩)) ag_nil))))))), ?_⟩
     refine DL_e rfl rfl (Exec.make (E := encBool) hS121 S24 Z4 rfl rfl rfl rfl q104 ?_)
     intro v112 w111 hS122
     refine ⟨(ag_cons (ag_r rfl rfl (Exec.move (v := Value.int .i64 (y102)) rfl p103 ⟨rfl, rfl⟩)) (ag_cons (ag_r rfl rfl (Exec.move (v := v103) rfl p100 ⟨rfl, rfl⟩)) (ag_cons (ag_r rfl rfl (Exec.field F26_1 rfl p101 rfl ⟨rfl, rfl⟩)) (ag_cons (ag_r rfl rfl (Exec.load_box ((hS122).f3) A3 rfl rfl rfl ⟨rfl, rfl⟩)) (ag_cons (ag_r rfl rfl (Exec.index_run rfl rfl rfl e103 ⟨rfl, rfl⟩)) (ag_cons (ag_r rfl rfl (Exec.load_at (E := (encInt .i64)) hS122 A3 rfl rfl rfl (a104.mono l104) (fun _ q => ⟨rfl, encInt_val.1 q⟩))) ag_nil)))))), ?_⟩
     refine DL_q rfl rfl (Exec.build rfl (parts_cons (c := [Value.int .i64 (y102)]) (cells_of rfl rfl) (parts_cons (c := [Value.int .i64 (x101)]) (cells_of rfl rfl) (parts_cons (c := [v110]) (cells_of rfl (cells_one ((hS122).f2).arr_one)) (parts_cons (c := [v112]) (cells_of rfl (cells_one (hS122).arr_one)) parts_nil)))) (v := Value.agg #[Value.int .i64 (y102), Value.int .i64 (x101), v110, Value.slice none 0 0, v112]) (fun _ => by kernel_rfl) ⟨rfl, ?_⟩)
     refine DL_done ?_
     have hS123 := (hS122).f1
     refine WL_step rfl rfl (Exec.store_box (ds := [Value.int .i64 (y102), Value.int .i64 (x101), v110, Value.slice none 0 0, v112]) (es := [Value.int .i64 (y102), Value.int .i64 (x101), v110, Value.slice none 0 0, v112]) hS123 A26 rfl rfl rfl rfl (one_cons rfl (one_cons rfl (one_cons ((hS123).f2).arr_one (one_cons rfl (one_cons ((hS123).f1).arr_one one_nil))))) (Nat.le_of_ble_eq_true rfl) rfl ?_)
     intro w112 hS124
     refine WL_nil (at_normal ?_)
     have hS125 := (hS124).f1
     have hS126 := (hS125).f2
     have hS127 := (hS126).f2
     have hS128 := (hS127).f4
     have hS129 := (hS128).f4
     exact ⟨s106, b105, v110, v112, l104, hS129, p100, p101, p102, rfl⟩
    refine DL_alt ?_ ?_
    ·refine DL_e rfl rfl (Exec.make (E := encBool) hS111 S24 Z4 rfl rfl rfl rfl q104 ?_)
     intro v113 w113 hS130
     refine ⟨(ag_cons (ag_r rfl rfl (Exec.move (v := Value.int .i64 (y102)) rfl p103 ⟨rfl, rfl⟩)) (ag_cons (ag_r rfl rfl (Exec.move (v := v103) rfl p100 ⟨rfl, rfl⟩)) (ag_cons (ag_r rfl rfl (Exec.field F26_1 rfl p101 rfl ⟨rfl, rfl⟩)) (ag_cons (ag_r rfl rfl (Exec.load_box ((hS130).f1) A3 rfl rfl rfl ⟨rfl, rfl⟩)) (ag_cons (ag_r rfl rfl (Exec.index_run rfl rfl rfl e103 ⟨rfl, rfl⟩)) (ag_cons (ag_r rfl rfl (Exec.load_at (E := (encInt .i64)) hS130 A3 rfl rfl rfl a104 (fun _ q => ⟨rfl, encInt_val.1 q⟩))) (ag_cons (ag_r rfl rfl (Exec.field F26_2 rfl p101 rfl ⟨rfl, rfl⟩)) (ag_cons (ag_r rfl rfl (Exec.load_box ((hS130).f1) A22 rfl rfl rfl ⟨rfl, rfl⟩)) ag_nil)))))))), ?_⟩
     refine DL_alt ?_ ?_
     ·refine DL_e rfl rfl (Exec.call rfl rfl Tryd.func47 rfl N47 (args_cons rfl args_nil) ((slices_Clone___int_int__sim q103 hS130 (a100.mono (PHeap.le.trans l100 l102))).mono ?_))
      rintro _ w114 ⟨v114, rfl, ⟨s107, _, l105, hS131, rfl⟩⟩
      refine ⟨_, rfl, ?_⟩
      refine ⟨(ag_cons (ag_r rfl rfl (Exec.move (v := Value.int .i64 (y102)) rfl p103 ⟨rfl, rfl⟩)) (ag_cons (ag_r rfl rfl (Exec.move (v := v103) rfl p100 ⟨rfl, rfl⟩)) (ag_cons (ag_r rfl rfl (Exec.field F26_1 rfl p101 rfl ⟨rfl, rfl⟩)) (ag_cons (ag_r rfl rfl (Exec.load_box ((hS131).f2) A3 rfl rfl rfl ⟨rfl, rfl⟩)) (ag_cons (ag_r rfl rfl (Exec.index_run rfl rfl rfl e103 ⟨rfl, rfl⟩)) (ag_cons (ag_r rfl rfl (Exec.load_at (E := (encInt .i64)) hS131 A3 rfl rfl rfl (a104.mono l105) (fun _ q => ⟨rfl, encInt_val.1 q⟩))) ag_nil)))))), ?_⟩
      refine DL_q rfl rfl (Exec.build rfl (parts_cons (c := [Value.int .i64 (y102)]) (cells_of rfl rfl) (parts_cons (c := [Value.int .i64 (x101)]) (cells_of rfl rfl) (parts_cons (c := [v114]) (cells_of rfl (cells_one (hS131).arr_one)) (parts_cons (c := [v113]) (cells_of rfl (cells_one ((hS131).f1).arr_one)) parts_nil)))) (v := Value.agg #[Value.int .i64 (y102), Value.int .i64 (x101), v114, Value.slice none 0 0, v113]) (fun _ => by kernel_rfl) ⟨rfl, ?_⟩)
      refine DL_e rfl rfl (Exec.alloc (cs := [Value.int .i64 (0), Value.int .i64 (0), Value.slice none 0 0, Value.slice none 0 0, Value.slice none 0 0]) hS131 Z26 rfl rfl ?_)
      intro b106 w115 hS132
      refine ⟨(ag_cons (ag_r rfl rfl (Exec.move (v := Value.int .i64 (y102)) rfl p103 ⟨rfl, rfl⟩)) (ag_cons (ag_r rfl rfl (Exec.move (v := v103) rfl p100 ⟨rfl, rfl⟩)) (ag_cons (ag_r rfl rfl (Exec.field F26_1 rfl p101 rfl ⟨rfl, rfl⟩)) (ag_cons (ag_r rfl rfl (Exec.load_box ((hS132).f3) A3 rfl rfl rfl ⟨rfl, rfl⟩)) (ag_cons (ag_r rfl rfl (Exec.index_run rfl rfl rfl e103 ⟨rfl, rfl⟩)) (ag_cons (ag_r rfl rfl (Exec.load_at (E := (encInt .i64)) hS132 A3 rfl rfl rfl (a104.mono l105) (fun _ q => ⟨rfl, encInt_val.1 q⟩))) (ag_cons (ag_r rfl rfl (Exec.build rfl (parts_cons (c := [Value.int .i64 (y102)]) (cells_of rfl rfl) (parts_cons (c := [Value.int .i64 (x101)]) (cells_of rfl rfl) (parts_cons (c := [v114]) (cells_of rfl (cells_one ((hS132).f1).arr_one)) (parts_cons (c := [v113]) (cells_of rfl (cells_one ((hS132).f2).arr_one)) parts_nil)))) (v := Value.agg #[Value.int .i64 (y102), Value.int .i64 (x101), v114, Value.slice none 0 0, v113]) (fun _ => by kernel_rfl) ⟨rfl, rfl⟩)) ag_nil))))))), ?_⟩
      refine DL_done ?_
      refine WL_step rfl rfl (Exec.store_box (ds := [Value.int .i64 (y102), Value.int .i64 (x101), v114, Value.slice none 0 0, v113]) (es := [Value.int .i64 (y102), Value.int .i64 (x101), v114, Value.slice none 0 0, v113]) hS132 A26 rfl rfl rfl rfl (one_cons rfl (one_cons rfl (one_cons ((hS132).f1).arr_one (one_cons rfl (one_cons ((hS132).f2).arr_one one_nil))))) (Nat.le_of_ble_eq_true rfl) rfl ?_)
      intro w116 hS133
      refine WL_nil (at_normal ?_)
      have hS134 := (hS133).f2
      have hS135 := (hS134).f2
      have hS136 := (hS135).f2
      have hS137 := (hS136).f4
      have hS138 := (hS137).f4
      exact ⟨s107, b106, v114, v113, l105, hS138, p100, p101, p102, rfl⟩
     refine DL_e rfl rfl (Exec.alloc (cs := [Value.int .i64 (0), Value.int .i64 (0), Value.slice none 0 0, Value.slice none 0 0, Value.slice none 0 0]) hS130 Z26 rfl rfl ?_)
     intro b107 w117 hS139
     refine ⟨(ag_cons (ag_r rfl rfl (Exec.move (v := Value.int .i64 (y102)) rfl p103 ⟨rfl, rfl⟩)) (ag_cons (ag_r rfl rfl (Exec.move (v := v103) rfl p100 ⟨rfl, rfl⟩)) (ag_cons (ag_r rfl rfl (Exec.field F26_1 rfl p101 rfl ⟨rfl, rfl⟩)) (ag_cons (ag_r rfl rfl (Exec.load_box ((hS139).f2) A3 rfl rfl rfl ⟨rfl, rfl⟩)) (ag_cons (ag_r rfl rfl (Exec.index_run rfl rfl rfl e103 ⟨rfl, rfl⟩)) (ag_cons (ag_r rfl rfl (Exec.load_at (E := (encInt .i64)) hS139 A3 rfl rfl rfl a104 (fun _ q => ⟨rfl, encInt_val.1 q⟩))) (ag_cons (ag_r rfl rfl (Exec.field F26_2 rfl p101 rfl ⟨rfl, rfl⟩)) (ag_cons (ag_r rfl rfl (Exec.load_box ((hS139).f2) A22 rfl rfl rfl ⟨rfl, rfl⟩)) ag_nil)))))))), ?_⟩
     refine DL_e rfl rfl (Exec.call rfl rfl Tryd.func47 rfl N47 (args_cons rfl args_nil) ((slices_Clone___int_int__sim q103 hS139 (a100.mono (PHeap.le.trans l100 l102))).mono ?_))
     rintro _ w118 ⟨v115, rfl, ⟨s108, _, l106, hS140, rfl⟩⟩
     refine ⟨_, rfl, ?_⟩
     refine ⟨(ag_cons (ag_r rfl rfl (Exec.move (v := Value.int .i64 (y102)) rfl p103 ⟨rfl, rfl⟩)) (ag_cons (ag_r rfl rfl (Exec.move (v := v103) rfl p100 ⟨rfl, rfl⟩)) (ag_cons (ag_r rfl rfl (Exec.field F26_1 rfl p101 rfl ⟨rfl, rfl⟩)) (ag_cons (ag_r rfl rfl (Exec.load_box ((hS140).f3) A3 rfl rfl rfl ⟨rfl, rfl⟩)) (ag_cons (ag_r rfl rfl (Exec.index_run rfl rfl rfl e103 ⟨rfl, rfl⟩)) (ag_cons (ag_r rfl rfl (Exec.load_at (E := (encInt .i64)) hS140 A3 rfl rfl rfl (a104.mono l106) (fun _ q => ⟨rfl, encInt_val.1 q⟩))) ag_nil)))))), ?_⟩
     refine DL_q rfl rfl (Exec.build rfl (parts_cons (c := [Value.int .i64 (y102)]) (cells_of rfl rfl) (parts_cons (c := [Value.int .i64 (x101)]) (cells_of rfl rfl) (parts_cons (c := [v115]) (cells_of rfl (cells_one (hS140).arr_one)) (parts_cons (c := [v113]) (cells_of rfl (cells_one ((hS140).f2).arr_one)) parts_nil)))) (v := Value.agg #[Value.int .i64 (y102), Value.int .i64 (x101), v115, Value.slice none 0 0, v113]) (fun _ => by kernel_rfl) ⟨rfl, ?_⟩)
     refine DL_done ?_
     have hS141 := (hS140).f1
     refine WL_step rfl rfl (Exec.store_box (ds := [Value.int .i64 (y102), Value.int .i64 (x101), v115, Value.slice none 0 0, v113]) (es := [Value.int .i64 (y102), Value.int .i64 (x101), v115, Value.slice none 0 0, v113]) hS141 A26 rfl rfl rfl rfl (one_cons rfl (one_cons rfl (one_cons ((hS141).f1).arr_one (one_cons rfl (one_cons ((hS141).f2).arr_one one_nil))))) (Nat.le_of_ble_eq_true rfl) rfl ?_)
     intro w119 hS142
     refine WL_nil (at_normal ?_)
     have hS143 := (hS142).f2
     have hS144 := (hS143).f2
     have hS145 := (hS144).f2
     have hS146 := (hS145).f4
     have hS147 := (hS146).f4
     exact ⟨s108, b107, v115, v113, l106, hS147, p100, p101, p102, rfl⟩
    refine DL_e rfl rfl (Exec.alloc (cs := [Value.int .i64 (0), Value.int .i64 (0), Value.slice none 0 0, Value.slice none 0 0, Value.slice none 0 0]) hS111 Z26 rfl rfl ?_)
    intro b108 w120 hS148
    refine ⟨(ag_cons (ag_r rfl rfl (Exec.move (v := Value.int .i64 (y102)) rfl p103 ⟨rfl, rfl⟩)) (ag_cons (ag_r rfl rfl (Exec.move (v := v103) rfl p100 ⟨rfl, rfl⟩)) (ag_cons (ag_r rfl rfl (Exec.field F26_1 rfl p101 rfl ⟨rfl, rfl⟩)) (ag_cons (ag_r rfl rfl (Exec.load_box ((hS148).f1) A3 rfl rfl rfl ⟨rfl, rfl⟩)) (ag_cons (ag_r rfl rfl (Exec.index_run rfl rfl rfl e103 ⟨rfl, rfl⟩)) (ag_cons (ag_r rfl rfl (Exec.load_at (E := (encInt .i64)) hS148 A3 rfl rfl rfl a104 (fun _ q => ⟨rfl, encInt_val.1 q⟩))) (ag_cons (ag_r rfl rfl (Exec.field F26_2 rfl p101 rfl ⟨rfl, rfl⟩)) (ag_cons (ag_r rfl rfl (Exec.load_box ((hS148).f1) A22 rfl rfl rfl ⟨rfl, rfl⟩)) (ag_cons (ag_r rfl rfl (Exec.move (v := Value.int .i64 (y102)) rfl p103 ⟨rfl, rfl⟩)) ag_nil))))))))), ?_⟩
    refine DL_alt ?_ ?_
    ·refine DL_e rfl rfl (Exec.call rfl rfl Tryd.func47 rfl N47 (args_cons rfl args_nil) ((slices_Clone___int_int__sim q103 hS148 (a100.mono (PHeap.le.trans l100 l102))).mono ?_))
     rintro _ w121 ⟨v116, rfl, ⟨s109, _, l107, hS149, rfl⟩⟩
     refine ⟨_, rfl, ?_⟩
     refine ⟨(ag_cons (ag_r rfl rfl (Exec.move (v := Value.int .i64 (y102)) rfl p103 ⟨rfl, rfl⟩)) (ag_cons (ag_r rfl rfl (Exec.move (v := v103) rfl p100 ⟨rfl, rfl⟩)) (ag_cons (ag_r rfl rfl (Exec.field F26_1 rfl p101 rfl ⟨rfl, rfl⟩)) (ag_cons (ag_r rfl rfl (Exec.load_box ((hS149).f2) A3 rfl rfl rfl ⟨rfl, rfl⟩)) (ag_cons (ag_r rfl rfl (Exec.index_run rfl rfl rfl e103 ⟨rfl, rfl⟩)) (ag_cons (ag_r rfl rfl (Exec.load_at (E := (encInt .i64)) hS149 A3 rfl rfl rfl (a104.mono l107) (fun _ q => ⟨rfl, encInt_val.1 q⟩))) (ag_cons (ag_r rfl rfl (Exec.move (v := Value.int .i64 (y102)) rfl p103 ⟨rfl, rfl⟩)) ag_nil))))))), ?_⟩
     refine DL_e rfl rfl (Exec.make (E := encBool) hS149 S24 Z4 rfl rfl rfl rfl q104 ?_)
     intro v117 w122 hS150
     refine ⟨(ag_cons (ag_r rfl rfl (Exec.move (v := Value.int .i64 (y102)) rfl p103 ⟨rfl, rfl⟩)) (ag_cons (ag_r rfl rfl (Exec.move (v := v103) rfl p100 ⟨rfl, rfl⟩)) (ag_cons (ag_r rfl rfl (Exec.field F26_1 rfl p101 rfl ⟨rfl, rfl⟩)) (ag_cons (ag_r rfl rfl (Exec.load_box ((hS150).f3) A3 rfl rfl rfl ⟨rfl, rfl⟩)) (ag_cons (ag_r rfl rfl (Exec.index_run rfl rfl rfl e103 ⟨rfl, rfl⟩)) (ag_cons (ag_r rfl rfl (Exec.load_at (E := (encInt .i64)) hS150 A3 rfl rfl rfl (a104.mono l107) (fun _ q => ⟨rfl, encInt_val.1 q⟩))) ag_nil)))))), ?_⟩
     refine DL_q rfl rfl (Exec.build rfl (parts_cons (c := [Value.int .i64 (y102)]) (cells_of rfl rfl) (parts_cons (c := [Value.int .i64 (x101)]) (cells_of rfl rfl) (parts_cons (c := [v116]) (cells_of rfl (cells_one ((hS150).f1).arr_one)) (parts_cons (c := [v117]) (cells_of rfl (cells_one (hS150).arr_one)) parts_nil)))) (v := Value.agg #[Value.int .i64 (y102), Value.int .i64 (x101), v116, Value.slice none 0 0, v117]) (fun _ => by kernel_rfl) ⟨rfl, ?_⟩)
     refine DL_done ?_
     have hS151 := (hS150).f2
     refine WL_step rfl rfl (Exec.store_box (ds := [Value.int .i64 (y102), Value.int .i64 (x101), v116, Value.slice none 0 0, v117]) (es := [Value.int .i64 (y102), Value.int .i64 (x101), v116, Value.slice none 0 0, v117]) hS151 A26 rfl rfl rfl rfl (one_cons rfl (one_cons rfl (one_cons ((hS151).f2).arr_one (one_cons rfl (one_cons ((hS151).f1).arr_one one_nil))))) (Nat.le_of_ble_eq_true rfl) rfl ?_)
     intro w123 hS152
     refine WL_nil (at_normal ?_)
     have hS153 := (hS152).f1
     have hS154 := (hS153).f2
     have hS155 := (hS154).f2
     have hS156 := (hS155).f4
     have hS157 := (hS156).f4
     exact ⟨s109, b108, v116, v117, l107, hS157, p100, p101, p102, rfl⟩
    refine DL_e rfl rfl (Exec.make (E := encBool) hS148 S24 Z4 rfl rfl rfl rfl q104 ?_)
    intro v118 w124 hS158
    refine ⟨(ag_cons (ag_r rfl rfl (Exec.move (v := Value.int .i64 (y102)) rfl p103 ⟨rfl, rfl⟩)) (ag_cons (ag_r rfl rfl (Exec.move (v := v103) rfl p100 ⟨rfl, rfl⟩)) (ag_cons (ag_r rfl rfl (Exec.field F26_1 rfl p101 rfl ⟨rfl, rfl⟩)) (ag_cons (ag_r rfl rfl (Exec.load_box ((hS158).f2) A3 rfl rfl rfl ⟨rfl, rfl⟩)) (ag_cons (ag_r rfl rfl (Exec.index_run rfl rfl rfl e103 ⟨rfl, rfl⟩)) (ag_cons (ag_r rfl rfl (Exec.load_at (E := (encInt .i64)) hS158 A3 rfl rfl rfl a104 (fun _ q => ⟨rfl, encInt_val.1 q⟩))) (ag_cons (ag_r rfl rfl (Exec.field F26_2 rfl p101 rfl ⟨rfl, rfl⟩)) (ag_cons (ag_r rfl rfl (Exec.load_box ((hS158).f2) A22 rfl rfl rfl ⟨rfl, rfl⟩)) ag_nil)))))))), ?_⟩
    refine DL_e rfl rfl (Exec.call rfl rfl Tryd.func47 rfl N47 (args_cons rfl args_nil) ((slices_Clone___int_int__sim q103 hS158 (a100.mono (PHeap.le.trans l100 l102))).mono ?_))
    rintro _ w125 ⟨v119, rfl, ⟨s110, _, l108, hS159, rfl⟩⟩
    refine ⟨_, rfl, ?_⟩
    refine ⟨(ag_cons (ag_r rfl rfl (Exec.move (v := Value.int .i64 (y102)) rfl p103 ⟨rfl, rfl⟩)) (ag_cons (ag_r rfl rfl (Exec.move (v := v103) rfl p100 ⟨rfl, rfl⟩)) (ag_cons (ag_r rfl rfl (Exec.field F26_1 rfl p101 rfl ⟨rfl, rfl⟩)) (ag_cons (ag_r rfl rfl (Exec.load_box ((hS159).f3) A3 rfl rfl rfl ⟨rfl, rfl⟩)) (ag_cons (ag_r rfl rfl (Exec.index_run rfl rfl rfl e103 ⟨rfl, rfl⟩)) (ag_cons (ag_r rfl rfl (Exec.load_at (E := (encInt .i64)) hS159 A3 rfl rfl rfl (a104.mono l108) (fun _ q => ⟨rfl, encInt_val.1 q⟩))) ag_nil)))))), ?_⟩
    refine DL_q rfl rfl (Exec.build rfl (parts_cons (c := [Value.int .i64 (y102)]) (cells_of rfl rfl) (parts_cons (c := [Value.int .i64 (x101)]) (cells_of rfl rfl) (parts_cons (c := [v119]) (cells_of rfl (cells_one (hS159).arr_one)) (parts_cons (c := [v118]) (cells_of rfl (cells_one ((hS159).f1).arr_one)) parts_nil)))) (v := Value.agg #[Value.int .i64 (y102), Value.int .i64 (x101), v119, Value.slice none 0 0, v118]) (fun _ => by kernel_rfl) ⟨rfl, ?_⟩)
    refine DL_done ?_
    have hS160 := (hS159).f2
    refine WL_step rfl rfl (Exec.store_box (ds := [Value.int .i64 (y102), Value.int .i64 (x101), v119, Value.slice none 0 0, v118]) (es := [Value.int .i64 (y102), Value.int .i64 (x101), v119, Value.slice none 0 0, v118]) hS160 A26 rfl rfl rfl rfl (one_cons rfl (one_cons rfl (one_cons ((hS160).f1).arr_one (one_cons rfl (one_cons ((hS160).f2).arr_one one_nil))))) (Nat.le_of_ble_eq_true rfl) rfl ?_)
    intro w126 hS161
    refine WL_nil (at_normal ?_)
    have hS162 := (hS161).f2
    have hS163 := (hS162).f2
    have hS164 := (hS163).f2
    have hS165 := (hS164).f4
    have hS166 := (hS165).f4
    exact ⟨s110, b108, v119, v118, l108, hS166, p100, p101, p102, rfl⟩
   ·intro f101 w127 hM101
    obtain ⟨s111, b102, v107, v108, l109, hS167, p105, p106, p107, p108⟩ := hM101
    refine (at_normal ?_)
    refine W_seq ?_
    refine W_seq ?_
    refine W_region ?_
    refine WL_step rfl rfl (Exec.field F26_4 rfl p106 rfl ?_)
    refine WL_step rfl rfl (Exec.load_box (hS167) A24 rfl rfl rfl ?_)
    refine WL_step rfl rfl (Exec.len_rep S24 rfl rfl (a102.mono (PHeap.le.trans (PHeap.le.trans l100 l102) l109)) ?_)
    refine WL_step rfl rfl (Exec.move (v := Value.int .i64 (0)) rfl rfl ?_)
    refine WL_nil (at_normal ?_)
    obtain ⟨l110, hB100, hm⟩ := bind_some hm
    refine W_block (W_forS (fun k' s' f' w' => (fun (l110 : (List Bool)) => ∃ (s112 : PHeap) , PHeap.le s111 s112 ∧ St w0 s112 (Res.box b100 26 [Value.int .i64 (x100.States), Value.int .i64 (x100.Init), v100, v101, v102] :: Res.box b101 26 [Value.int .i64 (0), Value.int .i64 (0), Value.slice none 0 0, Value.slice none 0 0, Value.slice none 0 0] :: Res.box b102 26 [Value.int .i64 (y102), Value.int .i64 (x101), v107, Value.slice none 0 0, v108] :: Res.arr (encInt .i64) 3 v107 y105 :: Res.arr encBool 4 v108 l110 :: H) w' ∧ f' 1 = v103 ∧ f' 2 = Value.pointer (some ⟨b100, 0, none⟩) ∧ f' 4 = Value.pointer (some ⟨b101, 0, none⟩) ∧ f' 8 = Value.pointer (some ⟨b102, 0, none⟩) ∧ f' 42 = v102 ∧ f' 43 = Value.int .i64 ((x100.Goals.length : Int)) ∧ f' 44 = Value.int .i64 (k' : Int)) s') hB100 ?_ ?_ ?_)
    ·have hS168 := (hS167).f4
     have hS169 := (hS168).f4
     have hS170 := (hS169).f4
     have hS171 := (hS170).f4
     have hS172 := (hS171).f4
     exact ⟨s111, (PHeap.le_refl _), hS172, p105, p106, p107, p108, rfl, rfl, rfl⟩
    ·intro i100 l110 s113 f102 w128 hi100 hI100 hm100
     obtain ⟨s114, l111, hS173, p109, p110, p111, p112, p113, p114, x102⟩ := hI100
     refine W_seq ?_
     refine W_region ?_
     refine WL_step rfl rfl (Exec.lss rfl x102 p114 ?_)
     refine WL_nil (at_normal ?_)
     refine W_seq ?_
     refine W_true (congrArg Value.bool (decide_eq_true (by omega))) ?_
     refine W_skip (at_normal ?_)
     refine W_seq ?_
     refine W_block ?_
     refine W_seq ?_
     refine W_region ?_
     refine WL_step rfl rfl (Exec.move (v := Value.int .i64 ((i100 : Int))) rfl x102 ?_)
     obtain ⟨x103, q106, hm100⟩ := bind_some hm100
     refine WL_step rfl rfl (Exec.index_rep S24 rfl p113 x102 (a102.mono (PHeap.le.trans (PHeap.le.trans (PHeap.le.trans l100 l102) l109) l111)) q106 ?_)
     intro b109 o101 a105
     refine WL_step rfl rfl (Exec.load_at (E := encBool) hS173 A4 rfl rfl rfl a105 ?_)
     intro v120 q107
     obtain rfl := encBool_val.1 q107
     refine WL_step rfl rfl (Exec.assign (v := Value.int .i64 ((i100 : Int))) rfl rfl ?_)
     refine WL_step rfl rfl (Exec.assign (v := Value.bool (x103)) rfl rfl ?_)
     refine WL_nil (at_normal ?_)
     obtain ⟨l112, ht101, hm100⟩ := bind_some hm100
     refine W_mid (M := fun f' w' => (fun (l112 : (List Bool)) => ∃ (s115 : PHeap) , PHeap.le s114 s115 ∧ St w0 s115 (Res.box b100 26 [Value.int .i64 (x100.States), Value.int .i64 (x100.Init), v100, v101, v102] :: Res.box b101 26 [Value.int .i64 (0), Value.int .i64 (0), Value.slice none 0 0, Value.slice none 0 0, Value.slice none 0 0] :: Res.box b102 26 [Value.int .i64 (y102), Value.int .i64 (x101), v107, Value.slice none 0 0, v108] :: Res.arr (encInt .i64) 3 v107 y105 :: Res.arr encBool 4 v108 l112 :: H) w' ∧ f' 1 = v103 ∧ f' 2 = Value.pointer (some ⟨b100, 0, none⟩) ∧ f' 4 = Value.pointer (some ⟨b101, 0, none⟩) ∧ f' 8 = Value.pointer (some ⟨b102, 0, none⟩) ∧ f' 42 = v102 ∧ f' 43 = Value.int .i64 ((x100.Goals.length : Int)) ∧ f' 44 = Value.int .i64 ((i100 : Int))) l112) ?_ ?_
     ·refine W_dl (n0 := 17) (.q 0 (.q 1 (.q 2 (.q 3 (.q 4 (.q 5 (.q 6 (.q 7 (.q 8 (.q 9 (.q 10 (.q 11 (.q 12 (.q 13 (.q 14 (.q 15 (.q 16 .done))))))))))))))))) hmix (by kernel_rfl) (by kernel_rfl) ?_
      have hS174 := hS173.drew
      refine DL_q rfl rfl (Exec.field F26_4 rfl p112 rfl ⟨rfl, ?_⟩)
      refine DL_q rfl rfl (Exec.load_box ((hS174).f2) A24 rfl rfl rfl ⟨rfl, ?_⟩)
      refine DL_q rfl rfl (Exec.move (v := v103) rfl p109 ⟨rfl, ?_⟩)
      refine DL_q rfl rfl (Exec.move (v := Value.int .i64 ((i100 : Int))) rfl rfl ⟨rfl, ?_⟩)
      obtain ⟨x104, q108, ht101⟩ := bind_some ht101
      refine DL_q rfl rfl (Exec.index_repE S22 rfl rfl rfl (a103.mono (PHeap.le.trans (PHeap.le.trans (PHeap.le.trans l100 l102) l109) l111)) q108 ?_)
      intro b110 o102 a106 e104
      refine ⟨rfl, ?_⟩
      refine DL_q rfl rfl (Exec.load_at (E := (encInt .i64)) hS174 A3 rfl rfl rfl a106 ?_)
      intro v121 q109
      obtain rfl := encInt_val.1 q109
      refine ⟨rfl, ?_⟩
      refine DL_q rfl rfl (Exec.field F26_4 rfl p112 rfl ⟨rfl, ?_⟩)
      refine DL_q rfl rfl (Exec.load_box ((hS174).f2) A24 rfl rfl rfl ⟨rfl, ?_⟩)
      refine DL_q rfl rfl (Exec.move (v := v103) rfl p109 ⟨rfl, ?_⟩)
      refine DL_q rfl rfl (Exec.move (v := Value.int .i64 ((i100 : Int))) rfl rfl ⟨rfl, ?_⟩)
      refine DL_q rfl rfl (Exec.index_repE S22 rfl rfl rfl (a103.mono (PHeap.le.trans (PHeap.le.trans (PHeap.le.trans l100 l102) l109) l111)) q108 ?_)
      intro b111 o103 a107 e105
      refine ⟨rfl, ?_⟩
      refine DL_q rfl rfl (Exec.load_at (E := (encInt .i64)) hS174 A3 rfl rfl rfl a107 ?_)
      intro v122 q110
      obtain rfl := encInt_val.1 q110
      refine ⟨rfl, ?_⟩
      obtain ⟨x105, q111, ht101⟩ := bind_some ht101
      obtain ⟨g100, c100, e106⟩ := ((hS174).f4).arr_at q111
      refine DL_q rfl rfl (Exec.index_slice S24 rfl e106 rfl (idx_some q111).1 (idx_some q111).2.1 ⟨rfl, ?_⟩)
      refine DL_q rfl rfl (Exec.load_arr (F := encBool) ((hS174).f4) e106 A4 rfl rfl rfl q111 (Sub.refl _) ?_)
      intro v123 q112
      obtain rfl := encBool_val.1 q112
      refine ⟨rfl, ?_⟩
      refine DL_q rfl rfl (Exec.move (v := Value.bool (x105)) rfl rfl ⟨rfl, ?_⟩)
      rcases ite_some ht101 with ⟨hc102, ht101⟩ | ⟨hc102, ht101⟩
      ·refine DL_qp rfl rfl (yield_of rfl (congrArg Value.bool hc102)) rfl ?_
       refine DL_q rfl rfl (Exec.pick_t (v := Value.bool (true)) rfl (congrArg Value.bool hc102) rfl ⟨rfl, ?_⟩)
       refine DL_done ?_
       obtain ⟨g101, c101, e107⟩ := ((hS174).f4).arr_at q111
       refine WL_step rfl rfl (Exec.index_slice S24 rfl e107 rfl (idx_some q111).1 (idx_some q111).2.1 ?_)
       obtain ⟨l113, q113, ht101⟩ := bind_some ht101
       have hS175 := (hS174).f4
       refine WL_step rfl rfl (Exec.store_arr hS175 e107 A4 rfl rfl rfl rfl (encBool_val.2 rfl) q113 ?_)
       intro w129 hS176
       refine WL_nil (at_normal ?_)
       have e108 := Option.some.inj ht101
       subst l112
       have hS177 := (hS176).f4
       have hS178 := (hS177).f4
       have hS179 := (hS178).f4
       have hS180 := (hS179).f4
       exact ⟨s114, (PHeap.le_refl _), hS180, p109, p110, p111, p112, p113, p114, x102⟩
      ·replace hc102 := not_true hc102
       refine DL_qg rfl rfl (yield_of rfl (congrArg Value.bool hc102)) (Exec.move (v := Value.bool (x103)) rfl rfl ⟨rfl, ?_⟩)
       refine DL_q rfl rfl (Exec.pick_f (v := Value.bool (x103)) rfl (congrArg Value.bool hc102) rfl ⟨rfl, ?_⟩)
       refine DL_done ?_
       obtain ⟨g102, c102, e109⟩ := ((hS174).f4).arr_at q111
       refine WL_step rfl rfl (Exec.index_slice S24 rfl e109 rfl (idx_some q111).1 (idx_some q111).2.1 ?_)
       obtain ⟨l114, q114, ht101⟩ := bind_some ht101
       have hS181 := (hS174).f4
       refine WL_step rfl rfl (Exec.store_arr hS181 e109 A4 rfl rfl rfl rfl (encBool_val.2 rfl) q114 ?_)
       intro w130 hS182
       refine WL_nil (at_normal ?_)
       have e110 := Option.some.inj ht101
       subst l112
       have hS183 := (hS182).f4
       have hS184 := (hS183).f4
       have hS185 := (hS184).f4
       have hS186 := (hS185).f4
       exact ⟨s114, (PHeap.le_refl _), hS186, p109, p110, p111, p112, p113, p114, x102⟩
     ·intro f103 w131 hM102
      obtain ⟨s116, l115, hS187, p115, p116, p117, p118, p119, p120, p121⟩ := hM102
      refine (ib_normal (at_normal ?_))
      refine W_region ?_
      refine WL_step rfl rfl (Exec.add rfl p121 rfl ?_)
      refine WL_step rfl rfl (Exec.move (v := Value.int .i64 (IntKind.i64.wrap ((i100 : Int) + 1))) rfl rfl ?_)
      refine WL_nil (at_normal ?_)
      have e111 := Option.some.inj hm100
      subst s113
      have hS188 := (hS187).f4
      have hS189 := (hS188).f4
      have hS190 := (hS189).f4
      have hS191 := (hS190).f4
      have hS192 := (hS191).f4
      exact ⟨s116, (PHeap.le.trans l111 l115), hS192, p115, p116, p117, p118, p119, p120, (Eq.trans rfl (wrap_up hi100 (SliceRep.le (a102.mono (PHeap.le.trans (PHeap.le.trans l100 l102) l109)))))⟩
    ·intro f104 w132 hI101
     obtain ⟨s117, l116, hS193, p122, p123, p124, p125, p126, p127, x106⟩ := hI101
     refine W_seq ?_
     refine W_region ?_
     refine WL_step rfl rfl (Exec.lss rfl x106 p127 ?_)
     refine WL_nil (at_normal ?_)
     refine W_seq ?_
     refine W_false (congrArg Value.bool (decide_eq_false (by omega))) ?_
     refine W_exit (at_exit (at_exit (ib_here (at_normal ?_))))
     refine W_seq ?_
     refine W_seq ?_
     refine W_region ?_
     refine WL_step rfl rfl (Exec.field F26_3 rfl p123 rfl ?_)
     refine WL_step rfl rfl (Exec.load_box (hS193) A23 rfl rfl rfl ?_)
     refine WL_step rfl rfl (Exec.len_rep S23 rfl rfl (a101.mono (PHeap.le.trans (PHeap.le.trans (PHeap.le.trans l100 l102) l109) l116)) ?_)
     refine WL_step rfl rfl (Exec.move (v := Value.int .i64 (0)) rfl rfl ?_)
     refine WL_nil (at_normal ?_)
     obtain ⟨z101, hB101, hm⟩ := bind_some hm
     refine W_block (W_forS (fun k' s' f' w' => (fun (z101 : (List Edge)) => ∃ (s118 : PHeap) (v124 : Value), PHeap.le s117 s118 ∧ St w0 s118 (Res.box b101 26 [Value.int .i64 (0), Value.int .i64 (0), Value.slice none 0 0, Value.slice none 0 0, Value.slice none 0 0] :: Res.box b102 26 [Value.int .i64 (y102), Value.int .i64 (x101), v107, v124, v108] :: Res.arr (encInt .i64) 3 v107 y105 :: Res.arr encEdge 53 v124 z101 :: Res.arr encBool 4 v108 l110 :: H) w' ∧ f' 1 = v103 ∧ f' 4 = Value.pointer (some ⟨b101, 0, none⟩) ∧ f' 8 = Value.pointer (some ⟨b102, 0, none⟩) ∧ f' 69 = v101 ∧ f' 70 = Value.int .i64 ((x100.Edges.length : Int)) ∧ f' 71 = Value.int .i64 (k' : Int)) s') hB101 ?_ ?_ ?_)
     ·have hS194 := hS193.nilArr encEdge 53
      have hS195 := ((hS194).f1).drop
      have hS196 := (hS195).f4
      have hS197 := (hS196).f1
      have hS198 := (hS197).f4
      have hS199 := (hS198).f4
      have hS200 := (hS199).f4
      exact ⟨s117, (Value.slice none 0 0), (PHeap.le_refl _), hS200, p122, p124, p125, rfl, rfl, rfl⟩
     ·intro i101 z101 s119 f105 w133 hi101 hI102 hm101
      obtain ⟨s120, v124, l117, hS201, p128, p129, p130, p131, p132, x107⟩ := hI102
      refine W_seq ?_
      refine W_region ?_
      refine WL_step rfl rfl (Exec.lss rfl x107 p132 ?_)
      refine WL_nil (at_normal ?_)
      refine W_seq ?_
      refine W_true (congrArg Value.bool (decide_eq_true (by omega))) ?_
      refine W_skip (at_normal ?_)
      refine W_seq ?_
      refine W_block ?_
      refine W_seq ?_
      refine W_region ?_
      obtain ⟨x108, q115, hm101⟩ := bind_some hm101
      refine WL_step rfl rfl (Exec.index_rep S23 rfl p131 x107 (a101.mono (PHeap.le.trans (PHeap.le.trans (PHeap.le.trans (PHeap.le.trans l100 l102) l109) l116) l117)) q115 ?_)
      intro b112 o104 a108
      refine WL_step rfl rfl (Exec.load_at (E := encEdge) hS201 A53 rfl rfl rfl a108 ?_)
      intro v125 q116
      obtain rfl := encEdge_val.1 q116
      refine WL_step rfl rfl (Exec.alloc (cs := [Value.int .i64 (0), Value.int .i64 (0), Value.int .i64 (0)]) hS201 Z53 rfl rfl ?_)
      intro b113 w134 hS202
      refine WL_step rfl rfl (Exec.store_box (ds := [Value.int .i64 (x108.From), Value.int .i64 (x108.Label), Value.int .i64 (x108.To)]) (es := [Value.int .i64 (x108.From), Value.int .i64 (x108.Label), Value.int .i64 (x108.To)]) hS202 A53 rfl rfl rfl rfl (one_cons rfl (one_cons rfl (one_cons rfl one_nil))) (Nat.le_of_ble_eq_true rfl) rfl ?_)
      intro w135 hS203
      refine WL_nil (at_normal ?_)
      refine W_dl (n0 := 17) (.q 0 (.q 1 (.q 2 (.q 3 (.q 4 (.q 5 (.q 6 (.q 7 (.q 8 (.q 9 (.q 10 (.q 11 (.q 12 (.q 13 (.q 14 (.e 15 [0, 1] (.e 16 [] .done))))))))))))))))) hmix (by kernel_rfl) (by kernel_rfl) ?_
      have hS204 := hS203.drew
      refine DL_q rfl rfl (Exec.field F26_3 rfl p130 rfl ⟨rfl, ?_⟩)
      refine DL_q rfl rfl (Exec.load_box ((hS204).f2) A23 rfl rfl rfl ⟨rfl, ?_⟩)
      refine DL_q rfl rfl (Exec.move (v := v103) rfl p128 ⟨rfl, ?_⟩)
      refine DL_q rfl rfl (Exec.field F53_0 rfl rfl rfl ⟨rfl, ?_⟩)
      refine DL_q rfl rfl (Exec.load_box (hS204) A3 rfl rfl rfl ⟨rfl, ?_⟩)
      obtain ⟨x109, q117, hm101⟩ := bind_some hm101
      refine DL_q rfl rfl (Exec.index_repE S22 rfl rfl rfl (a103.mono (PHeap.le.trans (PHeap.le.trans (PHeap.le.trans (PHeap.le.trans l100 l102) l109) l116) l117)) q117 ?_)
      intro b114 o105 a109 e112
      refine ⟨rfl, ?_⟩
      refine DL_q rfl rfl (Exec.load_at (E := (encInt .i64)) hS204 A3 rfl rfl rfl a109 ?_)
      intro v126 q118
      obtain rfl := encInt_val.1 q118
      refine ⟨rfl, ?_⟩
      refine DL_q rfl rfl (Exec.field F53_1 rfl rfl rfl ⟨rfl, ?_⟩)
      refine DL_q rfl rfl (Exec.load_box (hS204) A3 rfl rfl rfl ⟨rfl, ?_⟩)
      refine DL_q rfl rfl (Exec.move (v := v103) rfl p128 ⟨rfl, ?_⟩)
      refine DL_q rfl rfl (Exec.field F53_2 rfl rfl rfl ⟨rfl, ?_⟩)
      refine DL_q rfl rfl (Exec.load_box (hS204) A3 rfl rfl rfl ⟨rfl, ?_⟩)
      obtain ⟨x110, q119, hm101⟩ := bind_some hm101
      refine DL_q rfl rfl (Exec.index_repE S22 rfl rfl rfl (a103.mono (PHeap.le.trans (PHeap.le.trans (PHeap.le.trans (PHeap.le.trans l100 l102) l109) l116) l117)) q119 ?_)
      intro b115 o106 a110 e113
      refine ⟨rfl, ?_⟩
      refine DL_q rfl rfl (Exec.load_at (E := (encInt .i64)) hS204 A3 rfl rfl rfl a110 ?_)
      intro v127 q120
      obtain rfl := encInt_val.1 q120
      refine ⟨rfl, ?_⟩
      refine DL_q rfl rfl (Exec.build rfl (parts_cons (c := [Value.int .i64 (x109)]) (cells_of rfl rfl) (parts_cons (c := [Value.int .i64 (x108.Label)]) (cells_of rfl rfl) (parts_cons (c := [Value.int .i64 (x110)]) (cells_of rfl rfl) parts_nil))) (v := Value.agg #[Value.int .i64 (x109), Value.int .i64 (x108.Label), Value.int .i64 (x110)]) (fun _ => by kernel_rfl) ⟨rfl, ?_⟩)
      refine DL_e rfl rfl (Exec.buildSlice (Te := 53) (cs := [Value.int .i64 (x109), Value.int .i64 (x108.Label), Value.int .i64 (x110)]) hS204 rfl (parts_cons (c := [Value.int .i64 (x109), Value.int .i64 (x108.Label), Value.int .i64 (x110)]) (cells_of rfl rfl) parts_nil) (fun _ => by kernel_rfl) ?_)
      intro b116 w136 hS205
      refine ⟨(ag_cons (ag_r rfl rfl (Exec.field F26_3 rfl p130 rfl ⟨rfl, rfl⟩)) (ag_cons (ag_r rfl rfl (Exec.load_box ((hS205).f3) A23 rfl rfl rfl ⟨rfl, rfl⟩)) ag_nil)), ?_⟩
      obtain ⟨l118, q121, hm101⟩ := bind_some hm101
      have hS206 := (hS205).f5
      refine DL_e rfl rfl (Exec.append_box (E := encEdge) (ys := [(⟨x109, x108.Label, x110⟩ : Edge)]) hS206 S23 Z53 rfl (by decide) rfl rfl rfl rfl ⟨[Value.int .i64 (x109), Value.int .i64 (x108.Label), Value.int .i64 (x110)], [], rfl, ⟨[Value.int .i64 (x109)], [Value.int .i64 (x108.Label), Value.int .i64 (x110)], rfl, rfl, ⟨[Value.int .i64 (x108.Label)], [Value.int .i64 (x110)], rfl, rfl, rfl⟩⟩, rfl⟩ rfl q121 ?_)
      intro v128 w137 hS207
      refine ⟨ag_nil, ?_⟩
      refine DL_done ?_
      refine WL_step rfl rfl (Exec.field F26_3 rfl p130 rfl ?_)
      have hS208 := (hS207).f3
      refine WL_step rfl rfl (Exec.store_box (ds := [v128]) (es := [Value.int .i64 (y102), Value.int .i64 (x101), v107, v128, v108]) hS208 A23 rfl rfl rfl (cells_one ((hS208).f1).arr_one) (one_cons ((hS208).f1).arr_one one_nil) (Nat.le_of_ble_eq_true rfl) rfl ?_)
      intro w138 hS209
      refine WL_nil (ib_normal (at_normal ?_))
      refine W_region ?_
      refine WL_step rfl rfl (Exec.add rfl x107 rfl ?_)
      refine WL_step rfl rfl (Exec.move (v := Value.int .i64 (IntKind.i64.wrap ((i101 : Int) + 1))) rfl rfl ?_)
      refine WL_nil (at_normal ?_)
      have e114 := Option.some.inj hm101
      subst s119
      have hS210 := ((hS209).f2).drop
      have hS211 := (hS210).f4
      have hS212 := (hS211).f2
      have hS213 := (hS212).f4
      have hS214 := (hS213).f3
      have hS215 := (hS214).f4
      exact ⟨s120, v128, l117, hS215, p128, p129, p130, p131, p132, (Eq.trans rfl (wrap_up hi101 (SliceRep.le (a101.mono (PHeap.le.trans (PHeap.le.trans (PHeap.le.trans l100 l102) l109) l116)))))⟩
     ·intro f106 w139 hI103
      obtain ⟨s121, v124, l119, hS216, p133, p134, p135, p136, p137, x111⟩ := hI103
      refine W_seq ?_
      refine W_region ?_
      refine WL_step rfl rfl (Exec.lss rfl x111 p137 ?_)
      refine WL_nil (at_normal ?_)
      refine W_seq ?_
      refine W_false (congrArg Value.bool (decide_eq_false (by omega))) ?_
      refine W_exit (at_exit (at_exit (ib_here (at_normal ?_))))
      refine W_seq ?_
      refine W_region ?_
      refine WL_step rfl rfl (Exec.field F26_3 rfl p135 rfl ?_)
      refine WL_step rfl rfl (Exec.load_box ((hS216).f1) A23 rfl rfl rfl ?_)
      obtain ⟨l120, q122, hm⟩ := bind_some hm
      have hS217 := (hS216).f3
      refine WL_step rfl rfl (Exec.call rfl rfl Tryd.func48 rfl N48 (args_cons rfl args_nil) ((shrink_order_o_sim q122 hS217 ).mono ?_))
      rintro _ w140 ⟨v129, rfl, ⟨s122, _, l121, hS218, rfl⟩⟩
      refine ⟨_, rfl, ?_⟩
      refine WL_step rfl rfl (Exec.field F26_3 rfl p135 rfl ?_)
      have hS219 := (hS218).f2
      refine WL_step rfl rfl (Exec.store_box (ds := [v129]) (es := [Value.int .i64 (y102), Value.int .i64 (x101), v107, v129, v108]) hS219 A23 rfl rfl rfl (cells_one ((hS219).f1).arr_one) (one_cons ((hS219).f1).arr_one one_nil) (Nat.le_of_ble_eq_true rfl) rfl ?_)
      intro w141 hS220
      refine WL_nil (at_normal ?_)
      refine W_seq ?_
      refine W_region ?_
      refine WL_step rfl rfl (Exec.load_box_agg (ds := [Value.int .i64 (y102), Value.int .i64 (x101), v107, v129, v108]) (hS220) A26 rfl p135 rfl ?_)
      have hS221 := (hS220).f2
      refine WL_step rfl rfl (Exec.store_box (ds := [Value.int .i64 (y102), Value.int .i64 (x101), v107, v129, v108]) (es := [Value.int .i64 (y102), Value.int .i64 (x101), v107, v129, v108]) hS221 A26 rfl p134 rfl rfl (one_cons rfl (one_cons rfl (one_cons ((hS221).f3).arr_one (one_cons ((hS221).f2).arr_one (one_cons ((hS221).f4).arr_one one_nil))))) (Nat.le_of_ble_eq_true rfl) rfl ?_)
      intro w142 hS222
      refine WL_step rfl rfl (Exec.assign (v := errV 34 (none)) rfl rfl ?_)
      refine WL_nil (at_normal ?_)
      refine W_ret ?_
      have e115 := Option.some.inj hm
      subst r
      refine ⟨_, retG2 rfl ⟨_, _, p134, cellRes (hS222) A26⟩ rfl, ?_⟩
      have hS223 := (hS222).f3
      obtain ⟨s123, l122, hS224, r100⟩ := hS223.freezeArr
      have hS225 := (hS224).f2
      obtain ⟨s124, l123, hS226, r101⟩ := hS225.freezeArr
      have hS227 := (hS226).f2
      obtain ⟨s125, l124, hS228, r102⟩ := hS227.freezeArr
      have hS229 := (hS228).drop
      have hS230 := (hS229).drop
      exact ⟨s125, v107, v129, v108, (PHeap.le.trans (PHeap.le.trans (PHeap.le.trans (PHeap.le.trans (PHeap.le.trans (PHeap.le.trans (PHeap.le.trans (PHeap.le.trans l100 l102) l109) l116) l119) l121) l122) l123) l124), hS230, (tup2 rfl rfl), (r100.mono (PHeap.le.trans l123 l124)), (r101.mono l124), r102⟩

theorem ZZ34 : (Tryd.prog.info? 34).map (·.zero) = some (some (.int .i64 0)) := by kernel_rfl

theorem N21 : (Tryd.f21.name == "runtime.NumGoroutine") = false := by kernel_rfl

theorem base_Num_sim {w0 w : World} {s : PHeap} {H : List Res} {e100 : (Option Int)}  {r : Int} (hm : base_Num_p e100 = some r) (hS : St w0 s (H) w)  :
  Calls Tryd.prog 21 #[errV 34 (e100)] w fun e w' => ∃ v, e = .returned v ∧ ((fun (y100 : Int) => ∃ (s100 : PHeap) , PHeap.le s s100 ∧ St w0 s100 (H) w' ∧ v = Value.int .i64 (y100)) r) := by
 unfold base_Num_p at hm
 refine calls_of_W Tryd.func21 rfl rfl ?_
 refine W_seq ?_
 refine W_region ?_
 refine WL_step rfl rfl (Exec.assign (v := Value.int .i64 (0)) rfl rfl ?_)
 refine WL_nil (at_normal ?_)
 refine W_seq ?_
 refine W_seq ?_
 refine W_region ?_
 refine WL_step rfl rfl (Exec.move (v := errV 34 (e100)) rfl rfl ?_)
 refine WL_step rfl rfl (Exec.err_eql_nil (T := 34) Tryd.underlying30 rfl rfl rfl ?_)
 refine WL_nil (at_normal ?_)
 rcases ite_some hm with ⟨hc100, hm⟩ | ⟨hc100, hm⟩
 ·refine W_cond_t rfl hc100 ?_
  refine W_seq ?_
  refine W_region ?_
  refine WL_step rfl rfl (Exec.assign (v := Value.int .i64 (0)) rfl rfl ?_)
  refine WL_nil (at_normal ?_)
  refine W_ret (at_ret ?_)
  have e101 := Option.some.inj hm
  subst r
  refine ⟨_, ret1 rfl, ?_⟩
  exact ⟨s, (PHeap.le_refl _), hS, rfl⟩
 ·refine W_cond_f rfl hc100 ?_
  replace hc100 := not_true hc100
  refine W_skip (at_normal ?_)
  refine W_seq ?_
  refine W_seq ?_
  refine W_region ?_
  refine WL_step rfl rfl (Exec.move (v := errV 34 (e100)) rfl rfl ?_)
  refine WL_step rfl rfl (Exec.err_assert Tryd.underlying34 ZZ34 rfl rfl ?_)
  refine WL_step rfl rfl (Exec.move (v := Value.tuple #[Value.int .i64 (e100.getD 0), Value.bool (e100.isSome)]) rfl rfl ?_)
  refine WL_step rfl rfl (Exec.extract (v := Value.int .i64 (e100.getD 0)) rfl rfl rfl ?_)
  refine WL_step rfl rfl (Exec.extract (v := Value.bool (e100.isSome)) rfl rfl rfl ?_)
  refine WL_step rfl rfl (Exec.assign (v := Value.int .i64 (e100.getD 0)) rfl rfl ?_)
  refine WL_step rfl rfl (Exec.assign (v := Value.bool (e100.isSome)) rfl rfl ?_)
  refine WL_nil (at_normal ?_)
  refine W_seq ?_
  refine W_region ?_
  refine WL_step rfl rfl (Exec.move (v := Value.bool (e100.isSome)) rfl rfl ?_)
  refine WL_nil (at_normal ?_)
  rcases ite_some hm with ⟨hc101, hm⟩ | ⟨hc101, hm⟩
  ·refine W_cond_t rfl hc101 ?_
   refine W_seq ?_
   refine W_region ?_
   refine WL_step rfl rfl (Exec.move (v := Value.int .i64 (e100.getD 0)) rfl rfl ?_)
   refine WL_step rfl rfl (Exec.assign (v := Value.int .i64 (e100.getD 0)) rfl rfl ?_)
   refine WL_nil (at_normal ?_)
   refine W_ret (at_ret ?_)
   have e102 := Option.some.inj hm
   subst r
   refine ⟨_, ret1 rfl, ?_⟩
   exact ⟨s, (PHeap.le_refl _), hS, rfl⟩
  ·refine W_cond_f rfl hc101 ?_
   replace hc101 := not_true hc101
   refine W_skip (at_normal ?_)
   refine W_seq ?_
   refine W_region ?_
   refine WL_step rfl rfl (Exec.assign (v := Value.int .i64 ((-1))) rfl rfl ?_)
   refine WL_nil (at_normal ?_)
   refine W_ret ?_
   have e103 := Option.some.inj hm
   subst r
   refine ⟨_, ret1 rfl, ?_⟩
   exact ⟨s, (PHeap.le_refl _), hS, rfl⟩

theorem N14 : (Tryd.f14.name == "runtime.NumGoroutine") = false := by kernel_rfl

theorem base_Is_sim {w0 w : World} {s : PHeap} {H : List Res} {e100 : (Option Int)} {code100 : Int}  {r : Bool} (hm : base_Is_p e100 code100 = some r) (hS : St w0 s (H) w)  :
  Calls Tryd.prog 14 #[errV 34 (e100), Value.int .i64 (code100)] w fun e w' => ∃ v, e = .returned v ∧ ((fun (y100 : Bool) => ∃ (s100 : PHeap) , PHeap.le s s100 ∧ St w0 s100 (H) w' ∧ v = Value.bool (y100)) r) := by
 unfold base_Is_p at hm
 refine calls_of_W Tryd.func14 rfl rfl ?_
 refine W_seq ?_
 refine W_region ?_
 refine WL_step rfl rfl (Exec.assign (v := Value.bool (false)) rfl rfl ?_)
 refine WL_nil (at_normal ?_)
 refine W_seq ?_
 refine W_mid (M := fun f' w' => ∃ (s101 : PHeap) , PHeap.le s s101 ∧ St w0 s101 (H) w' ∧ f' 4 = Value.bool ((e100.isSome && decide ((base_Num_t e100) = code100)))) ?_ ?_
 ·refine W_region ?_
  refine WL_step rfl rfl (Exec.move (v := errV 34 (e100)) rfl rfl ?_)
  refine WL_step rfl rfl (Exec.err_neq_nil (T := 34) Tryd.underlying30 rfl rfl rfl ?_)
  refine WL_step rfl rfl (Exec.move (v := Value.bool (e100.isSome)) rfl rfl ?_)
  by_cases hc100 : e100.isSome = true
  ·refine WL_run rfl (yield_of rfl (congrArg Value.bool hc100)) rfl (Exec.move (v := errV 34 (e100)) rfl rfl ?_)
   refine WL_run rfl (yield_of rfl (congrArg Value.bool hc100)) rfl (Exec.call rfl rfl Tryd.func21 rfl N21 (args_cons rfl args_nil) ((base_Num_sim (base_Num_tot e100) hS ).mono ?_))
   rintro _ w100 ⟨_, rfl, ⟨s102, l100, hS100, rfl⟩⟩
   refine ⟨_, rfl, ?_⟩
   refine WL_run rfl (yield_of rfl (congrArg Value.bool hc100)) rfl (Exec.move (v := Value.int .i64 (code100)) rfl rfl ?_)
   refine WL_run rfl (yield_of rfl (congrArg Value.bool hc100)) rfl (Exec.eql rfl rfl rfl ?_)
   refine WL_step rfl rfl (Exec.pick_t (v := Value.bool (decide ((base_Num_t e100) = code100))) rfl (congrArg Value.bool hc100) rfl ?_)
   refine WL_step rfl rfl (Exec.assign (v := Value.bool (decide ((base_Num_t e100) = code100))) rfl rfl ?_)
   refine WL_nil (at_normal ?_)
   exact ⟨s102, l100, hS100, (congrArg Value.bool (and_t hc100)).symm⟩
  ·replace hc100 := not_true hc100
   refine WL_pass rfl (yield_of rfl (congrArg Value.bool hc100)) rfl rfl ?_
   refine WL_pass rfl (yield_of rfl (congrArg Value.bool hc100)) rfl rfl ?_
   refine WL_pass rfl (yield_of rfl (congrArg Value.bool hc100)) rfl rfl ?_
   refine WL_pass rfl (yield_of rfl (congrArg Value.bool hc100)) rfl rfl ?_
   refine WL_step rfl rfl (Exec.pick_f (v := Value.bool (false)) rfl (congrArg Value.bool hc100) rfl ?_)
   refine WL_step rfl rfl (Exec.assign (v := Value.bool (false)) rfl rfl ?_)
   refine WL_nil (at_normal ?_)
   exact ⟨s, (PHeap.le_refl _), hS, (congrArg Value.bool (and_f hc100)).symm⟩
 ·intro f100 w101 hM100
  obtain ⟨s103, l101, hS101, p100⟩ := hM100
  refine (at_normal ?_)
  refine W_ret ?_
  have e101 := Option.some.inj hm
  subst r
  refine ⟨_, ret1 rfl, ?_⟩
  exact ⟨s103, l101, hS101, p100⟩

theorem transys_Simulates_sim {w0 w : World} {s : PHeap} {H : List Res} {a100 : System} {b100 : System} {to100 : (List Int)} {v100 : Value} {v101 : Value} {v102 : Value} {v103 : Value} {v104 : Value} {v105 : Value} {v106 : Value} {r : Bool} (hm : transys_Simulates_p a100 b100 to100 = some r) (hS : St w0 s (H) w) (a101 : SliceRep (encInt .i64) s v100 a100.Costs) (a102 : SliceRep encEdge s v101 a100.Edges) (a103 : SliceRep encBool s v102 a100.Goals) (a104 : SliceRep (encInt .i64) s v103 b100.Costs) (a105 : SliceRep encEdge s v104 b100.Edges) (a106 : SliceRep encBool s v105 b100.Goals) (a107 : SliceRep (encInt .i64) s v106 to100) :
  Calls Tryd.prog 51 #[Value.agg #[Value.int .i64 (a100.States), Value.int .i64 (a100.Init), v100, v101, v102], Value.agg #[Value.int .i64 (b100.States), Value.int .i64 (b100.Init), v103, v104, v105], v106] w fun e w' => ∃ v, e = .returned v ∧ ((fun (y100 : Bool) => ∃ (s100 : PHeap) , PHeap.le s s100 ∧ St w0 s100 (H) w' ∧ v = Value.bool (y100)) r) := by
 unfold transys_Simulates_p at hm
 refine calls_of_W Tryd.func51 rfl rfl ?_
 refine W_seq ?_
 refine W_region ?_
 refine WL_step rfl rfl (Exec.box (cs := [Value.int .i64 (a100.States), Value.int .i64 (a100.Init), v100, v101, v102]) hS rfl rfl rfl ?_)
 intro b101 w100 hS100
 refine WL_step rfl rfl (Exec.box (cs := [Value.int .i64 (b100.States), Value.int .i64 (b100.Init), v103, v104, v105]) hS100 rfl rfl rfl ?_)
 intro b102 w101 hS101
 refine WL_step rfl rfl (Exec.assign (v := Value.bool (false)) rfl rfl ?_)
 refine WL_nil (at_normal ?_)
 refine W_seq ?_
 refine W_seq ?_
 obtain ⟨z100, ht100, hm⟩ := bind_some hm
 refine W_mid (M := fun f' w' => (fun (z100 : Bool) => ∃ (s101 : PHeap) , PHeap.le s s101 ∧ St w0 s101 (Res.box b101 26 [Value.int .i64 (a100.States), Value.int .i64 (a100.Init), v100, v101, v102] :: Res.box b102 26 [Value.int .i64 (b100.States), Value.int .i64 (b100.Init), v103, v104, v105] :: H) w' ∧ f' 2 = v106 ∧ f' 3 = Value.pointer (some ⟨b101, 0, none⟩) ∧ f' 4 = Value.pointer (some ⟨b102, 0, none⟩) ∧ f' 35 = Value.bool (z100)) z100) ?_ ?_
 ·refine W_region ?_
  refine WL_step rfl rfl (Exec.load_box_agg (ds := [Value.int .i64 (a100.States), Value.int .i64 (a100.Init), v100, v101, v102]) ((hS101).f1) A26 rfl rfl rfl ?_)
  obtain ⟨y101, q100, ht100⟩ := bind_some ht100
  refine WL_step rfl rfl (Exec.call rfl rfl Tryd.func22 rfl N22 (args_cons rfl args_nil) ((transys_Valid_sim q100 hS101 a101 a102 a103).mono ?_))
  rintro _ w102 ⟨_, rfl, ⟨s102, l100, hS102, rfl⟩⟩
  refine ⟨_, rfl, ?_⟩
  refine WL_step rfl rfl (Exec.not rfl rfl ?_)
  refine WL_step rfl rfl (Exec.move (v := Value.bool (!y101)) rfl rfl ?_)
  rcases ite_some ht100 with ⟨hc100, ht100⟩ | ⟨hc100, ht100⟩
  ·refine WL_pass rfl (yield_of rfl (congrArg Value.bool hc100)) rfl rfl ?_
   refine WL_pass rfl (yield_of rfl (congrArg Value.bool hc100)) rfl rfl ?_
   refine WL_pass rfl (yield_of rfl (congrArg Value.bool hc100)) rfl rfl ?_
   refine WL_step rfl rfl (Exec.pick_t (v := Value.bool (true)) rfl (congrArg Value.bool hc100) rfl ?_)
   refine WL_step rfl rfl (Exec.move (v := Value.bool (true)) rfl rfl ?_)
   refine WL_pass rfl (yield_of rfl rfl) rfl rfl ?_
   refine WL_pass rfl (yield_of rfl rfl) rfl rfl ?_
   refine WL_pass rfl (yield_of rfl rfl) rfl rfl ?_
   refine WL_pass rfl (yield_of rfl rfl) rfl rfl ?_
   refine WL_pass rfl (yield_of rfl rfl) rfl rfl ?_
   refine WL_pass rfl (yield_of rfl rfl) rfl rfl ?_
   refine WL_step rfl rfl (Exec.pick_t (v := Value.bool (true)) rfl rfl rfl ?_)
   refine WL_step rfl rfl (Exec.move (v := Value.bool (true)) rfl rfl ?_)
   refine WL_pass rfl (yield_of rfl rfl) rfl rfl ?_
   refine WL_pass rfl (yield_of rfl rfl) rfl rfl ?_
   refine WL_pass rfl (yield_of rfl rfl) rfl rfl ?_
   refine WL_pass rfl (yield_of rfl rfl) rfl rfl ?_
   refine WL_pass rfl (yield_of rfl rfl) rfl rfl ?_
   refine WL_step rfl rfl (Exec.pick_t (v := Value.bool (true)) rfl rfl rfl ?_)
   refine WL_nil (at_normal ?_)
   have e100 := Option.some.inj ht100
   subst z100
   have hS103 := (hS102).f1
   exact ⟨s102, l100, hS103, rfl, rfl, rfl, rfl⟩
  ·replace hc100 := not_true hc100
   refine WL_run rfl (yield_of rfl (congrArg Value.bool hc100)) rfl (Exec.load_box_agg (ds := [Value.int .i64 (b100.States), Value.int .i64 (b100.Init), v103, v104, v105]) (hS102) A26 rfl rfl rfl ?_)
   obtain ⟨y102, q101, ht100⟩ := bind_some ht100
   refine WL_run rfl (yield_of rfl (congrArg Value.bool hc100)) rfl (Exec.call rfl rfl Tryd.func22 rfl N22 (args_cons rfl args_nil) ((transys_Valid_sim q101 hS102 (a104.mono l100) (a105.mono l100) (a106.mono l100)).mono ?_))
   rintro _ w103 ⟨_, rfl, ⟨s103, l101, hS104, rfl⟩⟩
   refine ⟨_, rfl, ?_⟩
   refine WL_run rfl (yield_of rfl (congrArg Value.bool hc100)) rfl (Exec.not rfl rfl ?_)
   refine WL_step rfl rfl (Exec.pick_f (v := Value.bool (!y102)) rfl (congrArg Value.bool hc100) rfl ?_)
   refine WL_step rfl rfl (Exec.move (v := Value.bool (!y102)) rfl rfl ?_)
   rcases ite_some ht100 with ⟨hc101, ht100⟩ | ⟨hc101, ht100⟩
   ·refine WL_pass rfl (yield_of rfl (congrArg Value.bool hc101)) rfl rfl ?_
    refine WL_pass rfl (yield_of rfl (congrArg Value.bool hc101)) rfl rfl ?_
    refine WL_pass rfl (yield_of rfl (congrArg Value.bool hc101)) rfl rfl ?_
    refine WL_pass rfl (yield_of rfl (congrArg Value.bool hc101)) rfl rfl ?_
    refine WL_pass rfl (yield_of rfl (congrArg Value.bool hc101)) rfl rfl ?_
    refine WL_pass rfl (yield_of rfl (congrArg Value.bool hc101)) rfl rfl ?_
    refine WL_step rfl rfl (Exec.pick_t (v := Value.bool (true)) rfl (congrArg Value.bool hc101) rfl ?_)
    refine WL_step rfl rfl (Exec.move (v := Value.bool (true)) rfl rfl ?_)
    refine WL_pass rfl (yield_of rfl rfl) rfl rfl ?_
    refine WL_pass rfl (yield_of rfl rfl) rfl rfl ?_
    refine WL_pass rfl (yield_of rfl rfl) rfl rfl ?_
    refine WL_pass rfl (yield_of rfl rfl) rfl rfl ?_
    refine WL_pass rfl (yield_of rfl rfl) rfl rfl ?_
    refine WL_step rfl rfl (Exec.pick_t (v := Value.bool (true)) rfl rfl rfl ?_)
    refine WL_nil (at_normal ?_)
    have e101 := Option.some.inj ht100
    subst z100
    have hS105 := (hS104).f1
    exact ⟨s103, (PHeap.le.trans l100 l101), hS105, rfl, rfl, rfl, rfl⟩
   ·replace hc101 := not_true hc101
    refine WL_run rfl (yield_of rfl (congrArg Value.bool hc101)) rfl (Exec.field F26_2 rfl rfl rfl ?_)
    refine WL_run rfl (yield_of rfl (congrArg Value.bool hc101)) rfl (Exec.load_box ((hS104).f1) A22 rfl rfl rfl ?_)
    refine WL_run rfl (yield_of rfl (congrArg Value.bool hc101)) rfl (Exec.field F26_2 rfl rfl rfl ?_)
    refine WL_run rfl (yield_of rfl (congrArg Value.bool hc101)) rfl (Exec.load_box (hS104) A22 rfl rfl rfl ?_)
    obtain ⟨y103, q102, ht100⟩ := bind_some ht100
    refine WL_run rfl (yield_of rfl (congrArg Value.bool hc101)) rfl (Exec.call rfl rfl Tryd.func39 rfl N39 (args_cons rfl (args_cons rfl args_nil)) ((slices_Equal___int_int__sim q102 hS104 (a101.mono (PHeap.le.trans l100 l101)) (a104.mono (PHeap.le.trans l100 l101))).mono ?_))
    rintro _ w104 ⟨_, rfl, ⟨s104, l102, hS106, rfl⟩⟩
    refine ⟨_, rfl, ?_⟩
    refine WL_run rfl (yield_of rfl (congrArg Value.bool hc101)) rfl (Exec.not rfl rfl ?_)
    refine WL_step rfl rfl (Exec.pick_f (v := Value.bool (!y103)) rfl (congrArg Value.bool hc101) rfl ?_)
    refine WL_step rfl rfl (Exec.move (v := Value.bool (!y103)) rfl rfl ?_)
    rcases ite_some ht100 with ⟨hc102, ht100⟩ | ⟨hc102, ht100⟩
    ·refine WL_pass rfl (yield_of rfl (congrArg Value.bool hc102)) rfl rfl ?_
     refine WL_pass rfl (yield_of rfl (congrArg Value.bool hc102)) rfl rfl ?_
     refine WL_pass rfl (yield_of rfl (congrArg Value.bool hc102)) rfl rfl ?_
     refine WL_pass rfl (yield_of rfl (congrArg Value.bool hc102)) rfl rfl ?_
     refine WL_pass rfl (yield_of rfl (congrArg Value.bool hc102)) rfl rfl ?_
     refine WL_step rfl rfl (Exec.pick_t (v := Value.bool (true)) rfl (congrArg Value.bool hc102) rfl ?_)
     refine WL_nil (at_normal ?_)
     have e102 := Option.some.inj ht100
     subst z100
     have hS107 := (hS106).f1
     exact ⟨s104, (PHeap.le.trans (PHeap.le.trans l100 l101) l102), hS107, rfl, rfl, rfl, rfl⟩
    ·replace hc102 := not_true hc102
     refine WL_run rfl (yield_of rfl (congrArg Value.bool hc102)) rfl (Exec.move (v := v106) rfl rfl ?_)
     refine WL_run rfl (yield_of rfl (congrArg Value.bool hc102)) rfl (Exec.len_rep S22 rfl rfl (a107.mono (PHeap.le.trans (PHeap.le.trans l100 l101) l102)) ?_)
     refine WL_run rfl (yield_of rfl (congrArg Value.bool hc102)) rfl (Exec.field F26_0 rfl rfl rfl ?_)
     refine WL_run rfl (yield_of rfl (congrArg Value.bool hc102)) rfl (Exec.load_box ((hS106).f1) A3 rfl rfl rfl ?_)
     refine WL_run rfl (yield_of rfl (congrArg Value.bool hc102)) rfl (Exec.neq rfl rfl rfl ?_)
     refine WL_step rfl rfl (Exec.pick_f (v := Value.bool (!decide ((to100.length : Int) = a100.States))) rfl (congrArg Value.bool hc102) rfl ?_)
     refine WL_nil (at_normal ?_)
     have e103 := Option.some.inj ht100
     subst z100
     have hS108 := (hS106).f1
     exact ⟨s104, (PHeap.le.trans (PHeap.le.trans l100 l101) l102), hS108, rfl, rfl, rfl, rfl⟩
 ·intro f100 w105 hM100
  obtain ⟨s105, l103, hS109, p100, p101, p102, p103⟩ := hM100
  refine (at_normal ?_)
  rcases ite_some hm with ⟨hc103, hm⟩ | ⟨hc103, hm⟩
  ·refine W_cond_t p103 hc103 ?_
   refine W_seq ?_
   refine W_region ?_
   refine WL_step rfl rfl (Exec.assign (v := Value.bool (false)) rfl rfl ?_)
   refine WL_nil (at_normal ?_)
   refine W_ret (at_ret ?_)
   have e104 := Option.some.inj hm
   subst r
   refine ⟨_, ret1 rfl, ?_⟩
   have hS110 := (hS109).drop
   have hS111 := (hS110).drop
   exact ⟨s105, l103, hS111, rfl⟩
  ·refine W_cond_f p103 hc103 ?_
   replace hc103 := not_true hc103
   refine W_skip (at_normal ?_)
   refine W_seq ?_
   refine W_seq ?_
   refine W_region ?_
   refine WL_step rfl rfl (Exec.move (v := v106) rfl p100 ?_)
   refine WL_step rfl rfl (Exec.len_rep S22 rfl rfl (a107.mono l103) ?_)
   refine WL_step rfl rfl (Exec.move (v := Value.int .i64 (0)) rfl rfl ?_)
   refine WL_nil (at_normal ?_)
   obtain ⟨c100, hB100, hr100, hn100, hb100⟩ := ctl_some hm
   refine W_mid (M := fun f' w' => ∃ s', (c100 = .next s' ∨ c100 = .brk s') ∧ (fun (_ : Unit) => ∃ (s106 : PHeap) , PHeap.le s105 s106 ∧ St w0 s106 (Res.box b101 26 [Value.int .i64 (a100.States), Value.int .i64 (a100.Init), v100, v101, v102] :: Res.box b102 26 [Value.int .i64 (b100.States), Value.int .i64 (b100.Init), v103, v104, v105] :: H) w' ∧ f' 2 = v106 ∧ f' 3 = Value.pointer (some ⟨b101, 0, none⟩) ∧ f' 4 = Value.pointer (some ⟨b102, 0, none⟩) ∧ f' 36 = v106 ∧ f' 37 = Value.int .i64 ((to100.length : Int))) s') ?_ ?_
   ·refine W_block (W_forC (fun k' s' f' w' => (fun (_ : Unit) => ∃ (s107 : PHeap) , PHeap.le s105 s107 ∧ St w0 s107 (Res.box b101 26 [Value.int .i64 (a100.States), Value.int .i64 (a100.Init), v100, v101, v102] :: Res.box b102 26 [Value.int .i64 (b100.States), Value.int .i64 (b100.Init), v103, v104, v105] :: H) w' ∧ f' 2 = v106 ∧ f' 3 = Value.pointer (some ⟨b101, 0, none⟩) ∧ f' 4 = Value.pointer (some ⟨b102, 0, none⟩) ∧ f' 36 = v106 ∧ f' 37 = Value.int .i64 ((to100.length : Int)) ∧ f' 38 = Value.int .i64 (k' : Int)) s') hB100 ?_ ?_ ?_)
    ·have hS112 := (hS109).f1
     have hS113 := (hS112).f1
     exact ⟨s105, (PHeap.le_refl _), hS113, p100, p101, p102, rfl, rfl, rfl⟩
    ·intro i100 t100 c101 f101 w106 hi100 hI100 hm100 hres100
     obtain ⟨s108, l104, hS114, p104, p105, p106, p107, p108, x100⟩ := hI100
     refine W_seq ?_
     refine W_region ?_
     refine WL_step rfl rfl (Exec.lss rfl x100 p108 ?_)
     refine WL_nil (at_normal ?_)
     refine W_seq ?_
     refine W_true (congrArg Value.bool (decide_eq_true (by omega))) ?_
     refine W_skip (at_normal ?_)
     refine W_seq ?_
     refine W_block ?_
     refine W_seq ?_
     refine W_region ?_
     refine WL_step rfl rfl (Exec.move (v := Value.int .i64 ((i100 : Int))) rfl x100 ?_)
     obtain ⟨x101, q103, hm100⟩ := bind_some hm100
     refine WL_step rfl rfl (Exec.index_rep S22 rfl p107 x100 (a107.mono (PHeap.le.trans l103 l104)) q103 ?_)
     intro b103 o100 a108
     refine WL_step rfl rfl (Exec.load_at (E := (encInt .i64)) hS114 A3 rfl rfl rfl a108 ?_)
     intro v107 q104
     obtain rfl := encInt_val.1 q104
     refine WL_step rfl rfl (Exec.assign (v := Value.int .i64 ((i100 : Int))) rfl rfl ?_)
     refine WL_step rfl rfl (Exec.assign (v := Value.int .i64 (x101)) rfl rfl ?_)
     refine WL_nil (at_normal ?_)
     refine W_seq ?_
     obtain ⟨z101, ht101, hm100⟩ := bind_some hm100
     refine W_mid (M := fun f' w' => (fun (z101 : Bool) => ∃ (s109 : PHeap) , PHeap.le s108 s109 ∧ St w0 s109 (Res.box b101 26 [Value.int .i64 (a100.States), Value.int .i64 (a100.Init), v100, v101, v102] :: Res.box b102 26 [Value.int .i64 (b100.States), Value.int .i64 (b100.Init), v103, v104, v105] :: H) w' ∧ f' 2 = v106 ∧ f' 3 = Value.pointer (some ⟨b101, 0, none⟩) ∧ f' 4 = Value.pointer (some ⟨b102, 0, none⟩) ∧ f' 36 = v106 ∧ f' 37 = Value.int .i64 ((to100.length : Int)) ∧ f' 38 = Value.int .i64 ((i100 : Int)) ∧ f' 65 = Value.bool (z101)) z101) ?_ ?_
     ·refine W_region ?_
      refine WL_step rfl rfl (Exec.move (v := Value.int .i64 (x101)) rfl rfl ?_)
      refine WL_step rfl rfl (Exec.lss rfl rfl rfl ?_)
      refine WL_step rfl rfl (Exec.move (v := Value.bool (decide (x101 < 0))) rfl rfl ?_)
      rcases ite_some ht101 with ⟨hc104, ht101⟩ | ⟨hc104, ht101⟩
      ·refine WL_pass rfl (yield_of rfl (congrArg Value.bool hc104)) rfl rfl ?_
       refine WL_pass rfl (yield_of rfl (congrArg Value.bool hc104)) rfl rfl ?_
       refine WL_pass rfl (yield_of rfl (congrArg Value.bool hc104)) rfl rfl ?_
       refine WL_pass rfl (yield_of rfl (congrArg Value.bool hc104)) rfl rfl ?_
       refine WL_step rfl rfl (Exec.pick_t (v := Value.bool (true)) rfl (congrArg Value.bool hc104) rfl ?_)
       refine WL_step rfl rfl (Exec.move (v := Value.bool (true)) rfl rfl ?_)
       refine WL_pass rfl (yield_of rfl rfl) rfl rfl ?_
       refine WL_pass rfl (yield_of rfl rfl) rfl rfl ?_
       refine WL_pass rfl (yield_of rfl rfl) rfl rfl ?_
       refine WL_pass rfl (yield_of rfl rfl) rfl rfl ?_
       refine WL_pass rfl (yield_of rfl rfl) rfl rfl ?_
       refine WL_pass rfl (yield_of rfl rfl) rfl rfl ?_
       refine WL_pass_none rfl (yield_undef rfl rfl) rfl ?_
       refine WL_pass_none rfl (yield_undef rfl rfl) rfl ?_
       refine WL_pass_none rfl (yield_undef rfl rfl) rfl ?_
       refine WL_pass_none rfl (yield_undef rfl rfl) rfl ?_
       refine WL_pass_none rfl (yield_undef rfl rfl) rfl ?_
       refine WL_pass_none rfl (yield_undef rfl rfl) rfl ?_
       refine WL_pass rfl (yield_of rfl rfl) rfl rfl ?_
       refine WL_step rfl rfl (Exec.pick_t (v := Value.bool (true)) rfl rfl rfl ?_)
       refine WL_nil (at_normal ?_)
       have e105 := Option.some.inj ht101
       subst z101
       have hS115 := (hS114).f1
       have hS116 := (hS115).f1
       exact ⟨s108, (PHeap.le_refl _), hS116, p104, p105, p106, p107, p108, x100, rfl⟩
      ·replace hc104 := not_true hc104
       refine WL_run rfl (yield_of rfl (congrArg Value.bool hc104)) rfl (Exec.move (v := Value.int .i64 (x101)) rfl rfl ?_)
       refine WL_run rfl (yield_of rfl (congrArg Value.bool hc104)) rfl (Exec.field F26_0 rfl p106 rfl ?_)
       refine WL_run rfl (yield_of rfl (congrArg Value.bool hc104)) rfl (Exec.load_box ((hS114).f1) A3 rfl rfl rfl ?_)
       refine WL_run rfl (yield_of rfl (congrArg Value.bool hc104)) rfl (Exec.geq rfl rfl rfl ?_)
       refine WL_step rfl rfl (Exec.pick_f (v := Value.bool (decide (b100.States ≤ x101))) rfl (congrArg Value.bool hc104) rfl ?_)
       refine WL_step rfl rfl (Exec.move (v := Value.bool (decide (b100.States ≤ x101))) rfl rfl ?_)
       rcases ite_some ht101 with ⟨hc105, ht101⟩ | ⟨hc105, ht101⟩
       ·refine WL_pass rfl (yield_of rfl (congrArg Value.bool hc105)) rfl rfl ?_
        refine WL_pass rfl (yield_of rfl (congrArg Value.bool hc105)) rfl rfl ?_
        refine WL_pass rfl (yield_of rfl (congrArg Value.bool hc105)) rfl rfl ?_
        refine WL_pass rfl (yield_of rfl (congrArg Value.bool hc105)) rfl rfl ?_
        refine WL_pass rfl (yield_of rfl (congrArg Value.bool hc105)) rfl rfl ?_
        refine WL_pass rfl (yield_of rfl (congrArg Value.bool hc105)) rfl rfl ?_
        refine WL_pass_none rfl (yield_undef rfl rfl) rfl ?_
        refine WL_pass_none rfl (yield_undef rfl rfl) rfl ?_
        refine WL_pass_none rfl (yield_undef rfl rfl) rfl ?_
        refine WL_pass_none rfl (yield_undef rfl rfl) rfl ?_
        refine WL_pass_none rfl (yield_undef rfl rfl) rfl ?_
        refine WL_pass_none rfl (yield_undef rfl rfl) rfl ?_
        refine WL_pass rfl (yield_of rfl (congrArg Value.bool hc105)) rfl rfl ?_
        refine WL_step rfl rfl (Exec.pick_t (v := Value.bool (true)) rfl (congrArg Value.bool hc105) rfl ?_)
        refine WL_nil (at_normal ?_)
        have e106 := Option.some.inj ht101
        subst z101
        have hS117 := (hS114).f1
        have hS118 := (hS117).f1
        exact ⟨s108, (PHeap.le_refl _), hS118, p104, p105, p106, p107, p108, x100, rfl⟩
       ·replace hc105 := not_true hc105
        refine WL_run rfl (yield_of rfl (congrArg Value.bool hc105)) rfl (Exec.field F26_4 rfl p105 rfl ?_)
        refine WL_run rfl (yield_of rfl (congrArg Value.bool hc105)) rfl (Exec.load_box (hS114) A24 rfl rfl rfl ?_)
        refine WL_run rfl (yield_of rfl (congrArg Value.bool hc105)) rfl (Exec.move (v := Value.int .i64 ((i100 : Int))) rfl rfl ?_)
        obtain ⟨x102, q105, ht101⟩ := bind_some ht101
        refine WL_run rfl (yield_of rfl (congrArg Value.bool hc105)) rfl (Exec.index_rep S24 rfl rfl rfl (a103.mono (PHeap.le.trans l103 l104)) q105 ?_)
        intro b104 o101 a109
        refine WL_run rfl (yield_of rfl (congrArg Value.bool hc105)) rfl (Exec.load_at (E := encBool) hS114 A4 rfl rfl rfl a109 ?_)
        intro v108 q106
        obtain rfl := encBool_val.1 q106
        refine WL_run rfl (yield_of rfl (congrArg Value.bool hc105)) rfl (Exec.move (v := Value.bool (x102)) rfl rfl ?_)
        rcases ite_some ht101 with ⟨hc106, ht101⟩ | ⟨hc106, ht101⟩
        ·refine WL_run rfl (yield_of rfl (congrArg Value.bool hc106)) rfl (Exec.field F26_4 rfl p106 rfl ?_)
         refine WL_run rfl (yield_of rfl (congrArg Value.bool hc106)) rfl (Exec.load_box ((hS114).f1) A24 rfl rfl rfl ?_)
         refine WL_run rfl (yield_of rfl (congrArg Value.bool hc106)) rfl (Exec.move (v := Value.int .i64 (x101)) rfl rfl ?_)
         obtain ⟨x103, q107, ht101⟩ := bind_some ht101
         refine WL_run rfl (yield_of rfl (congrArg Value.bool hc106)) rfl (Exec.index_rep S24 rfl rfl rfl (a106.mono (PHeap.le.trans l103 l104)) q107 ?_)
         intro b105 o102 a110
         refine WL_run rfl (yield_of rfl (congrArg Value.bool hc106)) rfl (Exec.load_at (E := encBool) hS114 A4 rfl rfl rfl a110 ?_)
         intro v109 q108
         obtain rfl := encBool_val.1 q108
         refine WL_run rfl (yield_of rfl (congrArg Value.bool hc106)) rfl (Exec.not rfl rfl ?_)
         refine WL_run rfl (yield_of rfl (congrArg Value.bool hc105)) rfl (Exec.pick_t (v := Value.bool (!x103)) rfl (congrArg Value.bool hc106) rfl ?_)
         refine WL_step rfl rfl (Exec.pick_f (v := Value.bool (!x103)) rfl (congrArg Value.bool hc105) rfl ?_)
         refine WL_nil (at_normal ?_)
         have e107 := Option.some.inj ht101
         subst z101
         have hS119 := (hS114).f1
         have hS120 := (hS119).f1
         exact ⟨s108, (PHeap.le_refl _), hS120, p104, p105, p106, p107, p108, x100, rfl⟩
        ·replace hc106 := not_true hc106
         refine WL_pass rfl (yield_of rfl (congrArg Value.bool hc106)) rfl rfl ?_
         refine WL_pass rfl (yield_of rfl (congrArg Value.bool hc106)) rfl rfl ?_
         refine WL_pass rfl (yield_of rfl (congrArg Value.bool hc106)) rfl rfl ?_
         refine WL_pass rfl (yield_of rfl (congrArg Value.bool hc106)) rfl rfl ?_
         refine WL_pass rfl (yield_of rfl (congrArg Value.bool hc106)) rfl rfl ?_
         refine WL_pass rfl (yield_of rfl (congrArg Value.bool hc106)) rfl rfl ?_
         refine WL_run rfl (yield_of rfl (congrArg Value.bool hc105)) rfl (Exec.pick_f (v := Value.bool (false)) rfl (congrArg Value.bool hc106) rfl ?_)
         refine WL_step rfl rfl (Exec.pick_f (v := Value.bool (false)) rfl (congrArg Value.bool hc105) rfl ?_)
         refine WL_nil (at_normal ?_)
         have e108 := Option.some.inj ht101
         subst z101
         have hS121 := (hS114).f1
         have hS122 := (hS121).f1
         exact ⟨s108, (PHeap.le_refl _), hS122, p104, p105, p106, p107, p108, x100, rfl⟩
     ·intro f102 w107 hM101
      obtain ⟨s110, l105, hS123, p109, p110, p111, p112, p113, p114, p115⟩ := hM101
      refine (at_normal ?_)
      rcases ite_some hm100 with ⟨hc107, hm100⟩ | ⟨hc107, hm100⟩
      ·refine W_cond_t p115 hc107 ?_
       refine W_seq ?_
       refine W_region ?_
       refine WL_step rfl rfl (Exec.assign (v := Value.bool (false)) rfl rfl ?_)
       refine WL_nil (at_normal ?_)
       refine W_ret (ib_ret (at_ret (at_ret (ib_ret (at_ret (at_ret ?_))))))
       have e109 := Option.some.inj hm100
       subst c101
       have hq100 := hr100 _ (hres100 (by intro _ h; cases h))
       have e110 := Option.some.inj hq100
       subst r
       refine ⟨_, ret1 rfl, ?_⟩
       have hS124 := (hS123).drop
       have hS125 := (hS124).drop
       exact ⟨s110, (PHeap.le.trans (PHeap.le.trans l103 l104) l105), hS125, rfl⟩
      ·refine W_cond_f p115 hc107 ?_
       replace hc107 := not_true hc107
       refine W_skip (ib_normal (at_normal ?_))
       refine W_region ?_
       refine WL_step rfl rfl (Exec.add rfl p114 rfl ?_)
       refine WL_step rfl rfl (Exec.move (v := Value.int .i64 (IntKind.i64.wrap ((i100 : Int) + 1))) rfl rfl ?_)
       refine WL_nil (at_normal ?_)
       have e111 := Option.some.inj hm100
       subst c101
       have hS126 := (hS123).f1
       have hS127 := (hS126).f1
       refine ⟨_, rfl, ?_⟩; exact ⟨s110, (PHeap.le.trans l104 l105), hS127, p109, p110, p111, p112, p113, (Eq.trans rfl (wrap_up hi100 (SliceRep.le (a107.mono l103))))⟩
    ·intro t101 f103 w108 hI101 hres101
     obtain ⟨s111, l106, hS128, p116, p117, p118, p119, p120, x104⟩ := hI101
     refine W_seq ?_
     refine W_region ?_
     refine WL_step rfl rfl (Exec.lss rfl x104 p120 ?_)
     refine WL_nil (at_normal ?_)
     refine W_seq ?_
     refine W_false (congrArg Value.bool (decide_eq_false (by omega))) ?_
     refine W_exit (at_exit (at_exit (ib_here (at_normal ?_))))
     have hS129 := (hS128).f1
     have hS130 := (hS129).f1
     refine ⟨_, .inl hres101, ?_⟩; exact ⟨s111, l106, hS130, p116, p117, p118, p119, p120⟩
   ·rintro f104 w109 ⟨t102, hc108, hM102⟩
    have hm := hc108.elim (hn100 _) (hb100 _)
    clear hc108
    obtain ⟨s112, l107, hS131, p121, p122, p123, p124, p125⟩ := hM102
    refine (at_normal ?_)
    refine W_seq ?_
    refine W_seq ?_
    refine W_dl (n0 := 8) (.q 0 (.q 1 (.q 2 (.q 3 (.q 4 (.q 5 (.q 6 (.q 7 .done)))))))) hmix (by kernel_rfl) (by kernel_rfl) ?_
    have hS132 := hS131.drew
    refine DL_q rfl rfl (Exec.move (v := v106) rfl p121 ⟨rfl, ?_⟩)
    refine DL_q rfl rfl (Exec.field F26_1 rfl p122 rfl ⟨rfl, ?_⟩)
    refine DL_q rfl rfl (Exec.load_box (hS132) A3 rfl rfl rfl ⟨rfl, ?_⟩)
    obtain ⟨x105, q109, hm⟩ := bind_some hm
    refine DL_q rfl rfl (Exec.index_repE S22 rfl rfl rfl (a107.mono (PHeap.le.trans l103 l107)) q109 ?_)
    intro b106 o103 a111 e112
    refine ⟨rfl, ?_⟩
    refine DL_q rfl rfl (Exec.load_at (E := (encInt .i64)) hS132 A3 rfl rfl rfl a111 ?_)
    intro v110 q110
    obtain rfl := encInt_val.1 q110
    refine ⟨rfl, ?_⟩
    refine DL_q rfl rfl (Exec.field F26_1 rfl p123 rfl ⟨rfl, ?_⟩)
    refine DL_q rfl rfl (Exec.load_box ((hS132).f1) A3 rfl rfl rfl ⟨rfl, ?_⟩)
    refine DL_q rfl rfl (Exec.neq rfl rfl rfl ⟨rfl, ?_⟩)
    refine DL_done ?_
    refine WL_nil (at_normal ?_)
    rcases ite_some hm with ⟨hc109, hm⟩ | ⟨hc109, hm⟩
    ·refine W_cond_t rfl hc109 ?_
     refine W_seq ?_
     refine W_region ?_
     refine WL_step rfl rfl (Exec.assign (v := Value.bool (false)) rfl rfl ?_)
     refine WL_nil (at_normal ?_)
     refine W_ret (at_ret ?_)
     have e113 := Option.some.inj hm
     subst r
     refine ⟨_, ret1 rfl, ?_⟩
     have hS133 := (hS132).drop
     have hS134 := (hS133).drop
     exact ⟨s112, (PHeap.le.trans l103 l107), hS134, rfl⟩
    ·refine W_cond_f rfl hc109 ?_
     replace hc109 := not_true hc109
     refine W_skip (at_normal ?_)
     refine W_seq ?_
     refine W_seq ?_
     refine W_region ?_
     refine WL_step rfl rfl (Exec.field F26_3 rfl p122 rfl ?_)
     refine WL_step rfl rfl (Exec.load_box (hS132) A23 rfl rfl rfl ?_)
     refine WL_step rfl rfl (Exec.len_rep S23 rfl rfl (a102.mono (PHeap.le.trans l103 l107)) ?_)
     refine WL_step rfl rfl (Exec.move (v := Value.int .i64 (0)) rfl rfl ?_)
     refine WL_nil (at_normal ?_)
     obtain ⟨c102, hB101, hr101, hn101, hb101⟩ := ctl_some hm
     refine W_mid (M := fun f' w' => ∃ s', (c102 = .next s' ∨ c102 = .brk s') ∧ (fun (_ : Unit) => ∃ (s113 : PHeap) , PHeap.le s112 s113 ∧ St w0 s113 (Res.box b102 26 [Value.int .i64 (b100.States), Value.int .i64 (b100.Init), v103, v104, v105] :: H) w' ∧ f' 2 = v106 ∧ f' 4 = Value.pointer (some ⟨b102, 0, none⟩) ∧ f' 76 = v101 ∧ f' 77 = Value.int .i64 ((a100.Edges.length : Int))) s') ?_ ?_
     ·refine W_block (W_forC (fun k' s' f' w' => (fun (_ : Unit) => ∃ (s114 : PHeap) , PHeap.le s112 s114 ∧ St w0 s114 (Res.box b102 26 [Value.int .i64 (b100.States), Value.int .i64 (b100.Init), v103, v104, v105] :: H) w' ∧ f' 2 = v106 ∧ f' 4 = Value.pointer (some ⟨b102, 0, none⟩) ∧ f' 76 = v101 ∧ f' 77 = Value.int .i64 ((a100.Edges.length : Int)) ∧ f' 78 = Value.int .i64 (k' : Int)) s') hB101 ?_ ?_ ?_)
      ·have hS135 := (hS132).drop
       exact ⟨s112, (PHeap.le_refl _), hS135, p121, p123, rfl, rfl, rfl⟩
      ·intro i101 t103 c103 f105 w110 hi101 hI102 hm101 hres102
       obtain ⟨s115, l108, hS136, p126, p127, p128, p129, x106⟩ := hI102
       refine W_seq ?_
       refine W_region ?_
       refine WL_step rfl rfl (Exec.lss rfl x106 p129 ?_)
       refine WL_nil (at_normal ?_)
       refine W_seq ?_
       refine W_true (congrArg Value.bool (decide_eq_true (by omega))) ?_
       refine W_skip (at_normal ?_)
       refine W_seq ?_
       refine W_block ?_
       refine W_seq ?_
       refine W_region ?_
       obtain ⟨x107, q111, hm101⟩ := bind_some hm101
       refine WL_step rfl rfl (Exec.index_rep S23 rfl p128 x106 (a102.mono (PHeap.le.trans (PHeap.le.trans l103 l107) l108)) q111 ?_)
       intro b107 o104 a112
       refine WL_step rfl rfl (Exec.load_at (E := encEdge) hS136 A53 rfl rfl rfl a112 ?_)
       intro v111 q112
       obtain rfl := encEdge_val.1 q112
       refine WL_step rfl rfl (Exec.alloc (cs := [Value.int .i64 (0), Value.int .i64 (0), Value.int .i64 (0)]) hS136 Z53 rfl rfl ?_)
       intro b108 w111 hS137
       refine WL_step rfl rfl (Exec.store_box (ds := [Value.int .i64 (x107.From), Value.int .i64 (x107.Label), Value.int .i64 (x107.To)]) (es := [Value.int .i64 (x107.From), Value.int .i64 (x107.Label), Value.int .i64 (x107.To)]) hS137 A53 rfl rfl rfl rfl (one_cons rfl (one_cons rfl (one_cons rfl one_nil))) (Nat.le_of_ble_eq_true rfl) rfl ?_)
       intro w112 hS138
       refine WL_nil (at_normal ?_)
       refine W_seq ?_
       refine W_dl (n0 := 20) (.q 0 (.q 1 (.q 2 (.q 3 (.q 4 (.q 5 (.q 6 (.q 7 (.q 8 (.q 9 (.q 10 (.q 11 (.q 12 (.q 13 (.q 14 (.e 15 [] (.q 16 (.q 17 (.q 18 (.q 19 .done)))))))))))))))))))) hmix (by kernel_rfl) (by kernel_rfl) ?_
       have hS139 := hS138.drew
       refine DL_q rfl rfl (Exec.field F26_3 rfl p127 rfl ⟨rfl, ?_⟩)
       refine DL_q rfl rfl (Exec.load_box ((hS139).f1) A23 rfl rfl rfl ⟨rfl, ?_⟩)
       refine DL_q rfl rfl (Exec.move (v := v106) rfl p126 ⟨rfl, ?_⟩)
       refine DL_q rfl rfl (Exec.field F53_0 rfl rfl rfl ⟨rfl, ?_⟩)
       refine DL_q rfl rfl (Exec.load_box (hS139) A3 rfl rfl rfl ⟨rfl, ?_⟩)
       obtain ⟨x108, q113, hm101⟩ := bind_some hm101
       refine DL_q rfl rfl (Exec.index_repE S22 rfl rfl rfl (a107.mono (PHeap.le.trans (PHeap.le.trans l103 l107) l108)) q113 ?_)
       intro b109 o105 a113 e114
       refine ⟨rfl, ?_⟩
       refine DL_q rfl rfl (Exec.load_at (E := (encInt .i64)) hS139 A3 rfl rfl rfl a113 ?_)
       intro v112 q114
       obtain rfl := encInt_val.1 q114
       refine ⟨rfl, ?_⟩
       refine DL_q rfl rfl (Exec.field F53_1 rfl rfl rfl ⟨rfl, ?_⟩)
       refine DL_q rfl rfl (Exec.load_box (hS139) A3 rfl rfl rfl ⟨rfl, ?_⟩)
       refine DL_q rfl rfl (Exec.move (v := v106) rfl p126 ⟨rfl, ?_⟩)
       refine DL_q rfl rfl (Exec.field F53_2 rfl rfl rfl ⟨rfl, ?_⟩)
       refine DL_q rfl rfl (Exec.load_box (hS139) A3 rfl rfl rfl ⟨rfl, ?_⟩)
       obtain ⟨x109, q115, hm101⟩ := bind_some hm101
       refine DL_q rfl rfl (Exec.index_repE S22 rfl rfl rfl (a107.mono (PHeap.le.trans (PHeap.le.trans l103 l107) l108)) q115 ?_)
       intro b110 o106 a114 e115
       refine ⟨rfl, ?_⟩
       refine DL_q rfl rfl (Exec.load_at (E := (encInt .i64)) hS139 A3 rfl rfl rfl a114 ?_)
       intro v113 q116
       obtain rfl := encInt_val.1 q116
       refine ⟨rfl, ?_⟩
       refine DL_q rfl rfl (Exec.build rfl (parts_cons (c := [Value.int .i64 (x108)]) (cells_of rfl rfl) (parts_cons (c := [Value.int .i64 (x107.Label)]) (cells_of rfl rfl) (parts_cons (c := [Value.int .i64 (x109)]) (cells_of rfl rfl) parts_nil))) (v := Value.agg #[Value.int .i64 (x108), Value.int .i64 (x107.Label), Value.int .i64 (x109)]) (fun _ => by kernel_rfl) ⟨rfl, ?_⟩)
       obtain ⟨t104, q117, hm101⟩ := bind_some hm101
       obtain ⟨y104, y105⟩ := t104
       replace hm101 := un2_eq hm101
       refine DL_e rfl rfl (Exec.call rfl rfl Tryd.func65 rfl N65 (args_cons rfl (args_cons rfl (args_cons rfl args_nil))) ((api_Edge__f44_sim q117 hS139 (a105.mono (PHeap.le.trans (PHeap.le.trans l103 l107) l108))).mono ?_))
       rintro _ w113 ⟨_, rfl, ⟨s116, l109, hS140, rfl⟩⟩
       refine ⟨_, rfl, ?_⟩
       refine ⟨ag_nil, ?_⟩
       refine DL_q rfl rfl (Exec.move (v := Value.tuple #[Value.int .i64 (y104), Value.bool (y105)]) rfl rfl ⟨rfl, ?_⟩)
       refine DL_q rfl rfl (Exec.extract (v := Value.int .i64 (y104)) rfl rfl rfl ⟨rfl, ?_⟩)
       refine DL_q rfl rfl (Exec.extract (v := Value.bool (y105)) rfl rfl rfl ⟨rfl, ?_⟩)
       refine DL_q rfl rfl (Exec.assign (v := Value.int .i64 (y104)) rfl rfl ⟨rfl, ?_⟩)
       refine DL_done ?_
       refine WL_step rfl rfl (Exec.assign (v := Value.bool (y105)) rfl rfl ?_)
       refine WL_nil (at_normal ?_)
       refine W_seq ?_
       refine W_region ?_
       refine WL_step rfl rfl (Exec.move (v := Value.bool (y105)) rfl rfl ?_)
       refine WL_step rfl rfl (Exec.not rfl rfl ?_)
       refine WL_nil (at_normal ?_)
       rcases ite_some hm101 with ⟨hc110, hm101⟩ | ⟨hc110, hm101⟩
       ·refine W_cond_t rfl hc110 ?_
        refine W_seq ?_
        refine W_region ?_
        refine WL_step rfl rfl (Exec.assign (v := Value.bool (false)) rfl rfl ?_)
        refine WL_nil (at_normal ?_)
        refine W_ret (ib_ret (at_ret (at_ret (ib_ret (at_ret (at_ret ?_))))))
        have e116 := Option.some.inj hm101
        subst c103
        have hq101 := hr101 _ (hres102 (by intro _ h; cases h))
        have e117 := Option.some.inj hq101
        subst r
        refine ⟨_, ret1 rfl, ?_⟩
        have hS141 := (hS140).drop
        have hS142 := (hS141).drop
        exact ⟨s116, (PHeap.le.trans (PHeap.le.trans (PHeap.le.trans l103 l107) l108) l109), hS142, rfl⟩
       ·refine W_cond_f rfl hc110 ?_
        replace hc110 := not_true hc110
        refine W_skip (ib_normal (at_normal ?_))
        refine W_region ?_
        refine WL_step rfl rfl (Exec.add rfl x106 rfl ?_)
        refine WL_step rfl rfl (Exec.move (v := Value.int .i64 (IntKind.i64.wrap ((i101 : Int) + 1))) rfl rfl ?_)
        refine WL_nil (at_normal ?_)
        have e118 := Option.some.inj hm101
        subst c103
        have hS143 := (hS140).drop
        refine ⟨_, rfl, ?_⟩; exact ⟨s116, (PHeap.le.trans l108 l109), hS143, p126, p127, p128, p129, (Eq.trans rfl (wrap_up hi101 (SliceRep.le (a102.mono (PHeap.le.trans l103 l107)))))⟩
      ·intro t105 f106 w114 hI103 hres103
       obtain ⟨s117, l110, hS144, p130, p131, p132, p133, x110⟩ := hI103
       refine W_seq ?_
       refine W_region ?_
       refine WL_step rfl rfl (Exec.lss rfl x110 p133 ?_)
       refine WL_nil (at_normal ?_)
       refine W_seq ?_
       refine W_false (congrArg Value.bool (decide_eq_false (by omega))) ?_
       refine W_exit (at_exit (at_exit (ib_here (at_normal ?_))))
       refine ⟨_, .inl hres103, ?_⟩; exact ⟨s117, l110, hS144, p130, p131, p132, p133⟩
     ·rintro f107 w115 ⟨t106, hc111, hM103⟩
      have hm := hc111.elim (hn101 _) (hb101 _)
      clear hc111
      obtain ⟨s118, l111, hS145, p134, p135, p136, p137⟩ := hM103
      refine (at_normal ?_)
      refine W_seq ?_
      refine W_region ?_
      refine WL_step rfl rfl (Exec.assign (v := Value.bool (true)) rfl rfl ?_)
      refine WL_nil (at_normal ?_)
      refine W_ret ?_
      have e119 := Option.some.inj hm
      subst r
      refine ⟨_, ret1 rfl, ?_⟩
      have hS146 := (hS145).drop
      exact ⟨s118, (PHeap.le.trans (PHeap.le.trans l103 l107) l111), hS146, rfl⟩

theorem law45_bounded_sim {w0 w : World} {s : PHeap} {H : List Res} {x100 : System} {class100 : (List Int)} {v100 : Value} {v101 : Value} {v102 : Value} {v103 : Value} {r : Bool} (hm : law45_bounded_p x100 class100 = some r) (hS : St w0 s (H) w) (a100 : SliceRep (encInt .i64) s v100 x100.Costs) (a101 : SliceRep encEdge s v101 x100.Edges) (a102 : SliceRep encBool s v102 x100.Goals) (a103 : SliceRep (encInt .i64) s v103 class100) :
  Calls Tryd.prog 26 #[Value.agg #[Value.int .i64 (x100.States), Value.int .i64 (x100.Init), v100, v101, v102], v103] w fun e w' => ∃ v, e = .returned v ∧ ((fun (y100 : Bool) => ∃ (s100 : PHeap) , PHeap.le s s100 ∧ St w0 s100 (H) w' ∧ v = Value.bool (y100)) r) := by
 unfold law45_bounded_p at hm
 refine calls_of_W Tryd.func26 rfl rfl ?_
 refine W_seq ?_
 refine W_region ?_
 refine WL_step rfl rfl (Exec.box (cs := [Value.int .i64 (x100.States), Value.int .i64 (x100.Init), v100, v101, v102]) hS rfl rfl rfl ?_)
 intro b100 w100 hS100
 refine WL_step rfl rfl (Exec.assign (v := Value.bool (false)) rfl rfl ?_)
 refine WL_nil (at_normal ?_)
 refine W_seq ?_
 refine W_region ?_
 refine WL_step rfl rfl (Exec.load_box_agg (ds := [Value.int .i64 (x100.States), Value.int .i64 (x100.Init), v100, v101, v102]) (hS100) A26 rfl rfl rfl ?_)
 refine WL_step rfl rfl (Exec.move (v := v103) rfl rfl ?_)
 obtain ⟨t100, q100, hm⟩ := bind_some hm
 obtain ⟨y101, y102⟩ := t100
 replace hm := un2_eq hm
 refine WL_step rfl rfl (Exec.call rfl rfl Tryd.func24 rfl N24 (args_cons rfl (args_cons rfl args_nil)) ((shrink_Quotient_sim q100 hS100 a100 a101 a102 a103).mono ?_))
 rintro _ w101 ⟨_, rfl, ⟨s101, v104, v105, v106, l100, hS101, rfl, r100, r101, r102⟩⟩
 refine ⟨_, rfl, ?_⟩
 refine WL_step rfl rfl (Exec.move (v := Value.tuple #[Value.agg #[Value.int .i64 (y102.States), Value.int .i64 (y102.Init), v104, v105, v106], errV 34 (y101)]) rfl rfl ?_)
 refine WL_step rfl rfl (Exec.extract (v := Value.agg #[Value.int .i64 (y102.States), Value.int .i64 (y102.Init), v104, v105, v106]) rfl rfl rfl ?_)
 refine WL_step rfl rfl (Exec.extract (v := errV 34 (y101)) rfl rfl rfl ?_)
 refine WL_step rfl rfl (Exec.alloc (cs := [Value.int .i64 (0), Value.int .i64 (0), Value.slice none 0 0, Value.slice none 0 0, Value.slice none 0 0]) hS101 Z26 rfl rfl ?_)
 intro b101 w102 hS102
 refine WL_step rfl rfl (Exec.store_box (ds := [Value.int .i64 (y102.States), Value.int .i64 (y102.Init), v104, v105, v106]) (es := [Value.int .i64 (y102.States), Value.int .i64 (y102.Init), v104, v105, v106]) hS102 A26 rfl rfl rfl rfl (one_cons rfl (one_cons rfl (one_cons (r100).one (one_cons (r101).one (one_cons (r102).one one_nil))))) (Nat.le_of_ble_eq_true rfl) rfl ?_)
 intro w103 hS103
 refine WL_step rfl rfl (Exec.assign (v := errV 34 (y101)) rfl rfl ?_)
 refine WL_nil (at_normal ?_)
 refine W_seq ?_
 refine W_seq ?_
 refine W_region ?_
 refine WL_step rfl rfl (Exec.move (v := errV 34 (y101)) rfl rfl ?_)
 refine WL_step rfl rfl (Exec.err_neq_nil (T := 34) Tryd.underlying30 rfl rfl rfl ?_)
 refine WL_nil (at_normal ?_)
 rcases ite_some hm with ⟨hc100, hm⟩ | ⟨hc100, hm⟩
 ·refine W_cond_t rfl hc100 ?_
  refine W_seq ?_
  refine W_region ?_
  refine WL_step rfl rfl (Exec.assign (v := Value.bool (false)) rfl rfl ?_)
  refine WL_nil (at_normal ?_)
  refine W_ret (at_ret ?_)
  have e100 := Option.some.inj hm
  subst r
  refine ⟨_, ret1 rfl, ?_⟩
  have hS104 := (hS103).drop
  have hS105 := (hS104).drop
  exact ⟨s101, l100, hS105, rfl⟩
 ·refine W_cond_f rfl hc100 ?_
  replace hc100 := not_true hc100
  refine W_skip (at_normal ?_)
  refine W_seq ?_
  refine W_region ?_
  refine WL_step rfl rfl (Exec.load_box_agg (ds := [Value.int .i64 (x100.States), Value.int .i64 (x100.Init), v100, v101, v102]) ((hS103).f1) A26 rfl rfl rfl ?_)
  obtain ⟨t101, q101, hm⟩ := bind_some hm
  obtain ⟨y103, y104⟩ := t101
  replace hm := un2_eq hm
  refine WL_step rfl rfl (Exec.call rfl rfl Tryd.func25 rfl N25 (args_cons rfl args_nil) ((transys_Distances_sim q101 hS103 (a100.mono l100) (a101.mono l100) (a102.mono l100)).mono ?_))
  rintro _ w104 ⟨_, rfl, ⟨s102, v107, l101, hS106, rfl, r103⟩⟩
  refine ⟨_, rfl, ?_⟩
  refine WL_step rfl rfl (Exec.move (v := Value.tuple #[v107, errV 34 (y104)]) rfl rfl ?_)
  refine WL_step rfl rfl (Exec.extract (v := v107) rfl rfl rfl ?_)
  refine WL_step rfl rfl (Exec.extract (v := errV 34 (y104)) rfl rfl rfl ?_)
  refine WL_step rfl rfl (Exec.assign (v := v107) rfl rfl ?_)
  refine WL_step rfl rfl (Exec.assign (v := errV 34 (y104)) rfl rfl ?_)
  refine WL_nil (at_normal ?_)
  refine W_seq ?_
  refine W_region ?_
  refine WL_step rfl rfl (Exec.load_box_agg (ds := [Value.int .i64 (y102.States), Value.int .i64 (y102.Init), v104, v105, v106]) (hS106) A26 rfl rfl rfl ?_)
  obtain ⟨t102, q102, hm⟩ := bind_some hm
  obtain ⟨y105, y106⟩ := t102
  replace hm := un2_eq hm
  refine WL_step rfl rfl (Exec.call rfl rfl Tryd.func25 rfl N25 (args_cons rfl args_nil) ((transys_Distances_sim q102 hS106 (r100.mono l101) (r101.mono l101) (r102.mono l101)).mono ?_))
  rintro _ w105 ⟨_, rfl, ⟨s103, v108, l102, hS107, rfl, r104⟩⟩
  refine ⟨_, rfl, ?_⟩
  refine WL_step rfl rfl (Exec.move (v := Value.tuple #[v108, errV 34 (y106)]) rfl rfl ?_)
  refine WL_step rfl rfl (Exec.extract (v := v108) rfl rfl rfl ?_)
  refine WL_step rfl rfl (Exec.extract (v := errV 34 (y106)) rfl rfl rfl ?_)
  refine WL_step rfl rfl (Exec.assign (v := v108) rfl rfl ?_)
  refine WL_step rfl rfl (Exec.assign (v := errV 34 (y106)) rfl rfl ?_)
  refine WL_nil (at_normal ?_)
  refine W_seq ?_
  refine W_seq ?_
  obtain ⟨z100, ht100, hm⟩ := bind_some hm
  refine W_mid (M := fun f' w' => (fun (z100 : Bool) => ∃ (s104 : PHeap) , PHeap.le s103 s104 ∧ St w0 s104 (H) w' ∧ f' 1 = v103 ∧ f' 7 = v107 ∧ f' 9 = v108 ∧ f' 43 = Value.bool (z100)) z100) ?_ ?_
  ·refine W_region ?_
   refine WL_step rfl rfl (Exec.move (v := errV 34 (y104)) rfl rfl ?_)
   refine WL_step rfl rfl (Exec.err_neq_nil (T := 34) Tryd.underlying30 rfl rfl rfl ?_)
   refine WL_step rfl rfl (Exec.move (v := Value.bool (y104.isSome)) rfl rfl ?_)
   rcases ite_some ht100 with ⟨hc101, ht100⟩ | ⟨hc101, ht100⟩
   ·refine WL_pass rfl (yield_of rfl (congrArg Value.bool hc101)) rfl rfl ?_
    refine WL_pass rfl (yield_of rfl (congrArg Value.bool hc101)) rfl rfl ?_
    refine WL_step rfl rfl (Exec.pick_t (v := Value.bool (true)) rfl (congrArg Value.bool hc101) rfl ?_)
    refine WL_step rfl rfl (Exec.move (v := Value.bool (true)) rfl rfl ?_)
    refine WL_pass rfl (yield_of rfl rfl) rfl rfl ?_
    refine WL_pass rfl (yield_of rfl rfl) rfl rfl ?_
    refine WL_pass rfl (yield_of rfl rfl) rfl rfl ?_
    refine WL_pass rfl (yield_of rfl rfl) rfl rfl ?_
    refine WL_pass rfl (yield_of rfl rfl) rfl rfl ?_
    refine WL_step rfl rfl (Exec.pick_t (v := Value.bool (true)) rfl rfl rfl ?_)
    refine WL_nil (at_normal ?_)
    have e101 := Option.some.inj ht100
    subst z100
    have hS108 := (hS107).drop
    have hS109 := (hS108).drop
    exact ⟨s103, (PHeap.le_refl _), hS109, rfl, rfl, rfl, rfl⟩
   ·replace hc101 := not_true hc101
    refine WL_run rfl (yield_of rfl (congrArg Value.bool hc101)) rfl (Exec.move (v := errV 34 (y106)) rfl rfl ?_)
    refine WL_run rfl (yield_of rfl (congrArg Value.bool hc101)) rfl (Exec.err_neq_nil (T := 34) Tryd.underlying30 rfl rfl rfl ?_)
    refine WL_step rfl rfl (Exec.pick_f (v := Value.bool (y106.isSome)) rfl (congrArg Value.bool hc101) rfl ?_)
    refine WL_step rfl rfl (Exec.move (v := Value.bool (y106.isSome)) rfl rfl ?_)
    rcases ite_some ht100 with ⟨hc102, ht100⟩ | ⟨hc102, ht100⟩
    ·refine WL_pass rfl (yield_of rfl (congrArg Value.bool hc102)) rfl rfl ?_
     refine WL_pass rfl (yield_of rfl (congrArg Value.bool hc102)) rfl rfl ?_
     refine WL_pass rfl (yield_of rfl (congrArg Value.bool hc102)) rfl rfl ?_
     refine WL_pass rfl (yield_of rfl (congrArg Value.bool hc102)) rfl rfl ?_
     refine WL_pass rfl (yield_of rfl (congrArg Value.bool hc102)) rfl rfl ?_
     refine WL_step rfl rfl (Exec.pick_t (v := Value.bool (true)) rfl (congrArg Value.bool hc102) rfl ?_)
     refine WL_nil (at_normal ?_)
     have e102 := Option.some.inj ht100
     subst z100
     have hS110 := (hS107).drop
     have hS111 := (hS110).drop
     exact ⟨s103, (PHeap.le_refl _), hS111, rfl, rfl, rfl, rfl⟩
    ·replace hc102 := not_true hc102
     refine WL_run rfl (yield_of rfl (congrArg Value.bool hc102)) rfl (Exec.load_box_agg (ds := [Value.int .i64 (x100.States), Value.int .i64 (x100.Init), v100, v101, v102]) ((hS107).f1) A26 rfl rfl rfl ?_)
     refine WL_run rfl (yield_of rfl (congrArg Value.bool hc102)) rfl (Exec.load_box_agg (ds := [Value.int .i64 (y102.States), Value.int .i64 (y102.Init), v104, v105, v106]) (hS107) A26 rfl rfl rfl ?_)
     refine WL_run rfl (yield_of rfl (congrArg Value.bool hc102)) rfl (Exec.move (v := v103) rfl rfl ?_)
     obtain ⟨y107, q103, ht100⟩ := bind_some ht100
     refine WL_run rfl (yield_of rfl (congrArg Value.bool hc102)) rfl (Exec.call rfl rfl Tryd.func51 rfl N51 (args_cons rfl (args_cons rfl (args_cons rfl args_nil))) ((transys_Simulates_sim q103 hS107 (a100.mono (PHeap.le.trans (PHeap.le.trans l100 l101) l102)) (a101.mono (PHeap.le.trans (PHeap.le.trans l100 l101) l102)) (a102.mono (PHeap.le.trans (PHeap.le.trans l100 l101) l102)) (r100.mono (PHeap.le.trans l101 l102)) (r101.mono (PHeap.le.trans l101 l102)) (r102.mono (PHeap.le.trans l101 l102)) (a103.mono (PHeap.le.trans (PHeap.le.trans l100 l101) l102))).mono ?_))
     rintro _ w106 ⟨_, rfl, ⟨s105, l103, hS112, rfl⟩⟩
     refine ⟨_, rfl, ?_⟩
     refine WL_run rfl (yield_of rfl (congrArg Value.bool hc102)) rfl (Exec.not rfl rfl ?_)
     refine WL_step rfl rfl (Exec.pick_f (v := Value.bool (!y107)) rfl (congrArg Value.bool hc102) rfl ?_)
     refine WL_nil (at_normal ?_)
     have e103 := Option.some.inj ht100
     subst z100
     have hS113 := (hS112).drop
     have hS114 := (hS113).drop
     exact ⟨s105, l103, hS114, rfl, rfl, rfl, rfl⟩
  ·intro f100 w107 hM100
   obtain ⟨s106, l104, hS115, p100, p101, p102, p103⟩ := hM100
   refine (at_normal ?_)
   rcases ite_some hm with ⟨hc103, hm⟩ | ⟨hc103, hm⟩
   ·refine W_cond_t p103 hc103 ?_
    refine W_seq ?_
    refine W_region ?_
    refine WL_step rfl rfl (Exec.assign (v := Value.bool (false)) rfl rfl ?_)
    refine WL_nil (at_normal ?_)
    refine W_ret (at_ret ?_)
    have e104 := Option.some.inj hm
    subst r
    refine ⟨_, ret1 rfl, ?_⟩
    exact ⟨s106, (PHeap.le.trans (PHeap.le.trans (PHeap.le.trans l100 l101) l102) l104), hS115, rfl⟩
   ·refine W_cond_f p103 hc103 ?_
    replace hc103 := not_true hc103
    refine W_skip (at_normal ?_)
    refine W_seq ?_
    refine W_seq ?_
    refine W_region ?_
    refine WL_step rfl rfl (Exec.move (v := v103) rfl p100 ?_)
    refine WL_step rfl rfl (Exec.len_rep S22 rfl rfl (a103.mono (PHeap.le.trans (PHeap.le.trans (PHeap.le.trans l100 l101) l102) l104)) ?_)
    refine WL_step rfl rfl (Exec.move (v := Value.int .i64 (0)) rfl rfl ?_)
    refine WL_nil (at_normal ?_)
    obtain ⟨c100, hB100, hr100, hn100, hb100⟩ := ctl_some hm
    refine W_mid (M := fun f' w' => ∃ s', (c100 = .next s' ∨ c100 = .brk s') ∧ (fun (_ : Unit) => ∃ (s107 : PHeap) , PHeap.le s106 s107 ∧ St w0 s107 (H) w' ∧ f' 7 = v107 ∧ f' 9 = v108 ∧ f' 44 = v103 ∧ f' 45 = Value.int .i64 ((class100.length : Int))) s') ?_ ?_
    ·refine W_block (W_forC (fun k' s' f' w' => (fun (_ : Unit) => ∃ (s108 : PHeap) , PHeap.le s106 s108 ∧ St w0 s108 (H) w' ∧ f' 7 = v107 ∧ f' 9 = v108 ∧ f' 44 = v103 ∧ f' 45 = Value.int .i64 ((class100.length : Int)) ∧ f' 46 = Value.int .i64 (k' : Int)) s') hB100 ?_ ?_ ?_)
     ·exact ⟨s106, (PHeap.le_refl _), hS115, p101, p102, rfl, rfl, rfl⟩
     ·intro i100 t103 c101 f101 w108 hi100 hI100 hm100 hres100
      obtain ⟨s109, l105, hS116, p104, p105, p106, p107, x101⟩ := hI100
      refine W_seq ?_
      refine W_region ?_
      refine WL_step rfl rfl (Exec.lss rfl x101 p107 ?_)
      refine WL_nil (at_normal ?_)
      refine W_seq ?_
      refine W_true (congrArg Value.bool (decide_eq_true (by omega))) ?_
      refine W_skip (at_normal ?_)
      refine W_seq ?_
      refine W_block ?_
      refine W_seq ?_
      refine W_region ?_
      refine WL_step rfl rfl (Exec.move (v := Value.int .i64 ((i100 : Int))) rfl x101 ?_)
      obtain ⟨x102, q104, hm100⟩ := bind_some hm100
      refine WL_step rfl rfl (Exec.index_rep S22 rfl p106 x101 (a103.mono (PHeap.le.trans (PHeap.le.trans (PHeap.le.trans (PHeap.le.trans l100 l101) l102) l104) l105)) q104 ?_)
      intro b102 o100 a104
      refine WL_step rfl rfl (Exec.load_at (E := (encInt .i64)) hS116 A3 rfl rfl rfl a104 ?_)
      intro v109 q105
      obtain rfl := encInt_val.1 q105
      refine WL_step rfl rfl (Exec.assign (v := Value.int .i64 ((i100 : Int))) rfl rfl ?_)
      refine WL_step rfl rfl (Exec.assign (v := Value.int .i64 (x102)) rfl rfl ?_)
      refine WL_nil (at_normal ?_)
      refine W_seq ?_
      refine W_dl (n0 := 9) (.q 0 (.q 1 (.q 2 (.q 3 (.q 4 (.q 5 (.q 6 (.q 7 (.q 8 .done))))))))) hmix (by kernel_rfl) (by kernel_rfl) ?_
      have hS117 := hS116.drew
      refine DL_q rfl rfl (Exec.move (v := v108) rfl p105 ⟨rfl, ?_⟩)
      refine DL_q rfl rfl (Exec.move (v := Value.int .i64 (x102)) rfl rfl ⟨rfl, ?_⟩)
      obtain ⟨x103, q106, hm100⟩ := bind_some hm100
      refine DL_q rfl rfl (Exec.index_repE S22 rfl rfl rfl (r104.mono (PHeap.le.trans l104 l105)) q106 ?_)
      intro b103 o101 a105 e105
      refine ⟨rfl, ?_⟩
      refine DL_q rfl rfl (Exec.load_at (E := (encInt .i64)) hS117 A3 rfl rfl rfl a105 ?_)
      intro v110 q107
      obtain rfl := encInt_val.1 q107
      refine ⟨rfl, ?_⟩
      refine DL_q rfl rfl (Exec.move (v := v107) rfl p104 ⟨rfl, ?_⟩)
      refine DL_q rfl rfl (Exec.move (v := Value.int .i64 ((i100 : Int))) rfl rfl ⟨rfl, ?_⟩)
      obtain ⟨x104, q108, hm100⟩ := bind_some hm100
      refine DL_q rfl rfl (Exec.index_repE S22 rfl rfl rfl (r103.mono (PHeap.le.trans (PHeap.le.trans l102 l104) l105)) q108 ?_)
      intro b104 o102 a106 e106
      refine ⟨rfl, ?_⟩
      refine DL_q rfl rfl (Exec.load_at (E := (encInt .i64)) hS117 A3 rfl rfl rfl a106 ?_)
      intro v111 q109
      obtain rfl := encInt_val.1 q109
      refine ⟨rfl, ?_⟩
      refine DL_q rfl rfl (Exec.gtr rfl rfl rfl ⟨rfl, ?_⟩)
      refine DL_done ?_
      refine WL_nil (at_normal ?_)
      rcases ite_some hm100 with ⟨hc104, hm100⟩ | ⟨hc104, hm100⟩
      ·refine W_cond_t rfl hc104 ?_
       refine W_seq ?_
       refine W_region ?_
       refine WL_step rfl rfl (Exec.assign (v := Value.bool (false)) rfl rfl ?_)
       refine WL_nil (at_normal ?_)
       refine W_ret (ib_ret (at_ret (at_ret (ib_ret (at_ret (at_ret ?_))))))
       have e107 := Option.some.inj hm100
       subst c101
       have hq100 := hr100 _ (hres100 (by intro _ h; cases h))
       have e108 := Option.some.inj hq100
       subst r
       refine ⟨_, ret1 rfl, ?_⟩
       exact ⟨s109, (PHeap.le.trans (PHeap.le.trans (PHeap.le.trans (PHeap.le.trans l100 l101) l102) l104) l105), hS117, rfl⟩
      ·refine W_cond_f rfl hc104 ?_
       replace hc104 := not_true hc104
       refine W_skip (ib_normal (at_normal ?_))
       refine W_region ?_
       refine WL_step rfl rfl (Exec.add rfl x101 rfl ?_)
       refine WL_step rfl rfl (Exec.move (v := Value.int .i64 (IntKind.i64.wrap ((i100 : Int) + 1))) rfl rfl ?_)
       refine WL_nil (at_normal ?_)
       have e109 := Option.some.inj hm100
       subst c101
       refine ⟨_, rfl, ?_⟩; exact ⟨s109, l105, hS117, p104, p105, p106, p107, (Eq.trans rfl (wrap_up hi100 (SliceRep.le (a103.mono (PHeap.le.trans (PHeap.le.trans (PHeap.le.trans l100 l101) l102) l104)))))⟩
     ·intro t104 f102 w109 hI101 hres101
      obtain ⟨s110, l106, hS118, p108, p109, p110, p111, x105⟩ := hI101
      refine W_seq ?_
      refine W_region ?_
      refine WL_step rfl rfl (Exec.lss rfl x105 p111 ?_)
      refine WL_nil (at_normal ?_)
      refine W_seq ?_
      refine W_false (congrArg Value.bool (decide_eq_false (by omega))) ?_
      refine W_exit (at_exit (at_exit (ib_here (at_normal ?_))))
      refine ⟨_, .inl hres101, ?_⟩; exact ⟨s110, l106, hS118, p108, p109, p110, p111⟩
    ·rintro f103 w110 ⟨t105, hc105, hM101⟩
     have hm := hc105.elim (hn100 _) (hb100 _)
     clear hc105
     obtain ⟨s111, l107, hS119, p112, p113, p114, p115⟩ := hM101
     refine (at_normal ?_)
     refine W_seq ?_
     refine W_region ?_
     refine WL_step rfl rfl (Exec.assign (v := Value.bool (true)) rfl rfl ?_)
     refine WL_nil (at_normal ?_)
     refine W_ret ?_
     have e110 := Option.some.inj hm
     subst r
     refine ⟨_, ret1 rfl, ?_⟩
     exact ⟨s111, (PHeap.le.trans (PHeap.le.trans (PHeap.le.trans (PHeap.le.trans l100 l101) l102) l104) l107), hS119, rfl⟩

theorem N8 : (Tryd.f8.name == "runtime.NumGoroutine") = false := by kernel_rfl

theorem law45_ShrinkBounds_sim {w0 w : World} {s : PHeap} {H : List Res} {x100 : System} {class100 : (List Int)} {v100 : Value} {v101 : Value} {v102 : Value} {v103 : Value} {r : Bool} (hm : law45_ShrinkBounds_p x100 class100 = some r) (hS : St w0 s (H) w) (a100 : SliceRep (encInt .i64) s v100 x100.Costs) (a101 : SliceRep encEdge s v101 x100.Edges) (a102 : SliceRep encBool s v102 x100.Goals) (a103 : SliceRep (encInt .i64) s v103 class100) :
  Calls Tryd.prog 8 #[Value.agg #[Value.int .i64 (x100.States), Value.int .i64 (x100.Init), v100, v101, v102], v103] w fun e w' => ∃ v, e = .returned v ∧ ((fun (y100 : Bool) => ∃ (s100 : PHeap) , PHeap.le s s100 ∧ St w0 s100 (H) w' ∧ v = Value.bool (y100)) r) := by
 unfold law45_ShrinkBounds_p at hm
 refine calls_of_W Tryd.func8 rfl rfl ?_
 refine W_seq ?_
 refine W_region ?_
 refine WL_step rfl rfl (Exec.box (cs := [Value.int .i64 (x100.States), Value.int .i64 (x100.Init), v100, v101, v102]) hS rfl rfl rfl ?_)
 intro b100 w100 hS100
 refine WL_step rfl rfl (Exec.assign (v := Value.bool (false)) rfl rfl ?_)
 refine WL_nil (at_normal ?_)
 refine W_seq ?_
 refine W_seq ?_
 obtain ⟨z100, ht100, hm⟩ := bind_some hm
 refine W_mid (M := fun f' w' => (fun (z100 : Bool) => ∃ (s101 : PHeap) , PHeap.le s s101 ∧ St w0 s101 (Res.box b100 26 [Value.int .i64 (x100.States), Value.int .i64 (x100.Init), v100, v101, v102] :: H) w' ∧ f' 1 = v103 ∧ f' 2 = Value.pointer (some ⟨b100, 0, none⟩) ∧ f' 17 = Value.bool (z100)) z100) ?_ ?_
 ·refine W_region ?_
  obtain ⟨y101, q100, ht100⟩ := bind_some ht100
  refine WL_step rfl rfl (Exec.call rfl rfl Tryd.func10 rfl N10 args_nil ((law45_awake_sim q100 hS100 ).mono ?_))
  rintro _ w101 ⟨_, rfl, ⟨s102, l100, hS101, rfl⟩⟩
  refine ⟨_, rfl, ?_⟩
  refine WL_step rfl rfl (Exec.not rfl rfl ?_)
  refine WL_step rfl rfl (Exec.move (v := Value.bool (!y101)) rfl rfl ?_)
  rcases ite_some ht100 with ⟨hc100, ht100⟩ | ⟨hc100, ht100⟩
  ·refine WL_pass rfl (yield_of rfl (congrArg Value.bool hc100)) rfl rfl ?_
   refine WL_pass rfl (yield_of rfl (congrArg Value.bool hc100)) rfl rfl ?_
   refine WL_step rfl rfl (Exec.pick_t (v := Value.bool (true)) rfl (congrArg Value.bool hc100) rfl ?_)
   refine WL_step rfl rfl (Exec.move (v := Value.bool (true)) rfl rfl ?_)
   refine WL_pass rfl (yield_of rfl rfl) rfl rfl ?_
   refine WL_pass rfl (yield_of rfl rfl) rfl rfl ?_
   refine WL_pass rfl (yield_of rfl rfl) rfl rfl ?_
   refine WL_step rfl rfl (Exec.pick_t (v := Value.bool (true)) rfl rfl rfl ?_)
   refine WL_nil (at_normal ?_)
   have e100 := Option.some.inj ht100
   subst z100
   exact ⟨s102, l100, hS101, rfl, rfl, rfl⟩
  ·replace hc100 := not_true hc100
   refine WL_run rfl (yield_of rfl (congrArg Value.bool hc100)) rfl (Exec.load_box_agg (ds := [Value.int .i64 (x100.States), Value.int .i64 (x100.Init), v100, v101, v102]) (hS101) A26 rfl rfl rfl ?_)
   obtain ⟨y102, q101, ht100⟩ := bind_some ht100
   refine WL_run rfl (yield_of rfl (congrArg Value.bool hc100)) rfl (Exec.call rfl rfl Tryd.func11 rfl N11 (args_cons rfl args_nil) ((law45_large_sim q101 hS101 (a100.mono l100) (a101.mono l100) (a102.mono l100)).mono ?_))
   rintro _ w102 ⟨_, rfl, ⟨s103, l101, hS102, rfl⟩⟩
   refine ⟨_, rfl, ?_⟩
   refine WL_step rfl rfl (Exec.pick_f (v := Value.bool (y102)) rfl (congrArg Value.bool hc100) rfl ?_)
   refine WL_step rfl rfl (Exec.move (v := Value.bool (y102)) rfl rfl ?_)
   rcases ite_some ht100 with ⟨hc101, ht100⟩ | ⟨hc101, ht100⟩
   ·refine WL_pass rfl (yield_of rfl (congrArg Value.bool hc101)) rfl rfl ?_
    refine WL_pass rfl (yield_of rfl (congrArg Value.bool hc101)) rfl rfl ?_
    refine WL_pass rfl (yield_of rfl (congrArg Value.bool hc101)) rfl rfl ?_
    refine WL_step rfl rfl (Exec.pick_t (v := Value.bool (true)) rfl (congrArg Value.bool hc101) rfl ?_)
    refine WL_nil (at_normal ?_)
    have e101 := Option.some.inj ht100
    subst z100
    exact ⟨s103, (PHeap.le.trans l100 l101), hS102, rfl, rfl, rfl⟩
   ·replace hc101 := not_true hc101
    refine WL_run rfl (yield_of rfl (congrArg Value.bool hc101)) rfl (Exec.move (v := v103) rfl rfl ?_)
    refine WL_run rfl (yield_of rfl (congrArg Value.bool hc101)) rfl (Exec.len_rep S22 rfl rfl (a103.mono (PHeap.le.trans l100 l101)) ?_)
    refine WL_run rfl (yield_of rfl (congrArg Value.bool hc101)) rfl (Exec.gtr rfl rfl rfl ?_)
    refine WL_step rfl rfl (Exec.pick_f (v := Value.bool (decide (50 < (class100.length : Int)))) rfl (congrArg Value.bool hc101) rfl ?_)
    refine WL_nil (at_normal ?_)
    have e102 := Option.some.inj ht100
    subst z100
    exact ⟨s103, (PHeap.le.trans l100 l101), hS102, rfl, rfl, rfl⟩
 ·intro f100 w103 hM100
  obtain ⟨s104, l102, hS103, p100, p101, p102⟩ := hM100
  refine (at_normal ?_)
  rcases ite_some hm with ⟨hc102, hm⟩ | ⟨hc102, hm⟩
  ·refine W_cond_t p102 hc102 ?_
   refine W_seq ?_
   refine W_region ?_
   obtain ⟨y103, q102, hm⟩ := bind_some hm
   refine WL_step rfl rfl (Exec.call rfl rfl Tryd.func10 rfl N10 args_nil ((law45_awake_sim q102 hS103 ).mono ?_))
   rintro _ w104 ⟨_, rfl, ⟨s105, l103, hS104, rfl⟩⟩
   refine ⟨_, rfl, ?_⟩
   refine WL_step rfl rfl (Exec.assign (v := Value.bool (y103)) rfl rfl ?_)
   refine WL_nil (at_normal ?_)
   refine W_ret (at_ret ?_)
   have e103 := Option.some.inj hm
   subst r
   refine ⟨_, ret1 rfl, ?_⟩
   have hS105 := (hS104).drop
   exact ⟨s105, (PHeap.le.trans l102 l103), hS105, rfl⟩
  ·refine W_cond_f p102 hc102 ?_
   replace hc102 := not_true hc102
   refine W_skip (at_normal ?_)
   refine W_seq ?_
   refine W_seq ?_
   refine W_region ?_
   refine WL_step rfl rfl (Exec.load_box_agg (ds := [Value.int .i64 (x100.States), Value.int .i64 (x100.Init), v100, v101, v102]) (hS103) A26 rfl p101 rfl ?_)
   refine WL_step rfl rfl (Exec.move (v := v103) rfl p100 ?_)
   obtain ⟨t100, q103, hm⟩ := bind_some hm
   obtain ⟨y104, y105⟩ := t100
   replace hm := un2_eq hm
   refine WL_step rfl rfl (Exec.call rfl rfl Tryd.func24 rfl N24 (args_cons rfl (args_cons rfl args_nil)) ((shrink_Quotient_sim q103 hS103 (a100.mono l102) (a101.mono l102) (a102.mono l102) (a103.mono l102)).mono ?_))
   rintro _ w105 ⟨_, rfl, ⟨s106, v104, v105, v106, l104, hS106, rfl, r100, r101, r102⟩⟩
   refine ⟨_, rfl, ?_⟩
   refine WL_step rfl rfl (Exec.move (v := Value.tuple #[Value.agg #[Value.int .i64 (y105.States), Value.int .i64 (y105.Init), v104, v105, v106], errV 34 (y104)]) rfl rfl ?_)
   refine WL_step rfl rfl (Exec.extract (v := Value.agg #[Value.int .i64 (y105.States), Value.int .i64 (y105.Init), v104, v105, v106]) rfl rfl rfl ?_)
   refine WL_step rfl rfl (Exec.extract (v := errV 34 (y104)) rfl rfl rfl ?_)
   refine WL_step rfl rfl (Exec.alloc (cs := [Value.int .i64 (0), Value.int .i64 (0), Value.slice none 0 0, Value.slice none 0 0, Value.slice none 0 0]) hS106 Z26 rfl rfl ?_)
   intro b101 w106 hS107
   refine WL_step rfl rfl (Exec.store_box (ds := [Value.int .i64 (y105.States), Value.int .i64 (y105.Init), v104, v105, v106]) (es := [Value.int .i64 (y105.States), Value.int .i64 (y105.Init), v104, v105, v106]) hS107 A26 rfl rfl rfl rfl (one_cons rfl (one_cons rfl (one_cons (r100).one (one_cons (r101).one (one_cons (r102).one one_nil))))) (Nat.le_of_ble_eq_true rfl) rfl ?_)
   intro w107 hS108
   refine WL_step rfl rfl (Exec.assign (v := errV 34 (y104)) rfl rfl ?_)
   refine WL_nil (at_normal ?_)
   refine W_seq ?_
   refine W_region ?_
   refine WL_step rfl rfl (Exec.move (v := errV 34 (y104)) rfl rfl ?_)
   refine WL_step rfl rfl (Exec.err_neq_nil (T := 34) Tryd.underlying30 rfl rfl rfl ?_)
   refine WL_nil (at_normal ?_)
   rcases ite_some hm with ⟨hc103, hm⟩ | ⟨hc103, hm⟩
   ·refine W_cond_t rfl hc103 ?_
    refine W_seq ?_
    refine W_region ?_
    refine WL_step rfl rfl (Exec.move (v := errV 34 (y104)) rfl rfl ?_)
    refine WL_step rfl rfl (Exec.call rfl rfl Tryd.func14 rfl N14 (args_cons rfl (args_cons rfl args_nil)) ((base_Is_sim (base_Is_tot y104 2) hS108 ).mono ?_))
    rintro _ w108 ⟨_, rfl, ⟨s107, l105, hS109, rfl⟩⟩
    refine ⟨_, rfl, ?_⟩
    refine WL_step rfl rfl (Exec.assign (v := Value.bool ((base_Is_t y104 2))) rfl rfl ?_)
    refine WL_nil (at_normal ?_)
    refine W_ret (at_ret ?_)
    have e104 := Option.some.inj hm
    subst r
    refine ⟨_, ret1 rfl, ?_⟩
    have hS110 := (hS109).drop
    have hS111 := (hS110).drop
    exact ⟨s107, (PHeap.le.trans (PHeap.le.trans l102 l104) l105), hS111, rfl⟩
   ·refine W_cond_f rfl hc103 ?_
    replace hc103 := not_true hc103
    refine W_skip (at_normal ?_)
    refine W_seq ?_
    refine W_region ?_
    refine WL_step rfl rfl (Exec.load_box_agg (ds := [Value.int .i64 (x100.States), Value.int .i64 (x100.Init), v100, v101, v102]) ((hS108).f1) A26 rfl p101 rfl ?_)
    refine WL_step rfl rfl (Exec.move (v := v103) rfl p100 ?_)
    obtain ⟨y106, q104, hm⟩ := bind_some hm
    refine WL_step rfl rfl (Exec.call rfl rfl Tryd.func26 rfl N26 (args_cons rfl (args_cons rfl args_nil)) ((law45_bounded_sim q104 hS108 (a100.mono (PHeap.le.trans l102 l104)) (a101.mono (PHeap.le.trans l102 l104)) (a102.mono (PHeap.le.trans l102 l104)) (a103.mono (PHeap.le.trans l102 l104))).mono ?_))
    rintro _ w109 ⟨_, rfl, ⟨s108, l106, hS112, rfl⟩⟩
    refine ⟨_, rfl, ?_⟩
    refine WL_step rfl rfl (Exec.assign (v := Value.bool (y106)) rfl rfl ?_)
    refine WL_nil (at_normal ?_)
    refine W_ret ?_
    have e105 := Option.some.inj hm
    subst r
    refine ⟨_, ret1 rfl, ?_⟩
    have hS113 := (hS112).drop
    have hS114 := (hS113).drop
    exact ⟨s108, (PHeap.le.trans (PHeap.le.trans l102 l104) l106), hS114, rfl⟩

end Go.Pw
