/-
  The walks (printed by my generator).
-/
import Derived.Test.YtagooehmocpcjaaDoorRe4
import Derived.Test.YtagooehmocpcjaaDoorReY
import Derived.Test.YtagooehmocpcjaaDoorReYb
set_option maxRecDepth 100000
set_option maxHeartbeats 4000000
set_option linter.unusedVariables false
namespace Go.Pw
open Go.Proofs
theorem S66 : tySlice Tryd.prog 66 = some (71, 2, 32) := by kernel_rfl

theorem N19 : (Tryd.f19.name == "runtime.NumGoroutine") = false := by kernel_rfl

theorem shrink_Reduce_sim {w0 w : World} {s : PHeap} {H : List Res} {list100 : (List System)} {k100 : Int} {v100 : Value} {r : (List Int) × (Option Int)} (hm : shrink_Reduce_p list100 k100 = some r) (hS : St w0 s (H) w) (a100 : SliceRep encSystem s v100 list100) (ht : TabS Tryd.prog s) :
  Calls Tryd.prog 19 #[v100, Value.int .i64 (k100)] w fun e w' => ∃ v, e = .returned v ∧ ((un2 fun (y100 : (List Int)) (y101 : (Option Int)) => ∃ (s100 : PHeap) (v101 : Value), PHeap.le s s100 ∧ St w0 s100 (H) w' ∧ v = Value.tuple #[v101, errV 34 (y101)] ∧ SliceRep (encInt .i64) s100 v101 y100) r) := by
 unfold shrink_Reduce_p at hm
 refine calls_of_W Tryd.func19 rfl rfl ?_
 refine W_seq ?_
 refine W_region ?_
 refine WL_step rfl rfl (Exec.assign (v := Value.slice none 0 0) rfl rfl ?_)
 refine WL_step rfl rfl (Exec.assign (v := errV 34 (none)) rfl rfl ?_)
 refine WL_nil (at_normal ?_)
 refine W_seq ?_
 refine W_seq ?_
 refine W_region ?_
 refine WL_step rfl rfl (Exec.move (v := v100) rfl rfl ?_)
 refine WL_step rfl rfl (Exec.len_rep S40 rfl rfl a100 ?_)
 refine WL_step rfl rfl (Exec.move (v := Value.int .i64 (0)) rfl rfl ?_)
 refine WL_nil (at_normal ?_)
 obtain ⟨c100, hB100, hr100, hn100, hb100⟩ := ctl_some hm
 refine W_mid (M := fun f' w' => ∃ s', (c100 = .next s' ∨ c100 = .brk s') ∧ (fun (_ : Unit) => ∃ (s101 : PHeap) , PHeap.le s s101 ∧ St w0 s101 (H) w' ∧ f' 0 = v100 ∧ f' 1 = Value.int .i64 (k100) ∧ f' 20 = v100 ∧ f' 21 = Value.int .i64 ((list100.length : Int))) s') ?_ ?_
 ·refine W_block (W_forC (fun k' s' f' w' => (fun (_ : Unit) => ∃ (s102 : PHeap) , PHeap.le s s102 ∧ St w0 s102 (H) w' ∧ f' 0 = v100 ∧ f' 1 = Value.int .i64 (k100) ∧ f' 20 = v100 ∧ f' 21 = Value.int .i64 ((list100.length : Int)) ∧ f' 22 = Value.int .i64 (k' : Int)) s') hB100 ?_ ?_ ?_)
  ·exact ⟨s, (PHeap.le_refl _), hS, rfl, rfl, rfl, rfl, rfl⟩
  ·intro i100 t100 c101 f100 w100 hi100 hI100 hm100 hres100
   obtain ⟨s103, l100, hS100, p100, p101, p102, p103, x100⟩ := hI100
   refine W_seq ?_
   refine W_region ?_
   refine WL_step rfl rfl (Exec.lss rfl x100 p103 ?_)
   refine WL_nil (at_normal ?_)
   refine W_seq ?_
   refine W_true (congrArg Value.bool (decide_eq_true (by omega))) ?_
   refine W_skip (at_normal ?_)
   refine W_seq ?_
   refine W_block ?_
   refine W_seq ?_
   refine W_region ?_
   obtain ⟨x101, q100, hm100⟩ := bind_some hm100
   refine WL_step rfl rfl (Exec.index_rep S40 rfl p102 x100 (a100.mono l100) q100 ?_)
   intro b100 o100 a101
   refine WL_step rfl rfl (Exec.load_at (E := encSystem) hS100 A26 rfl rfl rfl a101 ?_)
   intro v102 q101
   obtain ⟨u100, u101, u102, rfl, r100, r101, r102⟩ := encSystem_val.1 q101
   refine WL_step rfl rfl (Exec.alloc (cs := [Value.int .i64 (0), Value.int .i64 (0), Value.slice none 0 0, Value.slice none 0 0, Value.slice none 0 0]) hS100 Z26 rfl rfl ?_)
   intro b101 w101 hS101
   refine WL_step rfl rfl (Exec.store_box (ds := [Value.int .i64 (x101.States), Value.int .i64 (x101.Init), u100, u101, u102]) (es := [Value.int .i64 (x101.States), Value.int .i64 (x101.Init), u100, u101, u102]) hS101 A26 rfl rfl rfl rfl (one_cons rfl (one_cons rfl (one_cons (r100).one (one_cons (r101).one (one_cons (r102).one one_nil))))) (Nat.le_of_ble_eq_true rfl) rfl ?_)
   intro w102 hS102
   refine WL_nil (at_normal ?_)
   refine W_seq ?_
   obtain ⟨z100, ht100, hm100⟩ := bind_some hm100
   refine W_mid (M := fun f' w' => (fun (z100 : Bool) => ∃ (s104 : PHeap) , PHeap.le s103 s104 ∧ St w0 s104 (H) w' ∧ f' 0 = v100 ∧ f' 1 = Value.int .i64 (k100) ∧ f' 20 = v100 ∧ f' 21 = Value.int .i64 ((list100.length : Int)) ∧ f' 22 = Value.int .i64 ((i100 : Int)) ∧ f' 38 = Value.bool (z100)) z100) ?_ ?_
   ·refine W_dl (n0 := 13) (.q 0 (.e 1 [] (.q 2 (.q 3 (.q 4 (.q 5 (.q 6 (.q 7 (.q 8 (.q 9 (.e 10 [] (.q 11 (.q 12 .done))))))))))))) hmix (by kernel_rfl) (by kernel_rfl) ?_
    have hS103 := hS102.drew
    refine DL_q rfl rfl (Exec.load_box_agg (ds := [Value.int .i64 (x101.States), Value.int .i64 (x101.Init), u100, u101, u102]) (hS103) A26 rfl rfl rfl ⟨rfl, ?_⟩)
    obtain ⟨y102, q102, ht100⟩ := bind_some ht100
    refine DL_e rfl rfl (Exec.call rfl rfl Tryd.func22 rfl N22 (args_cons rfl args_nil) ((transys_Valid_sim q102 hS103 r100 r101 r102).mono ?_))
    rintro _ w103 ⟨_, rfl, ⟨s105, l101, hS104, rfl⟩⟩
    refine ⟨_, rfl, ?_⟩
    refine ⟨ag_nil, ?_⟩
    refine DL_q rfl rfl (Exec.not rfl rfl ⟨rfl, ?_⟩)
    refine DL_q rfl rfl (Exec.move (v := Value.bool (!y102)) rfl rfl ⟨rfl, ?_⟩)
    rcases ite_some ht100 with ⟨hc100, ht100⟩ | ⟨hc100, ht100⟩
    ·refine DL_qp rfl rfl (yield_of rfl (congrArg Value.bool hc100)) rfl ?_
     refine DL_qp rfl rfl (yield_of rfl (congrArg Value.bool hc100)) rfl ?_
     refine DL_qp rfl rfl (yield_of rfl (congrArg Value.bool hc100)) rfl ?_
     refine DL_qp rfl rfl (yield_of rfl (congrArg Value.bool hc100)) rfl ?_
     refine DL_qp rfl rfl (yield_of rfl (congrArg Value.bool hc100)) rfl ?_
     refine DL_qp rfl rfl (yield_of rfl (congrArg Value.bool hc100)) rfl ?_
     refine DL_ep rfl rfl (yield_of rfl (congrArg Value.bool hc100)) rfl ?_
     refine DL_qp rfl rfl (yield_of rfl (congrArg Value.bool hc100)) rfl ?_
     refine DL_q rfl rfl (Exec.pick_t (v := Value.bool (true)) rfl (congrArg Value.bool hc100) rfl ⟨rfl, ?_⟩)
     refine DL_done ?_
     refine WL_nil (at_normal ?_)
     have e100 := Option.some.inj ht100
     subst z100
     have hS105 := (hS104).drop
     exact ⟨s105, l101, hS105, p100, p101, p102, p103, x100, rfl⟩
    ·replace hc100 := not_true hc100
     refine DL_qg rfl rfl (yield_of rfl (congrArg Value.bool hc100)) (Exec.field F26_2 rfl rfl rfl ⟨rfl, ?_⟩)
     refine DL_qg rfl rfl (yield_of rfl (congrArg Value.bool hc100)) (Exec.load_box (hS104) A22 rfl rfl rfl ⟨rfl, ?_⟩)
     refine DL_qg rfl rfl (yield_of rfl (congrArg Value.bool hc100)) (Exec.move (v := v100) rfl p100 ⟨rfl, ?_⟩)
     obtain ⟨x102, q103, ht100⟩ := bind_some ht100
     refine DL_qg rfl rfl (yield_of rfl (congrArg Value.bool hc100)) (Exec.index_repE S40 rfl rfl rfl (a100.mono (PHeap.le.trans l100 l101)) q103 ?_)
     intro b102 o101 a102 e101
     refine ⟨rfl, ?_⟩
     refine DL_qg rfl rfl (yield_of rfl (congrArg Value.bool hc100)) (Exec.field F26_2 rfl rfl rfl ⟨rfl, ?_⟩)
     refine DL_qg rfl rfl (yield_of rfl (congrArg Value.bool hc100)) (Exec.load_at (E := (encSlice (encInt .i64))) hS104 A22 rfl rfl rfl (a102.sub (Sub.iso (Sub.snd (Sub.snd (Sub.fst (Sub.refl _)) rfl) rfl)) rfl) ?_)
     intro v103 q104
     have r103 := encSlice_val.1 q104
     refine ⟨rfl, ?_⟩
     obtain ⟨y103, q105, ht100⟩ := bind_some ht100
     refine DL_eg rfl rfl (yield_of rfl (congrArg Value.bool hc100)) (Exec.call rfl rfl Tryd.func39 rfl N39 (args_cons rfl (args_cons rfl args_nil)) ((slices_Equal___int_int__sim q105 hS104 (r100.mono l101) r103).mono ?_))
     rintro _ w104 ⟨_, rfl, ⟨s106, l102, hS106, rfl⟩⟩
     refine ⟨_, rfl, ?_⟩
     refine ⟨ag_nil, ?_⟩
     refine DL_qg rfl rfl (yield_of rfl (congrArg Value.bool hc100)) (Exec.not rfl rfl ⟨rfl, ?_⟩)
     refine DL_q rfl rfl (Exec.pick_f (v := Value.bool (!y103)) rfl (congrArg Value.bool hc100) rfl ⟨rfl, ?_⟩)
     refine DL_done ?_
     refine WL_nil (at_normal ?_)
     have e102 := Option.some.inj ht100
     subst z100
     have hS107 := (hS106).drop
     exact ⟨s106, (PHeap.le.trans l101 l102), hS107, p100, p101, p102, p103, x100, rfl⟩
   ·intro f101 w105 hM100
    obtain ⟨s107, l103, hS108, p104, p105, p106, p107, p108, p109⟩ := hM100
    refine (at_normal ?_)
    rcases ite_some hm100 with ⟨hc101, hm100⟩ | ⟨hc101, hm100⟩
    ·refine W_cond_t p109 hc101 ?_
     refine W_seq ?_
     refine W_region ?_
     refine WL_step rfl rfl (Exec.makeInterface C34 rfl rfl ?_)
     refine WL_step rfl rfl (Exec.assign (v := Value.slice none 0 0) rfl rfl ?_)
     refine WL_step rfl rfl (Exec.assign (v := errV 34 (some 2)) rfl rfl ?_)
     refine WL_nil (at_normal ?_)
     refine W_ret (ib_ret (at_ret (at_ret (ib_ret (at_ret (at_ret ?_))))))
     have e103 := Option.some.inj hm100
     subst c101
     have hq100 := hr100 _ (hres100 (by intro _ h; cases h))
     have e104 := Option.some.inj hq100
     subst r
     refine ⟨_, ret2 rfl, ?_⟩
     exact ⟨s107, (Value.slice none 0 0), (PHeap.le.trans l100 l103), hS108, (tup2 rfl rfl), (SliceRep.nil _ _)⟩
    ·refine W_cond_f p109 hc101 ?_
     replace hc101 := not_true hc101
     refine W_skip (ib_normal (at_normal ?_))
     refine W_region ?_
     refine WL_step rfl rfl (Exec.add rfl p108 rfl ?_)
     refine WL_step rfl rfl (Exec.move (v := Value.int .i64 (IntKind.i64.wrap ((i100 : Int) + 1))) rfl rfl ?_)
     refine WL_nil (at_normal ?_)
     have e105 := Option.some.inj hm100
     subst c101
     refine ⟨_, rfl, ?_⟩; exact ⟨s107, (PHeap.le.trans l100 l103), hS108, p104, p105, p106, p107, (Eq.trans rfl (wrap_up hi100 (SliceRep.le a100)))⟩
  ·intro t101 f102 w106 hI101 hres101
   obtain ⟨s108, l104, hS109, p110, p111, p112, p113, x103⟩ := hI101
   refine W_seq ?_
   refine W_region ?_
   refine WL_step rfl rfl (Exec.lss rfl x103 p113 ?_)
   refine WL_nil (at_normal ?_)
   refine W_seq ?_
   refine W_false (congrArg Value.bool (decide_eq_false (by omega))) ?_
   refine W_exit (at_exit (at_exit (ib_here (at_normal ?_))))
   refine ⟨_, .inl hres101, ?_⟩; exact ⟨s108, l104, hS109, p110, p111, p112, p113⟩
 ·rintro f103 w107 ⟨t102, hc102, hM101⟩
  have hm := hc102.elim (hn100 _) (hb100 _)
  clear hc102
  obtain ⟨s109, l105, hS110, p114, p115, p116, p117⟩ := hM101
  refine (at_normal ?_)
  refine W_seq ?_
  refine W_seq ?_
  refine W_mid (M := fun f' w' => ∃ (s110 : PHeap) , PHeap.le s109 s110 ∧ St w0 s110 (H) w' ∧ f' 0 = v100 ∧ f' 1 = Value.int .i64 (k100) ∧ f' 48 = Value.bool (((decide (k100 < 0)) || decide ((list100.length : Int) ≤ k100)))) ?_ ?_
  ·refine W_region ?_
   refine WL_step rfl rfl (Exec.move (v := Value.int .i64 (k100)) rfl p115 ?_)
   refine WL_step rfl rfl (Exec.lss rfl rfl rfl ?_)
   refine WL_step rfl rfl (Exec.move (v := Value.bool (decide (k100 < 0))) rfl rfl ?_)
   by_cases hc103 : (decide (k100 < 0)) = true
   ·refine WL_pass rfl (yield_of rfl (congrArg Value.bool hc103)) rfl rfl ?_
    refine WL_pass rfl (yield_of rfl (congrArg Value.bool hc103)) rfl rfl ?_
    refine WL_pass rfl (yield_of rfl (congrArg Value.bool hc103)) rfl rfl ?_
    refine WL_pass rfl (yield_of rfl (congrArg Value.bool hc103)) rfl rfl ?_
    refine WL_step rfl rfl (Exec.pick_t (v := Value.bool (true)) rfl (congrArg Value.bool hc103) rfl ?_)
    refine WL_nil (at_normal ?_)
    exact ⟨s109, (PHeap.le_refl _), hS110, p114, p115, (congrArg Value.bool (or_t hc103)).symm⟩
   ·replace hc103 := not_true hc103
    refine WL_run rfl (yield_of rfl (congrArg Value.bool hc103)) rfl (Exec.move (v := Value.int .i64 (k100)) rfl p115 ?_)
    refine WL_run rfl (yield_of rfl (congrArg Value.bool hc103)) rfl (Exec.move (v := v100) rfl p114 ?_)
    refine WL_run rfl (yield_of rfl (congrArg Value.bool hc103)) rfl (Exec.len_rep S40 rfl rfl (a100.mono l105) ?_)
    refine WL_run rfl (yield_of rfl (congrArg Value.bool hc103)) rfl (Exec.geq rfl rfl rfl ?_)
    refine WL_step rfl rfl (Exec.pick_f (v := Value.bool (decide ((list100.length : Int) ≤ k100))) rfl (congrArg Value.bool hc103) rfl ?_)
    refine WL_nil (at_normal ?_)
    exact ⟨s109, (PHeap.le_refl _), hS110, p114, p115, (congrArg Value.bool (or_f hc103)).symm⟩
  ·intro f104 w108 hM102
   obtain ⟨s111, l106, hS111, p118, p119, p120⟩ := hM102
   refine (at_normal ?_)
   rcases ite_some hm with ⟨hc104, hm⟩ | ⟨hc104, hm⟩
   ·refine W_cond_t p120 hc104 ?_
    refine W_seq ?_
    refine W_region ?_
    refine WL_step rfl rfl (Exec.makeInterface C34 rfl rfl ?_)
    refine WL_step rfl rfl (Exec.assign (v := Value.slice none 0 0) rfl rfl ?_)
    refine WL_step rfl rfl (Exec.assign (v := errV 34 (some 1)) rfl rfl ?_)
    refine WL_nil (at_normal ?_)
    refine W_ret (at_ret ?_)
    have e106 := Option.some.inj hm
    subst r
    refine ⟨_, ret2 rfl, ?_⟩
    exact ⟨s111, (Value.slice none 0 0), (PHeap.le.trans l105 l106), hS111, (tup2 rfl rfl), (SliceRep.nil _ _)⟩
   ·refine W_cond_f p120 hc104 ?_
    replace hc104 := not_true hc104
    refine W_skip (at_normal ?_)
    refine W_seq ?_
    refine W_region ?_
    refine WL_step rfl rfl (Exec.move (v := v100) rfl p118 ?_)
    obtain ⟨x104, q106, hm⟩ := bind_some hm
    refine WL_step rfl rfl (Exec.index_rep S40 rfl rfl rfl (a100.mono (PHeap.le.trans l105 l106)) q106 ?_)
    intro b103 o102 a103
    refine WL_step rfl rfl (Exec.field F26_2 rfl rfl rfl ?_)
    refine WL_step rfl rfl (Exec.load_at (E := (encSlice (encInt .i64))) hS111 A22 rfl rfl rfl (a103.sub (Sub.iso (Sub.snd (Sub.snd (Sub.fst (Sub.refl _)) rfl) rfl)) rfl) ?_)
    intro v104 q107
    have r104 := encSlice_val.1 q107
    refine WL_step rfl rfl (Exec.len_rep S22 rfl rfl r104 ?_)
    obtain ⟨l107, q108, hm⟩ := bind_some hm
    refine WL_step rfl rfl (Exec.make (E := encStr) hS111 S54 Z9 rfl rfl rfl rfl q108 ?_)
    intro v105 w109 hS112
    refine WL_step rfl rfl (Exec.assign (v := v105) rfl rfl ?_)
    refine WL_nil (at_normal ?_)
    refine W_seq ?_
    refine W_region ?_
    refine WL_step rfl rfl (Exec.move (v := v105) rfl rfl ?_)
    refine WL_step rfl rfl (Exec.len_arr (hS112) S54 rfl rfl ?_)
    obtain ⟨l108, q109, hm⟩ := bind_some hm
    refine WL_step rfl rfl (Exec.make_blds (e := 5) hS112 S66 Z71 rfl rfl rfl q109 ?_)
    intro b104 w110 hS113
    refine WL_step rfl rfl (Exec.assign (v := Value.slice (some ⟨b104, 0, none⟩) (((l107.length : Int)).toNat) (((l107.length : Int)).toNat)) rfl rfl ?_)
    refine WL_nil (at_normal ?_)
    refine W_seq ?_
    refine W_seq ?_
    refine W_region ?_
    refine WL_step rfl rfl (Exec.move (v := v100) rfl p118 ?_)
    refine WL_step rfl rfl (Exec.index_rep S40 rfl rfl rfl (a100.mono (PHeap.le.trans l105 l106)) q106 ?_)
    intro b105 o103 a104
    refine WL_step rfl rfl (Exec.field F26_2 rfl rfl rfl ?_)
    refine WL_step rfl rfl (Exec.load_at (E := (encSlice (encInt .i64))) hS113 A22 rfl rfl rfl (a104.sub (Sub.iso (Sub.snd (Sub.snd (Sub.fst (Sub.refl _)) rfl) rfl)) rfl) ?_)
    intro v106 q110
    have r105 := encSlice_val.1 q110
    refine WL_step rfl rfl (Exec.len_rep S22 rfl rfl r105 ?_)
    refine WL_step rfl rfl (Exec.move (v := Value.int .i64 (0)) rfl rfl ?_)
    refine WL_nil (at_normal ?_)
    obtain ⟨l109, hB101, hm⟩ := bind_some hm
    refine W_block (W_forS (fun k' s' f' w' => (fun (l109 : (List (Option (List Int)))) => ∃ (s112 : PHeap) , PHeap.le s111 s112 ∧ St w0 s112 (Res.arr encStr 9 v105 l107 :: Res.blds 71 5 b104 (((l107.length : Int)).toNat) l109 :: H) w' ∧ f' 0 = v100 ∧ f' 1 = Value.int .i64 (k100) ∧ f' 8 = v105 ∧ f' 9 = Value.slice (some ⟨b104, 0, none⟩) (((l107.length : Int)).toNat) (((l107.length : Int)).toNat) ∧ f' 62 = v106 ∧ f' 63 = Value.int .i64 ((x104.Costs.length : Int)) ∧ f' 64 = Value.int .i64 (k' : Int)) s') hB101 ?_ ?_ ?_)
    ·have hS114 := (hS113).f1
     exact ⟨s111, (PHeap.le_refl _), hS114, p118, p119, rfl, rfl, rfl, rfl, rfl⟩
    ·intro i101 l109 s113 f105 w111 hi101 hI102 hm101
     obtain ⟨s114, l110, hS115, p121, p122, p123, p124, p125, p126, x105⟩ := hI102
     refine W_seq ?_
     refine W_region ?_
     refine WL_step rfl rfl (Exec.lss rfl x105 p126 ?_)
     refine WL_nil (at_normal ?_)
     refine W_seq ?_
     refine W_true (congrArg Value.bool (decide_eq_true (by omega))) ?_
     refine W_skip (at_normal ?_)
     refine W_seq ?_
     refine W_block ?_
     refine W_seq ?_
     refine W_region ?_
     refine WL_step rfl rfl (Exec.move (v := Value.int .i64 ((i101 : Int))) rfl x105 ?_)
     obtain ⟨x106, q111, hm101⟩ := bind_some hm101
     refine WL_step rfl rfl (Exec.index_rep S22 rfl p125 x105 (r105.mono l110) q111 ?_)
     intro b106 o104 a105
     refine WL_step rfl rfl (Exec.load_at (E := (encInt .i64)) hS115 A3 rfl rfl rfl a105 ?_)
     intro v107 q112
     obtain rfl := encInt_val.1 q112
     refine WL_step rfl rfl (Exec.assign (v := Value.int .i64 ((i101 : Int))) rfl rfl ?_)
     refine WL_step rfl rfl (Exec.assign (v := Value.int .i64 (x106)) rfl rfl ?_)
     refine WL_nil (at_normal ?_)
     refine W_dl (n0 := 6) (.q 0 (.q 1 (.q 2 (.q 3 (.e 4 [0, 1, 2] (.e 5 [] .done)))))) hmix (by kernel_rfl) (by kernel_rfl) ?_
     have hS116 := hS115.drew
     refine DL_q rfl rfl (Exec.move (v := Value.slice (some ⟨b104, 0, none⟩) (((l107.length : Int)).toNat) (((l107.length : Int)).toNat)) rfl p124 ⟨rfl, ?_⟩)
     refine DL_q rfl rfl (Exec.move (v := Value.int .i64 ((i101 : Int))) rfl rfl ⟨rfl, ?_⟩)
     obtain ⟨o105, q113, hm101⟩ := bind_some hm101
     refine DL_q rfl rfl (Exec.index_blds ((hS116).f1) S66 rfl rfl rfl q113 ⟨rfl, ?_⟩)
     refine DL_q rfl rfl (Exec.move (v := Value.int .i64 (x106)) rfl rfl ⟨rfl, ?_⟩)
     obtain ⟨y104, q114, hm101⟩ := bind_some hm101
     refine DL_e rfl rfl (Exec.call rfl rfl Tryd.func41 rfl N41 (args_cons rfl args_nil) ((strconv_Itoa_sim q114 hS116  (ht.mono (PHeap.le.trans (PHeap.le.trans l105 l106) l110))).mono ?_))
     rintro _ w112 ⟨_, rfl, ⟨s115, l111, hS117, rfl⟩⟩
     refine ⟨_, rfl, ?_⟩
     refine ⟨(ag_cons (ag_r rfl rfl (Exec.move (v := Value.slice (some ⟨b104, 0, none⟩) (((l107.length : Int)).toNat) (((l107.length : Int)).toNat)) rfl p124 ⟨rfl, rfl⟩)) (ag_cons (ag_r rfl rfl (Exec.move (v := Value.int .i64 ((i101 : Int))) rfl rfl ⟨rfl, rfl⟩)) (ag_cons (ag_r rfl rfl (Exec.index_blds ((hS117).f1) S66 rfl rfl rfl q113 ⟨rfl, rfl⟩)) ag_nil))), ?_⟩
     obtain ⟨l112, q115, hm101⟩ := bind_some hm101
     have hS118 := (hS117).f1
     refine DL_e rfl rfl (Exec.call rfl rfl Tryd.func40 rfl N40 (args_cons rfl (args_cons rfl args_nil)) ((blds_write_sim q115 hS118).mono ?_))
     rintro _ w113 ⟨_, rfl, rfl, hS119⟩
     refine ⟨_, rfl, ?_⟩
     refine ⟨ag_nil, ?_⟩
     refine DL_done ?_
     refine WL_nil (ib_normal (at_normal ?_))
     refine W_region ?_
     refine WL_step rfl rfl (Exec.add rfl x105 rfl ?_)
     refine WL_step rfl rfl (Exec.move (v := Value.int .i64 (IntKind.i64.wrap ((i101 : Int) + 1))) rfl rfl ?_)
     refine WL_nil (at_normal ?_)
     have e107 := Option.some.inj hm101
     subst s113
     have hS120 := (hS119).f1
     exact ⟨s115, (PHeap.le.trans l110 l111), hS120, p121, p122, p123, p124, p125, p126, (Eq.trans rfl (wrap_up hi101 (SliceRep.le r104)))⟩
    ·intro f106 w114 hI103
     obtain ⟨s116, l113, hS121, p127, p128, p129, p130, p131, p132, x107⟩ := hI103
     refine W_seq ?_
     refine W_region ?_
     refine WL_step rfl rfl (Exec.lss rfl x107 p132 ?_)
     refine WL_nil (at_normal ?_)
     refine W_seq ?_
     refine W_false (congrArg Value.bool (decide_eq_false (by omega))) ?_
     refine W_exit (at_exit (at_exit (ib_here (at_normal ?_))))
     refine W_seq ?_
     refine W_seq ?_
     refine W_region ?_
     refine WL_step rfl rfl (Exec.move (v := v100) rfl p127 ?_)
     refine WL_step rfl rfl (Exec.len_rep S40 rfl rfl (a100.mono (PHeap.le.trans (PHeap.le.trans l105 l106) l113)) ?_)
     refine WL_step rfl rfl (Exec.move (v := Value.int .i64 (0)) rfl rfl ?_)
     refine WL_nil (at_normal ?_)
     obtain ⟨l114, hB102, hm⟩ := bind_some hm
     refine W_block (W_forS (fun k' s' f' w' => (fun (l114 : (List (Option (List Int)))) => ∃ (s117 : PHeap) , PHeap.le s116 s117 ∧ St w0 s117 (Res.arr encStr 9 v105 l107 :: Res.blds 71 5 b104 (((l107.length : Int)).toNat) l114 :: H) w' ∧ f' 1 = Value.int .i64 (k100) ∧ f' 8 = v105 ∧ f' 9 = Value.slice (some ⟨b104, 0, none⟩) (((l107.length : Int)).toNat) (((l107.length : Int)).toNat) ∧ f' 76 = v100 ∧ f' 77 = Value.int .i64 ((list100.length : Int)) ∧ f' 78 = Value.int .i64 (k' : Int)) s') hB102 ?_ ?_ ?_)
     ·have hS122 := (hS121).f1
      have hS123 := (hS122).f1
      exact ⟨s116, (PHeap.le_refl _), hS123, p128, p129, p130, rfl, rfl, rfl⟩
     ·intro i102 l114 s118 f107 w115 hi102 hI104 hm102
      obtain ⟨s119, l115, hS124, p133, p134, p135, p136, p137, x108⟩ := hI104
      refine W_seq ?_
      refine W_region ?_
      refine WL_step rfl rfl (Exec.lss rfl x108 p137 ?_)
      refine WL_nil (at_normal ?_)
      refine W_seq ?_
      refine W_true (congrArg Value.bool (decide_eq_true (by omega))) ?_
      refine W_skip (at_normal ?_)
      refine W_seq ?_
      refine W_block ?_
      refine W_seq ?_
      refine W_region ?_
      refine WL_step rfl rfl (Exec.move (v := Value.int .i64 ((i102 : Int))) rfl x108 ?_)
      obtain ⟨x109, q116, hm102⟩ := bind_some hm102
      refine WL_step rfl rfl (Exec.index_rep S40 rfl p136 x108 (a100.mono (PHeap.le.trans (PHeap.le.trans (PHeap.le.trans l105 l106) l113) l115)) q116 ?_)
      intro b107 o106 a106
      refine WL_step rfl rfl (Exec.load_at (E := encSystem) hS124 A26 rfl rfl rfl a106 ?_)
      intro v108 q117
      obtain ⟨u103, u104, u105, rfl, r106, r107, r108⟩ := encSystem_val.1 q117
      refine WL_step rfl rfl (Exec.alloc (cs := [Value.int .i64 (0), Value.int .i64 (0), Value.slice none 0 0, Value.slice none 0 0, Value.slice none 0 0]) hS124 Z26 rfl rfl ?_)
      intro b108 w116 hS125
      refine WL_step rfl rfl (Exec.assign (v := Value.int .i64 ((i102 : Int))) rfl rfl ?_)
      refine WL_step rfl rfl (Exec.store_box (ds := [Value.int .i64 (x109.States), Value.int .i64 (x109.Init), u103, u104, u105]) (es := [Value.int .i64 (x109.States), Value.int .i64 (x109.Init), u103, u104, u105]) hS125 A26 rfl rfl rfl rfl (one_cons rfl (one_cons rfl (one_cons (r106).one (one_cons (r107).one (one_cons (r108).one one_nil))))) (Nat.le_of_ble_eq_true rfl) rfl ?_)
      intro w117 hS126
      refine WL_nil (at_normal ?_)
      refine W_seq ?_
      refine W_seq ?_
      refine W_region ?_
      refine WL_step rfl rfl (Exec.move (v := Value.int .i64 ((i102 : Int))) rfl rfl ?_)
      refine WL_step rfl rfl (Exec.move (v := Value.int .i64 (k100)) rfl p133 ?_)
      refine WL_step rfl rfl (Exec.eql rfl rfl rfl ?_)
      refine WL_nil (at_normal ?_)
      rcases ite_some hm102 with ⟨hc105, hm102⟩ | ⟨hc105, hm102⟩
      ·refine W_cond_t rfl hc105 ?_
       refine W_exit (at_exit (ib_here (at_normal ?_)))
       refine W_region ?_
       refine WL_step rfl rfl (Exec.add rfl x108 rfl ?_)
       refine WL_step rfl rfl (Exec.move (v := Value.int .i64 (IntKind.i64.wrap ((i102 : Int) + 1))) rfl rfl ?_)
       refine WL_nil (at_normal ?_)
       have e108 := Option.some.inj hm102
       subst s118
       have hS127 := (hS126).drop
       have hS128 := (hS127).f1
       have hS129 := (hS128).f1
       exact ⟨s119, l115, hS129, p133, p134, p135, p136, p137, (Eq.trans rfl (wrap_up hi102 (SliceRep.le (a100.mono (PHeap.le.trans (PHeap.le.trans l105 l106) l113)))))⟩
      ·refine W_cond_f rfl hc105 ?_
       replace hc105 := not_true hc105
       refine W_skip (at_normal ?_)
       refine W_seq ?_
       refine W_seq ?_
       refine W_region ?_
       refine WL_step rfl rfl (Exec.move (v := Value.slice (some ⟨b104, 0, none⟩) (((l107.length : Int)).toNat) (((l107.length : Int)).toNat)) rfl p135 ?_)
       refine WL_step rfl rfl (Exec.len_slice Tryd.underlying66 rfl rfl ?_)
       refine WL_step rfl rfl (Exec.move (v := Value.int .i64 (0)) rfl rfl ?_)
       refine WL_nil (at_normal ?_)
       obtain ⟨u106, q118, hm102⟩ := bind_some hm102
       obtain ⟨l116, hB103, hm102⟩ := bind_some hm102
       refine W_block (W_forS (fun k' s' f' w' => (fun (l116 : (List (Option (List Int)))) => ∃ (s120 : PHeap) , PHeap.le s119 s120 ∧ St w0 s120 (Res.arr encStr 9 v105 l107 :: Res.blds 71 5 b104 (((l107.length : Int)).toNat) l116 :: Res.box b108 26 [Value.int .i64 (x109.States), Value.int .i64 (x109.Init), u103, u104, u105] :: H) w' ∧ f' 1 = Value.int .i64 (k100) ∧ f' 8 = v105 ∧ f' 9 = Value.slice (some ⟨b104, 0, none⟩) (((l107.length : Int)).toNat) (((l107.length : Int)).toNat) ∧ f' 13 = Value.pointer (some ⟨b108, 0, none⟩) ∧ f' 76 = v100 ∧ f' 77 = Value.int .i64 ((list100.length : Int)) ∧ f' 78 = Value.int .i64 ((i102 : Int)) ∧ f' 87 = Value.int .i64 (((((l107.length : Int)).toNat) : Int)) ∧ f' 88 = Value.int .i64 (k' : Int)) s') hB103 ?_ ?_ ?_)
       ·have hS130 := (hS126).f2
        have hS131 := (hS130).f2
        exact ⟨s119, (PHeap.le_refl _), hS131, p133, p134, p135, rfl, p136, p137, x108, rfl, rfl⟩
       ·intro i103 l116 s121 f108 w118 hi103 hI105 hm103
        obtain ⟨s122, l117, hS132, p138, p139, p140, p141, p142, p143, p144, p145, x110⟩ := hI105
        refine W_seq ?_
        refine W_region ?_
        refine WL_step rfl rfl (Exec.lss rfl x110 p145 ?_)
        refine WL_nil (at_normal ?_)
        refine W_seq ?_
        refine W_true (congrArg Value.bool (decide_eq_true (by omega))) ?_
        refine W_skip (at_normal ?_)
        refine W_seq ?_
        refine W_block ?_
        refine W_seq ?_
        refine W_region ?_
        refine WL_step rfl rfl (Exec.move (v := Value.int .i64 ((i103 : Int))) rfl x110 ?_)
        refine WL_step rfl rfl (Exec.assign (v := Value.int .i64 ((i103 : Int))) rfl rfl ?_)
        refine WL_nil (at_normal ?_)
        refine W_region ?_
        refine WL_step rfl rfl (Exec.move (v := Value.slice (some ⟨b104, 0, none⟩) (((l107.length : Int)).toNat) (((l107.length : Int)).toNat)) rfl p140 ?_)
        refine WL_step rfl rfl (Exec.move (v := Value.int .i64 ((i103 : Int))) rfl rfl ?_)
        obtain ⟨o107, q119, hm103⟩ := bind_some hm103
        refine WL_step rfl rfl (Exec.index_blds ((hS132).f1) S66 rfl rfl rfl q119 ?_)
        obtain ⟨l118, q120, hm103⟩ := bind_some hm103
        have hS133 := (hS132).f1
        refine WL_step rfl rfl (Exec.call rfl rfl Tryd.func40 rfl N40 (args_cons rfl (args_cons rfl args_nil)) ((blds_write_sim q120 hS133).mono ?_))
        rintro _ w119 ⟨_, rfl, rfl, hS134⟩
        refine ⟨_, rfl, ?_⟩
        refine WL_nil (ib_normal (at_normal ?_))
        refine W_region ?_
        refine WL_step rfl rfl (Exec.add rfl x110 rfl ?_)
        refine WL_step rfl rfl (Exec.move (v := Value.int .i64 (IntKind.i64.wrap ((i103 : Int) + 1))) rfl rfl ?_)
        refine WL_nil (at_normal ?_)
        have e109 := Option.some.inj hm103
        subst s121
        have hS135 := (hS134).f2
        have hS136 := (hS135).f1
        have hS137 := (hS136).f2
        exact ⟨s122, l117, hS137, p138, p139, p140, p141, p142, p143, p144, p145, (Eq.trans rfl (wrap_up hi103 (by have h := must_some q118; simp at h; simp only [maxLen]; omega)))⟩
       ·intro f109 w120 hI106
        obtain ⟨s123, l119, hS138, p146, p147, p148, p149, p150, p151, p152, p153, x111⟩ := hI106
        refine W_seq ?_
        refine W_region ?_
        refine WL_step rfl rfl (Exec.lss rfl x111 p153 ?_)
        refine WL_nil (at_normal ?_)
        refine W_seq ?_
        refine W_false (congrArg Value.bool (decide_eq_false (by omega))) ?_
        refine W_exit (at_exit (at_exit (ib_here (at_normal ?_))))
        refine W_seq ?_
        refine W_region ?_
        refine WL_step rfl rfl (Exec.field F26_3 rfl p149 rfl ?_)
        refine WL_step rfl rfl (Exec.load_box ((hS138).f2) A23 rfl rfl rfl ?_)
        refine WL_step rfl rfl (Exec.len_rep S23 rfl rfl (r107.mono l119) ?_)
        refine WL_step rfl rfl (Exec.move (v := Value.int .i64 (0)) rfl rfl ?_)
        refine WL_nil (at_normal ?_)
        obtain ⟨l120, hB104, hm102⟩ := bind_some hm102
        refine W_block (W_forS (fun k' s' f' w' => (fun (l120 : (List (Option (List Int)))) => ∃ (s124 : PHeap) , PHeap.le s123 s124 ∧ St w0 s124 (Res.arr encStr 9 v105 l107 :: Res.blds 71 5 b104 (((l107.length : Int)).toNat) l120 :: H) w' ∧ f' 1 = Value.int .i64 (k100) ∧ f' 8 = v105 ∧ f' 9 = Value.slice (some ⟨b104, 0, none⟩) (((l107.length : Int)).toNat) (((l107.length : Int)).toNat) ∧ f' 76 = v100 ∧ f' 77 = Value.int .i64 ((list100.length : Int)) ∧ f' 78 = Value.int .i64 ((i102 : Int)) ∧ f' 97 = u104 ∧ f' 98 = Value.int .i64 ((x109.Edges.length : Int)) ∧ f' 99 = Value.int .i64 (k' : Int)) s') hB104 ?_ ?_ ?_)
        ·have hS139 := ((hS138).f2).drop
         have hS140 := (hS139).f1
         have hS141 := (hS140).f1
         exact ⟨s123, (PHeap.le_refl _), hS141, p146, p147, p148, p150, p151, p152, rfl, rfl, rfl⟩
        ·intro i104 l120 s125 f110 w121 hi104 hI107 hm104
         obtain ⟨s126, l121, hS142, p154, p155, p156, p157, p158, p159, p160, p161, x112⟩ := hI107
         refine W_seq ?_
         refine W_region ?_
         refine WL_step rfl rfl (Exec.lss rfl x112 p161 ?_)
         refine WL_nil (at_normal ?_)
         refine W_seq ?_
         refine W_true (congrArg Value.bool (decide_eq_true (by omega))) ?_
         refine W_skip (at_normal ?_)
         refine W_seq ?_
         refine W_block ?_
         refine W_seq ?_
         refine W_region ?_
         obtain ⟨x113, q121, hm104⟩ := bind_some hm104
         refine WL_step rfl rfl (Exec.index_rep S23 rfl p160 x112 (r107.mono (PHeap.le.trans l119 l121)) q121 ?_)
         intro b109 o108 a107
         refine WL_step rfl rfl (Exec.load_at (E := encEdge) hS142 A53 rfl rfl rfl a107 ?_)
         intro v109 q122
         obtain rfl := encEdge_val.1 q122
         refine WL_step rfl rfl (Exec.alloc (cs := [Value.int .i64 (0), Value.int .i64 (0), Value.int .i64 (0)]) hS142 Z53 rfl rfl ?_)
         intro b110 w122 hS143
         refine WL_step rfl rfl (Exec.store_box (ds := [Value.int .i64 (x113.From), Value.int .i64 (x113.Label), Value.int .i64 (x113.To)]) (es := [Value.int .i64 (x113.From), Value.int .i64 (x113.Label), Value.int .i64 (x113.To)]) hS143 A53 rfl rfl rfl rfl (one_cons rfl (one_cons rfl (one_cons rfl one_nil))) (Nat.le_of_ble_eq_true rfl) rfl ?_)
         intro w123 hS144
         refine WL_nil (at_normal ?_)
         refine W_dl (n0 := 14) (.q 0 (.q 1 (.q 2 (.q 3 (.q 4 (.q 5 (.q 9 (.q 10 (.e 6 [0, 1, 2, 3, 9, 10] (.q 7 (.q 8 (.e 11 [0, 1, 2, 3, 7, 8] (.q 12 (.e 13 [] .done)))))))))))))) hmix (by kernel_rfl) (by kernel_rfl) ?_
         have hS145 := hS144.drew
         refine DL_q rfl rfl (Exec.move (v := Value.slice (some ⟨b104, 0, none⟩) (((l107.length : Int)).toNat) (((l107.length : Int)).toNat)) rfl p156 ⟨rfl, ?_⟩)
         refine DL_q rfl rfl (Exec.field F53_1 rfl rfl rfl ⟨rfl, ?_⟩)
         refine DL_q rfl rfl (Exec.load_box (hS145) A3 rfl rfl rfl ⟨rfl, ?_⟩)
         obtain ⟨o109, q123, hm104⟩ := bind_some hm104
         refine DL_q rfl rfl (Exec.index_blds ((hS145).f2) S66 rfl rfl rfl q123 ⟨rfl, ?_⟩)
         refine DL_q rfl rfl (Exec.field F53_0 rfl rfl rfl ⟨rfl, ?_⟩)
         refine DL_q rfl rfl (Exec.load_box (hS145) A3 rfl rfl rfl ⟨rfl, ?_⟩)
         refine DL_q rfl rfl (Exec.field F53_2 rfl rfl rfl ⟨rfl, ?_⟩)
         refine DL_q rfl rfl (Exec.load_box (hS145) A3 rfl rfl rfl ⟨rfl, ?_⟩)
         obtain ⟨y105, q124, hm104⟩ := bind_some hm104
         refine DL_e rfl rfl (Exec.call rfl rfl Tryd.func41 rfl N41 (args_cons rfl args_nil) ((strconv_Itoa_sim q124 hS145  (ht.mono (PHeap.le.trans (PHeap.le.trans (PHeap.le.trans (PHeap.le.trans (PHeap.le.trans l105 l106) l113) l115) l119) l121))).mono ?_))
         rintro _ w124 ⟨_, rfl, ⟨s127, l122, hS146, rfl⟩⟩
         refine ⟨_, rfl, ?_⟩
         refine ⟨(ag_cons (ag_r rfl rfl (Exec.move (v := Value.slice (some ⟨b104, 0, none⟩) (((l107.length : Int)).toNat) (((l107.length : Int)).toNat)) rfl p156 ⟨rfl, rfl⟩)) (ag_cons (ag_r rfl rfl (Exec.field F53_1 rfl rfl rfl ⟨rfl, rfl⟩)) (ag_cons (ag_r rfl rfl (Exec.load_box (hS146) A3 rfl rfl rfl ⟨rfl, rfl⟩)) (ag_cons (ag_r rfl rfl (Exec.index_blds ((hS146).f2) S66 rfl rfl rfl q123 ⟨rfl, rfl⟩)) (ag_cons (ag_r rfl rfl (Exec.field F53_2 rfl rfl rfl ⟨rfl, rfl⟩)) (ag_cons (ag_r rfl rfl (Exec.load_box (hS146) A3 rfl rfl rfl ⟨rfl, rfl⟩)) ag_nil)))))), ?_⟩
         obtain ⟨c102, q125, hm104⟩ := bind_some hm104
         refine DL_q rfl rfl (Exec.str_add rfl rfl rfl q125 ⟨rfl, ?_⟩)
         obtain ⟨c103, q126, hm104⟩ := bind_some hm104
         refine DL_q rfl rfl (Exec.str_add rfl rfl rfl q126 ⟨rfl, ?_⟩)
         obtain ⟨y106, q127, hm104⟩ := bind_some hm104
         refine DL_e rfl rfl (Exec.call rfl rfl Tryd.func41 rfl N41 (args_cons rfl args_nil) ((strconv_Itoa_sim q127 hS146  (ht.mono (PHeap.le.trans (PHeap.le.trans (PHeap.le.trans (PHeap.le.trans (PHeap.le.trans (PHeap.le.trans l105 l106) l113) l115) l119) l121) l122))).mono ?_))
         rintro _ w125 ⟨_, rfl, ⟨s128, l123, hS147, rfl⟩⟩
         refine ⟨_, rfl, ?_⟩
         refine ⟨(ag_cons (ag_r rfl rfl (Exec.move (v := Value.slice (some ⟨b104, 0, none⟩) (((l107.length : Int)).toNat) (((l107.length : Int)).toNat)) rfl p156 ⟨rfl, rfl⟩)) (ag_cons (ag_r rfl rfl (Exec.field F53_1 rfl rfl rfl ⟨rfl, rfl⟩)) (ag_cons (ag_r rfl rfl (Exec.load_box (hS147) A3 rfl rfl rfl ⟨rfl, rfl⟩)) (ag_cons (ag_r rfl rfl (Exec.index_blds ((hS147).f2) S66 rfl rfl rfl q123 ⟨rfl, rfl⟩)) (ag_cons (ag_r rfl rfl (Exec.str_add rfl rfl rfl q125 ⟨rfl, rfl⟩)) (ag_cons (ag_r rfl rfl (Exec.str_add rfl rfl rfl q126 ⟨rfl, rfl⟩)) ag_nil)))))), ?_⟩
         obtain ⟨c104, q128, hm104⟩ := bind_some hm104
         refine DL_q rfl rfl (Exec.str_add rfl rfl rfl q128 ⟨rfl, ?_⟩)
         obtain ⟨l124, q129, hm104⟩ := bind_some hm104
         have hS148 := (hS147).f2
         refine DL_e rfl rfl (Exec.call rfl rfl Tryd.func40 rfl N40 (args_cons rfl (args_cons rfl args_nil)) ((blds_write_sim q129 hS148).mono ?_))
         rintro _ w126 ⟨_, rfl, rfl, hS149⟩
         refine ⟨_, rfl, ?_⟩
         refine ⟨ag_nil, ?_⟩
         refine DL_done ?_
         refine WL_nil (ib_normal (at_normal ?_))
         refine W_region ?_
         refine WL_step rfl rfl (Exec.add rfl x112 rfl ?_)
         refine WL_step rfl rfl (Exec.move (v := Value.int .i64 (IntKind.i64.wrap ((i104 : Int) + 1))) rfl rfl ?_)
         refine WL_nil (at_normal ?_)
         have e110 := Option.some.inj hm104
         subst s125
         have hS150 := ((hS149).f1).drop
         have hS151 := (hS150).f1
         exact ⟨s128, (PHeap.le.trans (PHeap.le.trans l121 l122) l123), hS151, p154, p155, p156, p157, p158, p159, p160, p161, (Eq.trans rfl (wrap_up hi104 (SliceRep.le (r107.mono l119))))⟩
        ·intro f111 w127 hI108
         obtain ⟨s129, l125, hS152, p162, p163, p164, p165, p166, p167, p168, p169, x114⟩ := hI108
         refine W_seq ?_
         refine W_region ?_
         refine WL_step rfl rfl (Exec.lss rfl x114 p169 ?_)
         refine WL_nil (at_normal ?_)
         refine W_seq ?_
         refine W_false (congrArg Value.bool (decide_eq_false (by omega))) ?_
         refine W_exit (at_exit (at_exit (ib_here (ib_normal (at_normal ?_)))))
         refine W_region ?_
         refine WL_step rfl rfl (Exec.add rfl p167 rfl ?_)
         refine WL_step rfl rfl (Exec.move (v := Value.int .i64 (IntKind.i64.wrap ((i102 : Int) + 1))) rfl rfl ?_)
         refine WL_nil (at_normal ?_)
         have e111 := Option.some.inj hm102
         subst s118
         have hS153 := (hS152).f1
         have hS154 := (hS153).f1
         exact ⟨s129, (PHeap.le.trans (PHeap.le.trans l115 l119) l125), hS154, p162, p163, p164, p165, p166, (Eq.trans rfl (wrap_up hi102 (SliceRep.le (a100.mono (PHeap.le.trans (PHeap.le.trans l105 l106) l113)))))⟩
     ·intro f112 w128 hI109
      obtain ⟨s130, l126, hS155, p170, p171, p172, p173, p174, x115⟩ := hI109
      refine W_seq ?_
      refine W_region ?_
      refine WL_step rfl rfl (Exec.lss rfl x115 p174 ?_)
      refine WL_nil (at_normal ?_)
      refine W_seq ?_
      refine W_false (congrArg Value.bool (decide_eq_false (by omega))) ?_
      refine W_exit (at_exit (at_exit (ib_here (at_normal ?_))))
      refine W_seq ?_
      refine W_seq ?_
      refine W_region ?_
      refine WL_step rfl rfl (Exec.move (v := Value.slice (some ⟨b104, 0, none⟩) (((l107.length : Int)).toNat) (((l107.length : Int)).toNat)) rfl p172 ?_)
      refine WL_step rfl rfl (Exec.len_slice Tryd.underlying66 rfl rfl ?_)
      refine WL_step rfl rfl (Exec.move (v := Value.int .i64 (0)) rfl rfl ?_)
      refine WL_nil (at_normal ?_)
      obtain ⟨u107, q130, hm⟩ := bind_some hm
      obtain ⟨t103, hB105, hm⟩ := bind_some hm
      refine W_block (W_forS (fun k' s' f' w' => (un2 fun (l127 : (List ByteArray)) (l128 : (List (Option (List Int)))) => ∃ (s131 : PHeap) , PHeap.le s130 s131 ∧ St w0 s131 (Res.arr encStr 9 v105 l127 :: Res.blds 71 5 b104 (((l107.length : Int)).toNat) l128 :: H) w' ∧ f' 8 = v105 ∧ f' 9 = Value.slice (some ⟨b104, 0, none⟩) (((l107.length : Int)).toNat) (((l107.length : Int)).toNat) ∧ f' 120 = Value.int .i64 (((((l107.length : Int)).toNat) : Int)) ∧ f' 121 = Value.int .i64 (k' : Int)) s') hB105 ?_ ?_ ?_)
      ·have hS156 := (hS155).f1
       have hS157 := (hS156).f1
       exact ⟨s130, (PHeap.le_refl _), hS157, p171, p172, rfl, rfl⟩
      ·intro i105 t104 s132 f113 w129 hi105 hI110 hm105
       obtain ⟨l127, l128⟩ := t104
       replace hm105 := un2_eq hm105
       obtain ⟨s133, l129, hS158, p175, p176, p177, x116⟩ := hI110
       refine W_seq ?_
       refine W_region ?_
       refine WL_step rfl rfl (Exec.lss rfl x116 p177 ?_)
       refine WL_nil (at_normal ?_)
       refine W_seq ?_
       refine W_true (congrArg Value.bool (decide_eq_true (by omega))) ?_
       refine W_skip (at_normal ?_)
       refine W_seq ?_
       refine W_block ?_
       refine W_seq ?_
       refine W_region ?_
       refine WL_step rfl rfl (Exec.move (v := Value.int .i64 ((i105 : Int))) rfl x116 ?_)
       refine WL_step rfl rfl (Exec.assign (v := Value.int .i64 ((i105 : Int))) rfl rfl ?_)
       refine WL_nil (at_normal ?_)
       refine W_region ?_
       refine WL_step rfl rfl (Exec.move (v := v105) rfl p175 ?_)
       refine WL_step rfl rfl (Exec.move (v := Value.int .i64 ((i105 : Int))) rfl rfl ?_)
       refine WL_step rfl rfl (Exec.move (v := Value.slice (some ⟨b104, 0, none⟩) (((l107.length : Int)).toNat) (((l107.length : Int)).toNat)) rfl p176 ?_)
       refine WL_step rfl rfl (Exec.move (v := Value.int .i64 ((i105 : Int))) rfl rfl ?_)
       obtain ⟨o110, q131, hm105⟩ := bind_some hm105
       refine WL_step rfl rfl (Exec.index_blds ((hS158).f1) S66 rfl rfl rfl q131 ?_)
       obtain ⟨t105, h100, hm105⟩ := bind_some hm105
       obtain ⟨q132, l130⟩ := t105
       replace hm105 := un2_eq hm105
       have hS159 := (hS158).f1
       refine WL_step rfl rfl (Exec.call rfl rfl Tryd.func42 rfl N42 (args_cons rfl args_nil) ((blds_string_sim h100 hS159).mono ?_))
       rintro _ w130 ⟨_, rfl, rfl, hS160⟩
       refine ⟨_, rfl, ?_⟩
       obtain ⟨x117, q133, hm105⟩ := bind_some hm105
       obtain ⟨g100, c105, e112⟩ := ((hS160).f1).arr_at q133
       refine WL_step rfl rfl (Exec.index_slice S54 rfl e112 rfl (idx_some q133).1 (idx_some q133).2.1 ?_)
       obtain ⟨l131, q134, hm105⟩ := bind_some hm105
       have hS161 := (hS160).f1
       refine WL_step rfl rfl (Exec.store_arr hS161 e112 A9 rfl rfl rfl rfl (encStr_val.2 rfl) q134 ?_)
       intro w131 hS162
       refine WL_nil (ib_normal (at_normal ?_))
       refine W_region ?_
       refine WL_step rfl rfl (Exec.add rfl x116 rfl ?_)
       refine WL_step rfl rfl (Exec.move (v := Value.int .i64 (IntKind.i64.wrap ((i105 : Int) + 1))) rfl rfl ?_)
       refine WL_nil (at_normal ?_)
       have e113 := Option.some.inj hm105
       subst s132
       have hS163 := (hS162).f1
       have hS164 := (hS163).f1
       exact ⟨s133, l129, hS164, p175, p176, p177, (Eq.trans rfl (wrap_up hi105 (by have h := must_some q130; simp at h; simp only [maxLen]; omega)))⟩
      ·intro f114 w132 hI111
       obtain ⟨l127, l128⟩ := t103
       replace hm := un2_eq hm
       obtain ⟨s134, l132, hS165, p178, p179, p180, x118⟩ := hI111
       refine W_seq ?_
       refine W_region ?_
       refine WL_step rfl rfl (Exec.lss rfl x118 p180 ?_)
       refine WL_nil (at_normal ?_)
       refine W_seq ?_
       refine W_false (congrArg Value.bool (decide_eq_false (by omega))) ?_
       refine W_exit (at_exit (at_exit (ib_here (at_normal ?_))))
       refine W_seq ?_
       refine W_region ?_
       refine WL_step rfl rfl (Exec.move (v := v105) rfl p178 ?_)
       obtain ⟨t106, q135, hm⟩ := bind_some hm
       obtain ⟨y107, y108⟩ := t106
       replace hm := un2_eq hm
       refine WL_step rfl rfl (Exec.call rfl rfl Tryd.func30 rfl N30 (args_cons rfl args_nil) ((shrink_numbered_o_sim q135 hS165 ).mono ?_))
       rintro _ w133 ⟨_, rfl, ⟨s135, v110, l133, hS166, rfl⟩⟩
       refine ⟨_, rfl, ?_⟩
       refine WL_step rfl rfl (Exec.move (v := Value.tuple #[v110, Value.int .i64 (y108)]) rfl rfl ?_)
       refine WL_step rfl rfl (Exec.extract (v := v110) rfl rfl rfl ?_)
       refine WL_step rfl rfl (Exec.extract (v := Value.int .i64 (y108)) rfl rfl rfl ?_)
       refine WL_step rfl rfl (Exec.assign (v := v110) rfl rfl ?_)
       refine WL_step rfl rfl (Exec.assign (v := Value.int .i64 (y108)) rfl rfl ?_)
       refine WL_nil (at_normal ?_)
       refine W_seq ?_
       refine W_region ?_
       refine WL_step rfl rfl (Exec.move (v := v110) rfl rfl ?_)
       refine WL_step rfl rfl (Exec.assign (v := v110) rfl rfl ?_)
       refine WL_step rfl rfl (Exec.assign (v := errV 34 (none)) rfl rfl ?_)
       refine WL_nil (at_normal ?_)
       refine W_ret ?_
       have e114 := Option.some.inj hm
       subst r
       refine ⟨_, ret2 rfl, ?_⟩
       have hS167 := (hS166).f1
       obtain ⟨s136, l134, hS168, r109⟩ := hS167.freezeArr
       have hS169 := (hS168).drop
       have hS170 := (hS169).drop
       exact ⟨s136, v110, (PHeap.le.trans (PHeap.le.trans (PHeap.le.trans (PHeap.le.trans (PHeap.le.trans (PHeap.le.trans l105 l106) l113) l126) l132) l133) l134), hS170, (tup2 rfl rfl), r109⟩

theorem base_Ints_sim {w0 w : World} {s : PHeap} {H : List Res} {a100 : (List Int)} {b100 : (List Int)} {v100 : Value} {v101 : Value} {r : Bool} (hm : base_Ints_p a100 b100 = some r) (hS : St w0 s (H) w) (a101 : SliceRep (encInt .i64) s v100 a100) (a102 : SliceRep (encInt .i64) s v101 b100) :
  Calls Tryd.prog 15 #[v100, v101] w fun e w' => ∃ v, e = .returned v ∧ ((fun (y100 : Bool) => ∃ (s100 : PHeap) , PHeap.le s s100 ∧ St w0 s100 (H) w' ∧ v = Value.bool (y100)) r) := by
 unfold base_Ints_p at hm
 refine calls_of_W Tryd.func15 rfl rfl ?_
 refine W_seq ?_
 refine W_region ?_
 refine WL_step rfl rfl (Exec.assign (v := Value.bool (false)) rfl rfl ?_)
 refine WL_nil (at_normal ?_)
 refine W_seq ?_
 refine W_seq ?_
 refine W_region ?_
 refine WL_step rfl rfl (Exec.move (v := v100) rfl rfl ?_)
 refine WL_step rfl rfl (Exec.len_rep S22 rfl rfl a101 ?_)
 refine WL_step rfl rfl (Exec.move (v := v101) rfl rfl ?_)
 refine WL_step rfl rfl (Exec.len_rep S22 rfl rfl a102 ?_)
 refine WL_step rfl rfl (Exec.neq rfl rfl rfl ?_)
 refine WL_nil (at_normal ?_)
 rcases ite_some hm with ⟨hc100, hm⟩ | ⟨hc100, hm⟩
 ·refine W_cond_t rfl hc100 ?_
  refine W_seq ?_
  refine W_region ?_
  refine WL_step rfl rfl (Exec.assign (v := Value.bool (false)) rfl rfl ?_)
  refine WL_nil (at_normal ?_)
  refine W_ret (at_ret ?_)
  have e100 := Option.some.inj hm
  subst r
  refine ⟨_, ret1 rfl, ?_⟩
  exact ⟨s, (PHeap.le_refl _), hS, rfl⟩
 ·refine W_cond_f rfl hc100 ?_
  replace hc100 := not_true hc100
  refine W_skip (at_normal ?_)
  refine W_seq ?_
  refine W_seq ?_
  refine W_region ?_
  refine WL_step rfl rfl (Exec.move (v := v100) rfl rfl ?_)
  refine WL_step rfl rfl (Exec.len_rep S22 rfl rfl a101 ?_)
  refine WL_step rfl rfl (Exec.move (v := Value.int .i64 (0)) rfl rfl ?_)
  refine WL_nil (at_normal ?_)
  obtain ⟨c100, hB100, hr100, hn100, hb100⟩ := ctl_some hm
  refine W_mid (M := fun f' w' => ∃ s', (c100 = .next s' ∨ c100 = .brk s') ∧ (fun (_ : Unit) => ∃ (s101 : PHeap) , PHeap.le s s101 ∧ St w0 s101 (H) w' ∧ f' 0 = v100 ∧ f' 1 = v101 ∧ f' 12 = Value.int .i64 ((a100.length : Int))) s') ?_ ?_
  ·refine W_block (W_forC (fun k' s' f' w' => (fun (_ : Unit) => ∃ (s102 : PHeap) , PHeap.le s s102 ∧ St w0 s102 (H) w' ∧ f' 0 = v100 ∧ f' 1 = v101 ∧ f' 12 = Value.int .i64 ((a100.length : Int)) ∧ f' 13 = Value.int .i64 (k' : Int)) s') hB100 ?_ ?_ ?_)
   ·exact ⟨s, (PHeap.le_refl _), hS, rfl, rfl, rfl, rfl⟩
   ·intro i100 t100 c101 f100 w100 hi100 hI100 hm100 hres100
    obtain ⟨s103, l100, hS100, p100, p101, p102, x100⟩ := hI100
    refine W_seq ?_
    refine W_region ?_
    refine WL_step rfl rfl (Exec.lss rfl x100 p102 ?_)
    refine WL_nil (at_normal ?_)
    refine W_seq ?_
    refine W_true (congrArg Value.bool (decide_eq_true (by omega))) ?_
    refine W_skip (at_normal ?_)
    refine W_seq ?_
    refine W_block ?_
    refine W_seq ?_
    refine W_region ?_
    refine WL_step rfl rfl (Exec.move (v := Value.int .i64 ((i100 : Int))) rfl x100 ?_)
    refine WL_step rfl rfl (Exec.assign (v := Value.int .i64 ((i100 : Int))) rfl rfl ?_)
    refine WL_nil (at_normal ?_)
    refine W_seq ?_
    refine W_dl (n0 := 9) (.q 0 (.q 1 (.q 2 (.q 3 (.q 4 (.q 5 (.q 6 (.q 7 (.q 8 .done))))))))) hmix (by kernel_rfl) (by kernel_rfl) ?_
    have hS101 := hS100.drew
    refine DL_q rfl rfl (Exec.move (v := v100) rfl p100 ⟨rfl, ?_⟩)
    refine DL_q rfl rfl (Exec.move (v := Value.int .i64 ((i100 : Int))) rfl rfl ⟨rfl, ?_⟩)
    obtain ⟨x101, q100, hm100⟩ := bind_some hm100
    refine DL_q rfl rfl (Exec.index_repE S22 rfl rfl rfl (a101.mono l100) q100 ?_)
    intro b101 o100 a103 e101
    refine ⟨rfl, ?_⟩
    refine DL_q rfl rfl (Exec.load_at (E := (encInt .i64)) hS101 A3 rfl rfl rfl a103 ?_)
    intro v102 q101
    obtain rfl := encInt_val.1 q101
    refine ⟨rfl, ?_⟩
    refine DL_q rfl rfl (Exec.move (v := v101) rfl p101 ⟨rfl, ?_⟩)
    refine DL_q rfl rfl (Exec.move (v := Value.int .i64 ((i100 : Int))) rfl rfl ⟨rfl, ?_⟩)
    obtain ⟨x102, q102, hm100⟩ := bind_some hm100
    refine DL_q rfl rfl (Exec.index_repE S22 rfl rfl rfl (a102.mono l100) q102 ?_)
    intro b102 o101 a104 e102
    refine ⟨rfl, ?_⟩
    refine DL_q rfl rfl (Exec.load_at (E := (encInt .i64)) hS101 A3 rfl rfl rfl a104 ?_)
    intro v103 q103
    obtain rfl := encInt_val.1 q103
    refine ⟨rfl, ?_⟩
    refine DL_q rfl rfl (Exec.neq rfl rfl rfl ⟨rfl, ?_⟩)
    refine DL_done ?_
    refine WL_nil (at_normal ?_)
    rcases ite_some hm100 with ⟨hc101, hm100⟩ | ⟨hc101, hm100⟩
    ·refine W_cond_t rfl hc101 ?_
     refine W_seq ?_
     refine W_region ?_
     refine WL_step rfl rfl (Exec.assign (v := Value.bool (false)) rfl rfl ?_)
     refine WL_nil (at_normal ?_)
     refine W_ret (ib_ret (at_ret (at_ret (ib_ret (at_ret (at_ret ?_))))))
     have e103 := Option.some.inj hm100
     subst c101
     have hq100 := hr100 _ (hres100 (by intro _ h; cases h))
     have e104 := Option.some.inj hq100
     subst r
     refine ⟨_, ret1 rfl, ?_⟩
     exact ⟨s103, l100, hS101, rfl⟩
    ·refine W_cond_f rfl hc101 ?_
     replace hc101 := not_true hc101
     refine W_skip (ib_normal (at_normal ?_))
     refine W_region ?_
     refine WL_step rfl rfl (Exec.add rfl x100 rfl ?_)
     refine WL_step rfl rfl (Exec.move (v := Value.int .i64 (IntKind.i64.wrap ((i100 : Int) + 1))) rfl rfl ?_)
     refine WL_nil (at_normal ?_)
     have e105 := Option.some.inj hm100
     subst c101
     refine ⟨_, rfl, ?_⟩; exact ⟨s103, l100, hS101, p100, p101, p102, (Eq.trans rfl (wrap_up hi100 (SliceRep.le a101)))⟩
   ·intro t101 f101 w101 hI101 hres101
    obtain ⟨s104, l101, hS102, p103, p104, p105, x103⟩ := hI101
    refine W_seq ?_
    refine W_region ?_
    refine WL_step rfl rfl (Exec.lss rfl x103 p105 ?_)
    refine WL_nil (at_normal ?_)
    refine W_seq ?_
    refine W_false (congrArg Value.bool (decide_eq_false (by omega))) ?_
    refine W_exit (at_exit (at_exit (ib_here (at_normal ?_))))
    refine ⟨_, .inl hres101, ?_⟩; exact ⟨s104, l101, hS102, p103, p104, p105⟩
  ·rintro f102 w102 ⟨t102, hc102, hM100⟩
   have hm := hc102.elim (hn100 _) (hb100 _)
   clear hc102
   obtain ⟨s105, l102, hS103, p106, p107, p108⟩ := hM100
   refine (at_normal ?_)
   refine W_seq ?_
   refine W_region ?_
   refine WL_step rfl rfl (Exec.assign (v := Value.bool (true)) rfl rfl ?_)
   refine WL_nil (at_normal ?_)
   refine W_ret ?_
   have e106 := Option.some.inj hm
   subst r
   refine ⟨_, ret1 rfl, ?_⟩
   exact ⟨s105, l102, hS103, rfl⟩

theorem IS53 : intStruct Tryd.prog 53 3 = true := by kernel_rfl

theorem N43 : (Tryd.f43.name == "runtime.NumGoroutine") = false := by kernel_rfl

theorem ref45_alike_sim {w0 w : World} {s : PHeap} {H : List Res} {x100 : System} {a100 : Int} {b100 : Int} {v100 : Value} {v101 : Value} {v102 : Value} {r : Bool} (hm : ref45_alike_p x100 a100 b100 = some r) (hS : St w0 s (H) w) (a101 : SliceRep (encInt .i64) s v100 x100.Costs) (a102 : SliceRep encEdge s v101 x100.Edges) (a103 : SliceRep encBool s v102 x100.Goals) :
  Calls Tryd.prog 43 #[Value.agg #[Value.int .i64 (x100.States), Value.int .i64 (x100.Init), v100, v101, v102], Value.int .i64 (a100), Value.int .i64 (b100)] w fun e w' => ∃ v, e = .returned v ∧ ((fun (y100 : Bool) => ∃ (s100 : PHeap) , PHeap.le s s100 ∧ St w0 s100 (H) w' ∧ v = Value.bool (y100)) r) := by
 unfold ref45_alike_p at hm
 refine calls_of_W Tryd.func43 rfl rfl ?_
 refine W_seq ?_
 refine W_region ?_
 refine WL_step rfl rfl (Exec.box (cs := [Value.int .i64 (x100.States), Value.int .i64 (x100.Init), v100, v101, v102]) hS rfl rfl rfl ?_)
 intro b101 w100 hS100
 refine WL_step rfl rfl (Exec.assign (v := Value.bool (false)) rfl rfl ?_)
 refine WL_nil (at_normal ?_)
 refine W_seq ?_
 refine W_seq ?_
 refine W_region ?_
 refine WL_step rfl rfl (Exec.field F26_3 rfl rfl rfl ?_)
 refine WL_step rfl rfl (Exec.load_box (hS100) A23 rfl rfl rfl ?_)
 refine WL_step rfl rfl (Exec.len_rep S23 rfl rfl a102 ?_)
 refine WL_step rfl rfl (Exec.move (v := Value.int .i64 (0)) rfl rfl ?_)
 refine WL_nil (at_normal ?_)
 obtain ⟨c100, hB100, hr100, hn100, hb100⟩ := ctl_some hm
 refine W_mid (M := fun f' w' => ∃ s', (c100 = .next s' ∨ c100 = .brk s') ∧ (fun (_ : Unit) => ∃ (s101 : PHeap) , PHeap.le s s101 ∧ St w0 s101 (Res.box b101 26 [Value.int .i64 (x100.States), Value.int .i64 (x100.Init), v100, v101, v102] :: H) w' ∧ f' 1 = Value.int .i64 (a100) ∧ f' 2 = Value.int .i64 (b100) ∧ f' 3 = Value.pointer (some ⟨b101, 0, none⟩) ∧ f' 14 = v101 ∧ f' 15 = Value.int .i64 ((x100.Edges.length : Int))) s') ?_ ?_
 ·refine W_block (W_forC (fun k' s' f' w' => (fun (_ : Unit) => ∃ (s102 : PHeap) , PHeap.le s s102 ∧ St w0 s102 (Res.box b101 26 [Value.int .i64 (x100.States), Value.int .i64 (x100.Init), v100, v101, v102] :: H) w' ∧ f' 1 = Value.int .i64 (a100) ∧ f' 2 = Value.int .i64 (b100) ∧ f' 3 = Value.pointer (some ⟨b101, 0, none⟩) ∧ f' 14 = v101 ∧ f' 15 = Value.int .i64 ((x100.Edges.length : Int)) ∧ f' 16 = Value.int .i64 (k' : Int)) s') hB100 ?_ ?_ ?_)
  ·exact ⟨s, (PHeap.le_refl _), hS100, rfl, rfl, rfl, rfl, rfl, rfl⟩
  ·intro i100 t100 c101 f100 w101 hi100 hI100 hm100 hres100
   obtain ⟨s103, l100, hS101, p100, p101, p102, p103, p104, x101⟩ := hI100
   refine W_seq ?_
   refine W_region ?_
   refine WL_step rfl rfl (Exec.lss rfl x101 p104 ?_)
   refine WL_nil (at_normal ?_)
   refine W_seq ?_
   refine W_true (congrArg Value.bool (decide_eq_true (by omega))) ?_
   refine W_skip (at_normal ?_)
   refine W_seq ?_
   refine W_block ?_
   refine W_seq ?_
   refine W_region ?_
   obtain ⟨x102, q100, hm100⟩ := bind_some hm100
   refine WL_step rfl rfl (Exec.index_rep S23 rfl p103 x101 (a102.mono l100) q100 ?_)
   intro b102 o100 a104
   refine WL_step rfl rfl (Exec.load_at (E := encEdge) hS101 A53 rfl rfl rfl a104 ?_)
   intro v103 q101
   obtain rfl := encEdge_val.1 q101
   refine WL_step rfl rfl (Exec.alloc (cs := [Value.int .i64 (0), Value.int .i64 (0), Value.int .i64 (0)]) hS101 Z53 rfl rfl ?_)
   intro b103 w102 hS102
   refine WL_step rfl rfl (Exec.store_box (ds := [Value.int .i64 (x102.From), Value.int .i64 (x102.Label), Value.int .i64 (x102.To)]) (es := [Value.int .i64 (x102.From), Value.int .i64 (x102.Label), Value.int .i64 (x102.To)]) hS102 A53 rfl rfl rfl rfl (one_cons rfl (one_cons rfl (one_cons rfl one_nil))) (Nat.le_of_ble_eq_true rfl) rfl ?_)
   intro w103 hS103
   refine WL_nil (at_normal ?_)
   refine W_seq ?_
   refine W_region ?_
   refine WL_step rfl rfl (Exec.move (v := Value.int .i64 (b100)) rfl p101 ?_)
   refine WL_step rfl rfl (Exec.assign (v := Value.int .i64 (b100)) rfl rfl ?_)
   refine WL_nil (at_normal ?_)
   refine W_seq ?_
   refine W_seq ?_
   refine W_region ?_
   refine WL_step rfl rfl (Exec.field F53_1 rfl rfl rfl ?_)
   refine WL_step rfl rfl (Exec.load_box (hS103) A3 rfl rfl rfl ?_)
   refine WL_step rfl rfl (Exec.move (v := Value.int .i64 (b100)) rfl p101 ?_)
   refine WL_step rfl rfl (Exec.eql rfl rfl rfl ?_)
   refine WL_nil (at_normal ?_)
   rcases ite_some hm100 with ⟨hc100, hm100⟩ | ⟨hc100, hm100⟩
   ·refine W_cond_t rfl hc100 ?_
    refine W_region ?_
    refine WL_step rfl rfl (Exec.move (v := Value.int .i64 (a100)) rfl p100 ?_)
    refine WL_step rfl rfl (Exec.assign (v := Value.int .i64 (a100)) rfl rfl ?_)
    refine WL_nil (at_normal ?_)
    refine W_seq ?_
    refine W_region ?_
    refine WL_step rfl rfl (Exec.assign (v := Value.bool (false)) rfl rfl ?_)
    refine WL_nil (at_normal ?_)
    refine W_seq ?_
    refine W_seq ?_
    refine W_region ?_
    refine WL_step rfl rfl (Exec.field F26_3 rfl p102 rfl ?_)
    refine WL_step rfl rfl (Exec.load_box ((hS103).f1) A23 rfl rfl rfl ?_)
    refine WL_step rfl rfl (Exec.len_rep S23 rfl rfl (a102.mono l100) ?_)
    refine WL_step rfl rfl (Exec.move (v := Value.int .i64 (0)) rfl rfl ?_)
    refine WL_nil (at_normal ?_)
    obtain ⟨there100, hB101, hm100⟩ := bind_some hm100
    refine W_block (W_forS (fun k' s' f' w' => (fun (there100 : Bool) => ∃ (s104 : PHeap) , PHeap.le s103 s104 ∧ St w0 s104 (Res.box b101 26 [Value.int .i64 (x100.States), Value.int .i64 (x100.Init), v100, v101, v102] :: Res.box b103 53 [Value.int .i64 (x102.From), Value.int .i64 (x102.Label), Value.int .i64 (x102.To)] :: H) w' ∧ f' 1 = Value.int .i64 (a100) ∧ f' 2 = Value.int .i64 (b100) ∧ f' 3 = Value.pointer (some ⟨b101, 0, none⟩) ∧ f' 8 = Value.pointer (some ⟨b103, 0, none⟩) ∧ f' 9 = Value.int .i64 (a100) ∧ f' 10 = Value.bool (there100) ∧ f' 14 = v101 ∧ f' 15 = Value.int .i64 ((x100.Edges.length : Int)) ∧ f' 16 = Value.int .i64 ((i100 : Int)) ∧ f' 31 = v101 ∧ f' 32 = Value.int .i64 ((x100.Edges.length : Int)) ∧ f' 33 = Value.int .i64 (k' : Int)) s') hB101 ?_ ?_ ?_)
    ·have hS104 := (hS103).f1
     exact ⟨s103, (PHeap.le_refl _), hS104, p100, p101, p102, rfl, rfl, rfl, p103, p104, x101, rfl, rfl, rfl⟩
    ·intro i101 there100 s105 f101 w104 hi101 hI101 hm101
     obtain ⟨s106, l101, hS105, p105, p106, p107, p108, p109, p110, p111, p112, p113, p114, p115, x103⟩ := hI101
     refine W_seq ?_
     refine W_region ?_
     refine WL_step rfl rfl (Exec.lss rfl x103 p115 ?_)
     refine WL_nil (at_normal ?_)
     refine W_seq ?_
     refine W_true (congrArg Value.bool (decide_eq_true (by omega))) ?_
     refine W_skip (at_normal ?_)
     refine W_seq ?_
     refine W_block ?_
     refine W_seq ?_
     refine W_region ?_
     obtain ⟨x104, q102, hm101⟩ := bind_some hm101
     refine WL_step rfl rfl (Exec.index_rep S23 rfl p114 x103 (a102.mono (PHeap.le.trans l100 l101)) q102 ?_)
     intro b104 o101 a105
     refine WL_step rfl rfl (Exec.load_at (E := encEdge) hS105 A53 rfl rfl rfl a105 ?_)
     intro v104 q103
     obtain rfl := encEdge_val.1 q103
     refine WL_step rfl rfl (Exec.alloc (cs := [Value.int .i64 (0), Value.int .i64 (0), Value.int .i64 (0)]) hS105 Z53 rfl rfl ?_)
     intro b105 w105 hS106
     refine WL_step rfl rfl (Exec.store_box (ds := [Value.int .i64 (x104.From), Value.int .i64 (x104.Label), Value.int .i64 (x104.To)]) (es := [Value.int .i64 (x104.From), Value.int .i64 (x104.Label), Value.int .i64 (x104.To)]) hS106 A53 rfl rfl rfl rfl (one_cons rfl (one_cons rfl (one_cons rfl one_nil))) (Nat.le_of_ble_eq_true rfl) rfl ?_)
     intro w106 hS107
     refine WL_nil (at_normal ?_)
     refine W_mid (M := fun f' w' => ∃ (s107 : PHeap) , PHeap.le s106 s107 ∧ St w0 s107 (Res.box b101 26 [Value.int .i64 (x100.States), Value.int .i64 (x100.Init), v100, v101, v102] :: Res.box b103 53 [Value.int .i64 (x102.From), Value.int .i64 (x102.Label), Value.int .i64 (x102.To)] :: H) w' ∧ f' 1 = Value.int .i64 (a100) ∧ f' 2 = Value.int .i64 (b100) ∧ f' 3 = Value.pointer (some ⟨b101, 0, none⟩) ∧ f' 8 = Value.pointer (some ⟨b103, 0, none⟩) ∧ f' 9 = Value.int .i64 (a100) ∧ f' 10 = Value.bool ((there100 || eqs [x104.From, x104.Label, x104.To] [x102.From, a100, x102.To])) ∧ f' 14 = v101 ∧ f' 15 = Value.int .i64 ((x100.Edges.length : Int)) ∧ f' 16 = Value.int .i64 ((i100 : Int)) ∧ f' 31 = v101 ∧ f' 32 = Value.int .i64 ((x100.Edges.length : Int)) ∧ f' 33 = Value.int .i64 ((i101 : Int))) ?_ ?_
     ·refine W_region ?_
      refine WL_step rfl rfl (Exec.move (v := Value.bool (there100)) rfl p110 ?_)
      refine WL_step rfl rfl (Exec.move (v := Value.bool (there100)) rfl rfl ?_)
      by_cases hc101 : there100 = true
      ·refine WL_pass rfl (yield_of rfl (congrArg Value.bool hc101)) rfl rfl ?_
       refine WL_pass rfl (yield_of rfl (congrArg Value.bool hc101)) rfl rfl ?_
       refine WL_pass rfl (yield_of rfl (congrArg Value.bool hc101)) rfl rfl ?_
       refine WL_pass rfl (yield_of rfl (congrArg Value.bool hc101)) rfl rfl ?_
       refine WL_pass rfl (yield_of rfl (congrArg Value.bool hc101)) rfl rfl ?_
       refine WL_pass rfl (yield_of rfl (congrArg Value.bool hc101)) rfl rfl ?_
       refine WL_pass rfl (yield_of rfl (congrArg Value.bool hc101)) rfl rfl ?_
       refine WL_pass rfl (yield_of rfl (congrArg Value.bool hc101)) rfl rfl ?_
       refine WL_step rfl rfl (Exec.pick_t (v := Value.bool (true)) rfl (congrArg Value.bool hc101) rfl ?_)
       refine WL_step rfl rfl (Exec.assign (v := Value.bool (true)) rfl rfl ?_)
       refine WL_nil (at_normal ?_)
       have hS108 := (hS107).drop
       have hS109 := (hS108).f1
       have hS110 := (hS109).f1
       exact ⟨s106, (PHeap.le_refl _), hS110, p105, p106, p107, p108, p109, (congrArg Value.bool (or_t hc101)).symm, p111, p112, p113, p114, p115, x103⟩
      ·replace hc101 := not_true hc101
       refine WL_run rfl (yield_of rfl (congrArg Value.bool hc101)) rfl (Exec.load_box_agg (ds := [Value.int .i64 (x104.From), Value.int .i64 (x104.Label), Value.int .i64 (x104.To)]) (hS107) A53 rfl rfl rfl ?_)
       refine WL_run rfl (yield_of rfl (congrArg Value.bool hc101)) rfl (Exec.field F53_0 rfl p108 rfl ?_)
       refine WL_run rfl (yield_of rfl (congrArg Value.bool hc101)) rfl (Exec.load_box ((hS107).f2) A3 rfl rfl rfl ?_)
       refine WL_run rfl (yield_of rfl (congrArg Value.bool hc101)) rfl (Exec.move (v := Value.int .i64 (a100)) rfl p109 ?_)
       refine WL_run rfl (yield_of rfl (congrArg Value.bool hc101)) rfl (Exec.field F53_2 rfl p108 rfl ?_)
       refine WL_run rfl (yield_of rfl (congrArg Value.bool hc101)) rfl (Exec.load_box ((hS107).f2) A3 rfl rfl rfl ?_)
       refine WL_run rfl (yield_of rfl (congrArg Value.bool hc101)) rfl (Exec.build rfl (parts_cons (c := [Value.int .i64 (x102.From)]) (cells_of rfl rfl) (parts_cons (c := [Value.int .i64 (a100)]) (cells_of rfl rfl) (parts_cons (c := [Value.int .i64 (x102.To)]) (cells_of rfl rfl) parts_nil))) (v := Value.agg #[Value.int .i64 (x102.From), Value.int .i64 (a100), Value.int .i64 (x102.To)]) (fun _ => by kernel_rfl) ?_)
       refine WL_run rfl (yield_of rfl (congrArg Value.bool hc101)) rfl (Exec.ints_eql (xs := [x104.From, x104.Label, x104.To]) (ys := [x102.From, a100, x102.To]) IS53 rfl rfl rfl rfl rfl rfl rfl ?_)
       refine WL_step rfl rfl (Exec.pick_f (v := Value.bool (eqs [x104.From, x104.Label, x104.To] [x102.From, a100, x102.To])) rfl (congrArg Value.bool hc101) rfl ?_)
       refine WL_step rfl rfl (Exec.assign (v := Value.bool (eqs [x104.From, x104.Label, x104.To] [x102.From, a100, x102.To])) rfl rfl ?_)
       refine WL_nil (at_normal ?_)
       have hS111 := (hS107).drop
       have hS112 := (hS111).f1
       have hS113 := (hS112).f1
       exact ⟨s106, (PHeap.le_refl _), hS113, p105, p106, p107, p108, p109, (congrArg Value.bool (or_f hc101)).symm, p111, p112, p113, p114, p115, x103⟩
     ·intro f102 w107 hM100
      obtain ⟨s108, l102, hS114, p116, p117, p118, p119, p120, p121, p122, p123, p124, p125, p126, p127⟩ := hM100
      refine (ib_normal (at_normal ?_))
      refine W_region ?_
      refine WL_step rfl rfl (Exec.add rfl p127 rfl ?_)
      refine WL_step rfl rfl (Exec.move (v := Value.int .i64 (IntKind.i64.wrap ((i101 : Int) + 1))) rfl rfl ?_)
      refine WL_nil (at_normal ?_)
      have e100 := Option.some.inj hm101
      subst s105
      have hS115 := (hS114).f1
      have hS116 := (hS115).f1
      exact ⟨s108, (PHeap.le.trans l101 l102), hS116, p116, p117, p118, p119, p120, p121, p122, p123, p124, p125, p126, (Eq.trans rfl (wrap_up hi101 (SliceRep.le (a102.mono l100))))⟩
    ·intro f103 w108 hI102
     obtain ⟨s109, l103, hS117, p128, p129, p130, p131, p132, p133, p134, p135, p136, p137, p138, x105⟩ := hI102
     refine W_seq ?_
     refine W_region ?_
     refine WL_step rfl rfl (Exec.lss rfl x105 p138 ?_)
     refine WL_nil (at_normal ?_)
     refine W_seq ?_
     refine W_false (congrArg Value.bool (decide_eq_false (by omega))) ?_
     refine W_exit (at_exit (at_exit (ib_here (at_normal ?_))))
     refine W_seq ?_
     refine W_region ?_
     refine WL_step rfl rfl (Exec.move (v := Value.bool (there100)) rfl p133 ?_)
     refine WL_step rfl rfl (Exec.not rfl rfl ?_)
     refine WL_nil (at_normal ?_)
     rcases ite_some hm100 with ⟨hc102, hm100⟩ | ⟨hc102, hm100⟩
     ·refine W_cond_t rfl hc102 ?_
      refine W_seq ?_
      refine W_region ?_
      refine WL_step rfl rfl (Exec.assign (v := Value.bool (false)) rfl rfl ?_)
      refine WL_nil (at_normal ?_)
      refine W_ret (ib_ret (at_ret (at_ret (ib_ret (at_ret (at_ret ?_))))))
      have e101 := Option.some.inj hm100
      subst c101
      have hq100 := hr100 _ (hres100 (by intro _ h; cases h))
      have e102 := Option.some.inj hq100
      subst r
      refine ⟨_, ret1 rfl, ?_⟩
      have hS118 := (hS117).drop
      have hS119 := (hS118).drop
      exact ⟨s109, (PHeap.le.trans l100 l103), hS119, rfl⟩
     ·refine W_cond_f rfl hc102 ?_
      replace hc102 := not_true hc102
      refine W_skip (ib_normal (at_normal ?_))
      refine W_region ?_
      refine WL_step rfl rfl (Exec.add rfl p136 rfl ?_)
      refine WL_step rfl rfl (Exec.move (v := Value.int .i64 (IntKind.i64.wrap ((i100 : Int) + 1))) rfl rfl ?_)
      refine WL_nil (at_normal ?_)
      have e103 := Option.some.inj hm100
      subst c101
      have hS120 := ((hS117).f1).drop
      refine ⟨_, rfl, ?_⟩; exact ⟨s109, (PHeap.le.trans l100 l103), hS120, p128, p129, p130, p134, p135, (Eq.trans rfl (wrap_up hi100 (SliceRep.le a102)))⟩
   ·refine W_cond_f rfl hc100 ?_
    replace hc100 := not_true hc100
    refine W_seq ?_
    refine W_region ?_
    refine WL_step rfl rfl (Exec.field F53_1 rfl rfl rfl ?_)
    refine WL_step rfl rfl (Exec.load_box (hS103) A3 rfl rfl rfl ?_)
    refine WL_step rfl rfl (Exec.move (v := Value.int .i64 (a100)) rfl p100 ?_)
    refine WL_step rfl rfl (Exec.neq rfl rfl rfl ?_)
    refine WL_nil (at_normal ?_)
    rcases ite_some hm100 with ⟨hc103, hm100⟩ | ⟨hc103, hm100⟩
    ·refine W_cond_t rfl hc103 ?_
     refine W_exit (at_exit (ib_here (at_normal ?_)))
     refine W_region ?_
     refine WL_step rfl rfl (Exec.add rfl x101 rfl ?_)
     refine WL_step rfl rfl (Exec.move (v := Value.int .i64 (IntKind.i64.wrap ((i100 : Int) + 1))) rfl rfl ?_)
     refine WL_nil (at_normal ?_)
     have e104 := Option.some.inj hm100
     subst c101
     have hS121 := (hS103).drop
     refine ⟨_, rfl, ?_⟩; exact ⟨s103, l100, hS121, p100, p101, p102, p103, p104, (Eq.trans rfl (wrap_up hi100 (SliceRep.le a102)))⟩
    ·refine W_cond_f rfl hc103 ?_
     replace hc103 := not_true hc103
     refine W_skip (at_normal ?_)
     refine W_seq ?_
     refine W_region ?_
     refine WL_step rfl rfl (Exec.assign (v := Value.bool (false)) rfl rfl ?_)
     refine WL_nil (at_normal ?_)
     refine W_seq ?_
     refine W_seq ?_
     refine W_region ?_
     refine WL_step rfl rfl (Exec.field F26_3 rfl p102 rfl ?_)
     refine WL_step rfl rfl (Exec.load_box ((hS103).f1) A23 rfl rfl rfl ?_)
     refine WL_step rfl rfl (Exec.len_rep S23 rfl rfl (a102.mono l100) ?_)
     refine WL_step rfl rfl (Exec.move (v := Value.int .i64 (0)) rfl rfl ?_)
     refine WL_nil (at_normal ?_)
     obtain ⟨there101, hB102, hm100⟩ := bind_some hm100
     refine W_block (W_forS (fun k' s' f' w' => (fun (there101 : Bool) => ∃ (s110 : PHeap) , PHeap.le s103 s110 ∧ St w0 s110 (Res.box b101 26 [Value.int .i64 (x100.States), Value.int .i64 (x100.Init), v100, v101, v102] :: Res.box b103 53 [Value.int .i64 (x102.From), Value.int .i64 (x102.Label), Value.int .i64 (x102.To)] :: H) w' ∧ f' 1 = Value.int .i64 (a100) ∧ f' 2 = Value.int .i64 (b100) ∧ f' 3 = Value.pointer (some ⟨b101, 0, none⟩) ∧ f' 8 = Value.pointer (some ⟨b103, 0, none⟩) ∧ f' 9 = Value.int .i64 (b100) ∧ f' 10 = Value.bool (there101) ∧ f' 14 = v101 ∧ f' 15 = Value.int .i64 ((x100.Edges.length : Int)) ∧ f' 16 = Value.int .i64 ((i100 : Int)) ∧ f' 31 = v101 ∧ f' 32 = Value.int .i64 ((x100.Edges.length : Int)) ∧ f' 33 = Value.int .i64 (k' : Int)) s') hB102 ?_ ?_ ?_)
     ·have hS122 := (hS103).f1
      exact ⟨s103, (PHeap.le_refl _), hS122, p100, p101, p102, rfl, rfl, rfl, p103, p104, x101, rfl, rfl, rfl⟩
     ·intro i102 there101 s111 f104 w109 hi102 hI103 hm102
      obtain ⟨s112, l104, hS123, p139, p140, p141, p142, p143, p144, p145, p146, p147, p148, p149, x106⟩ := hI103
      refine W_seq ?_
      refine W_region ?_
      refine WL_step rfl rfl (Exec.lss rfl x106 p149 ?_)
      refine WL_nil (at_normal ?_)
      refine W_seq ?_
      refine W_true (congrArg Value.bool (decide_eq_true (by omega))) ?_
      refine W_skip (at_normal ?_)
      refine W_seq ?_
      refine W_block ?_
      refine W_seq ?_
      refine W_region ?_
      obtain ⟨x107, q104, hm102⟩ := bind_some hm102
      refine WL_step rfl rfl (Exec.index_rep S23 rfl p148 x106 (a102.mono (PHeap.le.trans l100 l104)) q104 ?_)
      intro b106 o102 a106
      refine WL_step rfl rfl (Exec.load_at (E := encEdge) hS123 A53 rfl rfl rfl a106 ?_)
      intro v105 q105
      obtain rfl := encEdge_val.1 q105
      refine WL_step rfl rfl (Exec.alloc (cs := [Value.int .i64 (0), Value.int .i64 (0), Value.int .i64 (0)]) hS123 Z53 rfl rfl ?_)
      intro b107 w110 hS124
      refine WL_step rfl rfl (Exec.store_box (ds := [Value.int .i64 (x107.From), Value.int .i64 (x107.Label), Value.int .i64 (x107.To)]) (es := [Value.int .i64 (x107.From), Value.int .i64 (x107.Label), Value.int .i64 (x107.To)]) hS124 A53 rfl rfl rfl rfl (one_cons rfl (one_cons rfl (one_cons rfl one_nil))) (Nat.le_of_ble_eq_true rfl) rfl ?_)
      intro w111 hS125
      refine WL_nil (at_normal ?_)
      refine W_mid (M := fun f' w' => ∃ (s113 : PHeap) , PHeap.le s112 s113 ∧ St w0 s113 (Res.box b101 26 [Value.int .i64 (x100.States), Value.int .i64 (x100.Init), v100, v101, v102] :: Res.box b103 53 [Value.int .i64 (x102.From), Value.int .i64 (x102.Label), Value.int .i64 (x102.To)] :: H) w' ∧ f' 1 = Value.int .i64 (a100) ∧ f' 2 = Value.int .i64 (b100) ∧ f' 3 = Value.pointer (some ⟨b101, 0, none⟩) ∧ f' 8 = Value.pointer (some ⟨b103, 0, none⟩) ∧ f' 9 = Value.int .i64 (b100) ∧ f' 10 = Value.bool ((there101 || eqs [x107.From, x107.Label, x107.To] [x102.From, b100, x102.To])) ∧ f' 14 = v101 ∧ f' 15 = Value.int .i64 ((x100.Edges.length : Int)) ∧ f' 16 = Value.int .i64 ((i100 : Int)) ∧ f' 31 = v101 ∧ f' 32 = Value.int .i64 ((x100.Edges.length : Int)) ∧ f' 33 = Value.int .i64 ((i102 : Int))) ?_ ?_
      ·refine W_region ?_
       refine WL_step rfl rfl (Exec.move (v := Value.bool (there101)) rfl p144 ?_)
       refine WL_step rfl rfl (Exec.move (v := Value.bool (there101)) rfl rfl ?_)
       by_cases hc104 : there101 = true
       ·refine WL_pass rfl (yield_of rfl (congrArg Value.bool hc104)) rfl rfl ?_
        refine WL_pass rfl (yield_of rfl (congrArg Value.bool hc104)) rfl rfl ?_
        refine WL_pass rfl (yield_of rfl (congrArg Value.bool hc104)) rfl rfl ?_
        refine WL_pass rfl (yield_of rfl (congrArg Value.bool hc104)) rfl rfl ?_
        refine WL_pass rfl (yield_of rfl (congrArg Value.bool hc104)) rfl rfl ?_
        refine WL_pass rfl (yield_of rfl (congrArg Value.bool hc104)) rfl rfl ?_
        refine WL_pass rfl (yield_of rfl (congrArg Value.bool hc104)) rfl rfl ?_
        refine WL_pass rfl (yield_of rfl (congrArg Value.bool hc104)) rfl rfl ?_
        refine WL_step rfl rfl (Exec.pick_t (v := Value.bool (true)) rfl (congrArg Value.bool hc104) rfl ?_)
        refine WL_step rfl rfl (Exec.assign (v := Value.bool (true)) rfl rfl ?_)
        refine WL_nil (at_normal ?_)
        have hS126 := (hS125).drop
        have hS127 := (hS126).f1
        have hS128 := (hS127).f1
        exact ⟨s112, (PHeap.le_refl _), hS128, p139, p140, p141, p142, p143, (congrArg Value.bool (or_t hc104)).symm, p145, p146, p147, p148, p149, x106⟩
       ·replace hc104 := not_true hc104
        refine WL_run rfl (yield_of rfl (congrArg Value.bool hc104)) rfl (Exec.load_box_agg (ds := [Value.int .i64 (x107.From), Value.int .i64 (x107.Label), Value.int .i64 (x107.To)]) (hS125) A53 rfl rfl rfl ?_)
        refine WL_run rfl (yield_of rfl (congrArg Value.bool hc104)) rfl (Exec.field F53_0 rfl p142 rfl ?_)
        refine WL_run rfl (yield_of rfl (congrArg Value.bool hc104)) rfl (Exec.load_box ((hS125).f2) A3 rfl rfl rfl ?_)
        refine WL_run rfl (yield_of rfl (congrArg Value.bool hc104)) rfl (Exec.move (v := Value.int .i64 (b100)) rfl p143 ?_)
        refine WL_run rfl (yield_of rfl (congrArg Value.bool hc104)) rfl (Exec.field F53_2 rfl p142 rfl ?_)
        refine WL_run rfl (yield_of rfl (congrArg Value.bool hc104)) rfl (Exec.load_box ((hS125).f2) A3 rfl rfl rfl ?_)
        refine WL_run rfl (yield_of rfl (congrArg Value.bool hc104)) rfl (Exec.build rfl (parts_cons (c := [Value.int .i64 (x102.From)]) (cells_of rfl rfl) (parts_cons (c := [Value.int .i64 (b100)]) (cells_of rfl rfl) (parts_cons (c := [Value.int .i64 (x102.To)]) (cells_of rfl rfl) parts_nil))) (v := Value.agg #[Value.int .i64 (x102.From), Value.int .i64 (b100), Value.int .i64 (x102.To)]) (fun _ => by kernel_rfl) ?_)
        refine WL_run rfl (yield_of rfl (congrArg Value.bool hc104)) rfl (Exec.ints_eql (xs := [x107.From, x107.Label, x107.To]) (ys := [x102.From, b100, x102.To]) IS53 rfl rfl rfl rfl rfl rfl rfl ?_)
        refine WL_step rfl rfl (Exec.pick_f (v := Value.bool (eqs [x107.From, x107.Label, x107.To] [x102.From, b100, x102.To])) rfl (congrArg Value.bool hc104) rfl ?_)
        refine WL_step rfl rfl (Exec.assign (v := Value.bool (eqs [x107.From, x107.Label, x107.To] [x102.From, b100, x102.To])) rfl rfl ?_)
        refine WL_nil (at_normal ?_)
        have hS129 := (hS125).drop
        have hS130 := (hS129).f1
        have hS131 := (hS130).f1
        exact ⟨s112, (PHeap.le_refl _), hS131, p139, p140, p141, p142, p143, (congrArg Value.bool (or_f hc104)).symm, p145, p146, p147, p148, p149, x106⟩
      ·intro f105 w112 hM101
       obtain ⟨s114, l105, hS132, p150, p151, p152, p153, p154, p155, p156, p157, p158, p159, p160, p161⟩ := hM101
       refine (ib_normal (at_normal ?_))
       refine W_region ?_
       refine WL_step rfl rfl (Exec.add rfl p161 rfl ?_)
       refine WL_step rfl rfl (Exec.move (v := Value.int .i64 (IntKind.i64.wrap ((i102 : Int) + 1))) rfl rfl ?_)
       refine WL_nil (at_normal ?_)
       have e105 := Option.some.inj hm102
       subst s111
       have hS133 := (hS132).f1
       have hS134 := (hS133).f1
       exact ⟨s114, (PHeap.le.trans l104 l105), hS134, p150, p151, p152, p153, p154, p155, p156, p157, p158, p159, p160, (Eq.trans rfl (wrap_up hi102 (SliceRep.le (a102.mono l100))))⟩
     ·intro f106 w113 hI104
      obtain ⟨s115, l106, hS135, p162, p163, p164, p165, p166, p167, p168, p169, p170, p171, p172, x108⟩ := hI104
      refine W_seq ?_
      refine W_region ?_
      refine WL_step rfl rfl (Exec.lss rfl x108 p172 ?_)
      refine WL_nil (at_normal ?_)
      refine W_seq ?_
      refine W_false (congrArg Value.bool (decide_eq_false (by omega))) ?_
      refine W_exit (at_exit (at_exit (ib_here (at_normal ?_))))
      refine W_seq ?_
      refine W_region ?_
      refine WL_step rfl rfl (Exec.move (v := Value.bool (there101)) rfl p167 ?_)
      refine WL_step rfl rfl (Exec.not rfl rfl ?_)
      refine WL_nil (at_normal ?_)
      rcases ite_some hm100 with ⟨hc105, hm100⟩ | ⟨hc105, hm100⟩
      ·refine W_cond_t rfl hc105 ?_
       refine W_seq ?_
       refine W_region ?_
       refine WL_step rfl rfl (Exec.assign (v := Value.bool (false)) rfl rfl ?_)
       refine WL_nil (at_normal ?_)
       refine W_ret (ib_ret (at_ret (at_ret (ib_ret (at_ret (at_ret ?_))))))
       have e106 := Option.some.inj hm100
       subst c101
       have hq101 := hr100 _ (hres100 (by intro _ h; cases h))
       have e107 := Option.some.inj hq101
       subst r
       refine ⟨_, ret1 rfl, ?_⟩
       have hS136 := (hS135).drop
       have hS137 := (hS136).drop
       exact ⟨s115, (PHeap.le.trans l100 l106), hS137, rfl⟩
      ·refine W_cond_f rfl hc105 ?_
       replace hc105 := not_true hc105
       refine W_skip (ib_normal (at_normal ?_))
       refine W_region ?_
       refine WL_step rfl rfl (Exec.add rfl p170 rfl ?_)
       refine WL_step rfl rfl (Exec.move (v := Value.int .i64 (IntKind.i64.wrap ((i100 : Int) + 1))) rfl rfl ?_)
       refine WL_nil (at_normal ?_)
       have e108 := Option.some.inj hm100
       subst c101
       have hS138 := ((hS135).f1).drop
       refine ⟨_, rfl, ?_⟩; exact ⟨s115, (PHeap.le.trans l100 l106), hS138, p162, p163, p164, p168, p169, (Eq.trans rfl (wrap_up hi100 (SliceRep.le a102)))⟩
  ·intro t101 f107 w114 hI105 hres101
   obtain ⟨s116, l107, hS139, p173, p174, p175, p176, p177, x109⟩ := hI105
   refine W_seq ?_
   refine W_region ?_
   refine WL_step rfl rfl (Exec.lss rfl x109 p177 ?_)
   refine WL_nil (at_normal ?_)
   refine W_seq ?_
   refine W_false (congrArg Value.bool (decide_eq_false (by omega))) ?_
   refine W_exit (at_exit (at_exit (ib_here (at_normal ?_))))
   refine ⟨_, .inl hres101, ?_⟩; exact ⟨s116, l107, hS139, p173, p174, p175, p176, p177⟩
 ·rintro f108 w115 ⟨t102, hc106, hM102⟩
  have hm := hc106.elim (hn100 _) (hb100 _)
  clear hc106
  obtain ⟨s117, l108, hS140, p178, p179, p180, p181, p182⟩ := hM102
  refine (at_normal ?_)
  refine W_seq ?_
  refine W_region ?_
  refine WL_step rfl rfl (Exec.assign (v := Value.bool (true)) rfl rfl ?_)
  refine WL_nil (at_normal ?_)
  refine W_ret ?_
  have e109 := Option.some.inj hm
  subst r
  refine ⟨_, ret1 rfl, ?_⟩
  have hS141 := (hS140).drop
  exact ⟨s117, l108, hS141, rfl⟩

theorem N20 : (Tryd.f20.name == "runtime.NumGoroutine") = false := by kernel_rfl

theorem ref45_Reduce_sim {w0 w : World} {s : PHeap} {H : List Res} {list100 : (List System)} {k100 : Int} {v100 : Value} {r : (List Int) × Int} (hm : ref45_Reduce_p list100 k100 = some r) (hS : St w0 s (H) w) (a100 : SliceRep encSystem s v100 list100) :
  Calls Tryd.prog 20 #[v100, Value.int .i64 (k100)] w fun e w' => ∃ v, e = .returned v ∧ ((un2 fun (y100 : (List Int)) (y101 : Int) => ∃ (s100 : PHeap) (v101 : Value), PHeap.le s s100 ∧ St w0 s100 (H) w' ∧ v = Value.tuple #[v101, Value.int .i64 (y101)] ∧ SliceRep (encInt .i64) s100 v101 y100) r) := by
 unfold ref45_Reduce_p at hm
 refine calls_of_W Tryd.func20 rfl rfl ?_
 refine W_seq ?_
 refine W_region ?_
 refine WL_step rfl rfl (Exec.assign (v := Value.slice none 0 0) rfl rfl ?_)
 refine WL_step rfl rfl (Exec.assign (v := Value.int .i64 (0)) rfl rfl ?_)
 refine WL_nil (at_normal ?_)
 refine W_seq ?_
 refine W_seq ?_
 refine W_region ?_
 refine WL_step rfl rfl (Exec.move (v := v100) rfl rfl ?_)
 refine WL_step rfl rfl (Exec.len_rep S40 rfl rfl a100 ?_)
 refine WL_step rfl rfl (Exec.move (v := Value.int .i64 (0)) rfl rfl ?_)
 refine WL_nil (at_normal ?_)
 obtain ⟨c100, hB100, hr100, hn100, hb100⟩ := ctl_some hm
 refine W_mid (M := fun f' w' => ∃ s', (c100 = .next s' ∨ c100 = .brk s') ∧ (fun (_ : Unit) => ∃ (s101 : PHeap) , PHeap.le s s101 ∧ St w0 s101 (H) w' ∧ f' 0 = v100 ∧ f' 1 = Value.int .i64 (k100) ∧ f' 17 = v100 ∧ f' 18 = Value.int .i64 ((list100.length : Int))) s') ?_ ?_
 ·refine W_block (W_forC (fun k' s' f' w' => (fun (_ : Unit) => ∃ (s102 : PHeap) , PHeap.le s s102 ∧ St w0 s102 (H) w' ∧ f' 0 = v100 ∧ f' 1 = Value.int .i64 (k100) ∧ f' 17 = v100 ∧ f' 18 = Value.int .i64 ((list100.length : Int)) ∧ f' 19 = Value.int .i64 (k' : Int)) s') hB100 ?_ ?_ ?_)
  ·exact ⟨s, (PHeap.le_refl _), hS, rfl, rfl, rfl, rfl, rfl⟩
  ·intro i100 t100 c101 f100 w100 hi100 hI100 hm100 hres100
   obtain ⟨s103, l100, hS100, p100, p101, p102, p103, x100⟩ := hI100
   refine W_seq ?_
   refine W_region ?_
   refine WL_step rfl rfl (Exec.lss rfl x100 p103 ?_)
   refine WL_nil (at_normal ?_)
   refine W_seq ?_
   refine W_true (congrArg Value.bool (decide_eq_true (by omega))) ?_
   refine W_skip (at_normal ?_)
   refine W_seq ?_
   refine W_block ?_
   refine W_seq ?_
   refine W_region ?_
   obtain ⟨x101, q100, hm100⟩ := bind_some hm100
   refine WL_step rfl rfl (Exec.index_rep S40 rfl p102 x100 (a100.mono l100) q100 ?_)
   intro b100 o100 a101
   refine WL_step rfl rfl (Exec.load_at (E := encSystem) hS100 A26 rfl rfl rfl a101 ?_)
   intro v102 q101
   obtain ⟨u100, u101, u102, rfl, r100, r101, r102⟩ := encSystem_val.1 q101
   refine WL_step rfl rfl (Exec.alloc (cs := [Value.int .i64 (0), Value.int .i64 (0), Value.slice none 0 0, Value.slice none 0 0, Value.slice none 0 0]) hS100 Z26 rfl rfl ?_)
   intro b101 w101 hS101
   refine WL_step rfl rfl (Exec.store_box (ds := [Value.int .i64 (x101.States), Value.int .i64 (x101.Init), u100, u101, u102]) (es := [Value.int .i64 (x101.States), Value.int .i64 (x101.Init), u100, u101, u102]) hS101 A26 rfl rfl rfl rfl (one_cons rfl (one_cons rfl (one_cons (r100).one (one_cons (r101).one (one_cons (r102).one one_nil))))) (Nat.le_of_ble_eq_true rfl) rfl ?_)
   intro w102 hS102
   refine WL_nil (at_normal ?_)
   refine W_seq ?_
   obtain ⟨z100, ht100, hm100⟩ := bind_some hm100
   refine W_mid (M := fun f' w' => (fun (z100 : Bool) => ∃ (s104 : PHeap) , PHeap.le s103 s104 ∧ St w0 s104 (H) w' ∧ f' 0 = v100 ∧ f' 1 = Value.int .i64 (k100) ∧ f' 17 = v100 ∧ f' 18 = Value.int .i64 ((list100.length : Int)) ∧ f' 19 = Value.int .i64 ((i100 : Int)) ∧ f' 35 = Value.bool (z100)) z100) ?_ ?_
   ·refine W_dl (n0 := 13) (.q 0 (.e 1 [] (.q 2 (.q 3 (.q 4 (.q 5 (.q 6 (.q 7 (.q 8 (.q 9 (.e 10 [] (.q 11 (.q 12 .done))))))))))))) hmix (by kernel_rfl) (by kernel_rfl) ?_
    have hS103 := hS102.drew
    refine DL_q rfl rfl (Exec.load_box_agg (ds := [Value.int .i64 (x101.States), Value.int .i64 (x101.Init), u100, u101, u102]) (hS103) A26 rfl rfl rfl ⟨rfl, ?_⟩)
    obtain ⟨y102, q102, ht100⟩ := bind_some ht100
    refine DL_e rfl rfl (Exec.call rfl rfl Tryd.func13 rfl N13 (args_cons rfl args_nil) ((ref44_Valid_sim q102 hS103 r100 r101 r102).mono ?_))
    rintro _ w103 ⟨_, rfl, ⟨s105, l101, hS104, rfl⟩⟩
    refine ⟨_, rfl, ?_⟩
    refine ⟨ag_nil, ?_⟩
    refine DL_q rfl rfl (Exec.not rfl rfl ⟨rfl, ?_⟩)
    refine DL_q rfl rfl (Exec.move (v := Value.bool (!y102)) rfl rfl ⟨rfl, ?_⟩)
    rcases ite_some ht100 with ⟨hc100, ht100⟩ | ⟨hc100, ht100⟩
    ·refine DL_qp rfl rfl (yield_of rfl (congrArg Value.bool hc100)) rfl ?_
     refine DL_qp rfl rfl (yield_of rfl (congrArg Value.bool hc100)) rfl ?_
     refine DL_qp rfl rfl (yield_of rfl (congrArg Value.bool hc100)) rfl ?_
     refine DL_qp rfl rfl (yield_of rfl (congrArg Value.bool hc100)) rfl ?_
     refine DL_qp rfl rfl (yield_of rfl (congrArg Value.bool hc100)) rfl ?_
     refine DL_qp rfl rfl (yield_of rfl (congrArg Value.bool hc100)) rfl ?_
     refine DL_ep rfl rfl (yield_of rfl (congrArg Value.bool hc100)) rfl ?_
     refine DL_qp rfl rfl (yield_of rfl (congrArg Value.bool hc100)) rfl ?_
     refine DL_q rfl rfl (Exec.pick_t (v := Value.bool (true)) rfl (congrArg Value.bool hc100) rfl ⟨rfl, ?_⟩)
     refine DL_done ?_
     refine WL_nil (at_normal ?_)
     have e100 := Option.some.inj ht100
     subst z100
     have hS105 := (hS104).drop
     exact ⟨s105, l101, hS105, p100, p101, p102, p103, x100, rfl⟩
    ·replace hc100 := not_true hc100
     refine DL_qg rfl rfl (yield_of rfl (congrArg Value.bool hc100)) (Exec.field F26_2 rfl rfl rfl ⟨rfl, ?_⟩)
     refine DL_qg rfl rfl (yield_of rfl (congrArg Value.bool hc100)) (Exec.load_box (hS104) A22 rfl rfl rfl ⟨rfl, ?_⟩)
     refine DL_qg rfl rfl (yield_of rfl (congrArg Value.bool hc100)) (Exec.move (v := v100) rfl p100 ⟨rfl, ?_⟩)
     obtain ⟨x102, q103, ht100⟩ := bind_some ht100
     refine DL_qg rfl rfl (yield_of rfl (congrArg Value.bool hc100)) (Exec.index_repE S40 rfl rfl rfl (a100.mono (PHeap.le.trans l100 l101)) q103 ?_)
     intro b102 o101 a102 e101
     refine ⟨rfl, ?_⟩
     refine DL_qg rfl rfl (yield_of rfl (congrArg Value.bool hc100)) (Exec.field F26_2 rfl rfl rfl ⟨rfl, ?_⟩)
     refine DL_qg rfl rfl (yield_of rfl (congrArg Value.bool hc100)) (Exec.load_at (E := (encSlice (encInt .i64))) hS104 A22 rfl rfl rfl (a102.sub (Sub.iso (Sub.snd (Sub.snd (Sub.fst (Sub.refl _)) rfl) rfl)) rfl) ?_)
     intro v103 q104
     have r103 := encSlice_val.1 q104
     refine ⟨rfl, ?_⟩
     obtain ⟨y103, q105, ht100⟩ := bind_some ht100
     refine DL_eg rfl rfl (yield_of rfl (congrArg Value.bool hc100)) (Exec.call rfl rfl Tryd.func15 rfl N15 (args_cons rfl (args_cons rfl args_nil)) ((base_Ints_sim q105 hS104 (r100.mono l101) r103).mono ?_))
     rintro _ w104 ⟨_, rfl, ⟨s106, l102, hS106, rfl⟩⟩
     refine ⟨_, rfl, ?_⟩
     refine ⟨ag_nil, ?_⟩
     refine DL_qg rfl rfl (yield_of rfl (congrArg Value.bool hc100)) (Exec.not rfl rfl ⟨rfl, ?_⟩)
     refine DL_q rfl rfl (Exec.pick_f (v := Value.bool (!y103)) rfl (congrArg Value.bool hc100) rfl ⟨rfl, ?_⟩)
     refine DL_done ?_
     refine WL_nil (at_normal ?_)
     have e102 := Option.some.inj ht100
     subst z100
     have hS107 := (hS106).drop
     exact ⟨s106, (PHeap.le.trans l101 l102), hS107, p100, p101, p102, p103, x100, rfl⟩
   ·intro f101 w105 hM100
    obtain ⟨s107, l103, hS108, p104, p105, p106, p107, p108, p109⟩ := hM100
    refine (at_normal ?_)
    rcases ite_some hm100 with ⟨hc101, hm100⟩ | ⟨hc101, hm100⟩
    ·refine W_cond_t p109 hc101 ?_
     refine W_seq ?_
     refine W_region ?_
     refine WL_step rfl rfl (Exec.assign (v := Value.slice none 0 0) rfl rfl ?_)
     refine WL_step rfl rfl (Exec.assign (v := Value.int .i64 (2)) rfl rfl ?_)
     refine WL_nil (at_normal ?_)
     refine W_ret (ib_ret (at_ret (at_ret (ib_ret (at_ret (at_ret ?_))))))
     have e103 := Option.some.inj hm100
     subst c101
     have hq100 := hr100 _ (hres100 (by intro _ h; cases h))
     have e104 := Option.some.inj hq100
     subst r
     refine ⟨_, ret2 rfl, ?_⟩
     exact ⟨s107, (Value.slice none 0 0), (PHeap.le.trans l100 l103), hS108, (tup2 rfl rfl), (SliceRep.nil _ _)⟩
    ·refine W_cond_f p109 hc101 ?_
     replace hc101 := not_true hc101
     refine W_skip (ib_normal (at_normal ?_))
     refine W_region ?_
     refine WL_step rfl rfl (Exec.add rfl p108 rfl ?_)
     refine WL_step rfl rfl (Exec.move (v := Value.int .i64 (IntKind.i64.wrap ((i100 : Int) + 1))) rfl rfl ?_)
     refine WL_nil (at_normal ?_)
     have e105 := Option.some.inj hm100
     subst c101
     refine ⟨_, rfl, ?_⟩; exact ⟨s107, (PHeap.le.trans l100 l103), hS108, p104, p105, p106, p107, (Eq.trans rfl (wrap_up hi100 (SliceRep.le a100)))⟩
  ·intro t101 f102 w106 hI101 hres101
   obtain ⟨s108, l104, hS109, p110, p111, p112, p113, x103⟩ := hI101
   refine W_seq ?_
   refine W_region ?_
   refine WL_step rfl rfl (Exec.lss rfl x103 p113 ?_)
   refine WL_nil (at_normal ?_)
   refine W_seq ?_
   refine W_false (congrArg Value.bool (decide_eq_false (by omega))) ?_
   refine W_exit (at_exit (at_exit (ib_here (at_normal ?_))))
   refine ⟨_, .inl hres101, ?_⟩; exact ⟨s108, l104, hS109, p110, p111, p112, p113⟩
 ·rintro f103 w107 ⟨t102, hc102, hM101⟩
  have hm := hc102.elim (hn100 _) (hb100 _)
  clear hc102
  obtain ⟨s109, l105, hS110, p114, p115, p116, p117⟩ := hM101
  refine (at_normal ?_)
  refine W_seq ?_
  refine W_seq ?_
  refine W_mid (M := fun f' w' => ∃ (s110 : PHeap) , PHeap.le s109 s110 ∧ St w0 s110 (H) w' ∧ f' 0 = v100 ∧ f' 1 = Value.int .i64 (k100) ∧ f' 44 = Value.bool (((decide (k100 < 0)) || decide ((list100.length : Int) ≤ k100)))) ?_ ?_
  ·refine W_region ?_
   refine WL_step rfl rfl (Exec.move (v := Value.int .i64 (k100)) rfl p115 ?_)
   refine WL_step rfl rfl (Exec.lss rfl rfl rfl ?_)
   refine WL_step rfl rfl (Exec.move (v := Value.bool (decide (k100 < 0))) rfl rfl ?_)
   by_cases hc103 : (decide (k100 < 0)) = true
   ·refine WL_pass rfl (yield_of rfl (congrArg Value.bool hc103)) rfl rfl ?_
    refine WL_pass rfl (yield_of rfl (congrArg Value.bool hc103)) rfl rfl ?_
    refine WL_pass rfl (yield_of rfl (congrArg Value.bool hc103)) rfl rfl ?_
    refine WL_pass rfl (yield_of rfl (congrArg Value.bool hc103)) rfl rfl ?_
    refine WL_step rfl rfl (Exec.pick_t (v := Value.bool (true)) rfl (congrArg Value.bool hc103) rfl ?_)
    refine WL_nil (at_normal ?_)
    exact ⟨s109, (PHeap.le_refl _), hS110, p114, p115, (congrArg Value.bool (or_t hc103)).symm⟩
   ·replace hc103 := not_true hc103
    refine WL_run rfl (yield_of rfl (congrArg Value.bool hc103)) rfl (Exec.move (v := Value.int .i64 (k100)) rfl p115 ?_)
    refine WL_run rfl (yield_of rfl (congrArg Value.bool hc103)) rfl (Exec.move (v := v100) rfl p114 ?_)
    refine WL_run rfl (yield_of rfl (congrArg Value.bool hc103)) rfl (Exec.len_rep S40 rfl rfl (a100.mono l105) ?_)
    refine WL_run rfl (yield_of rfl (congrArg Value.bool hc103)) rfl (Exec.geq rfl rfl rfl ?_)
    refine WL_step rfl rfl (Exec.pick_f (v := Value.bool (decide ((list100.length : Int) ≤ k100))) rfl (congrArg Value.bool hc103) rfl ?_)
    refine WL_nil (at_normal ?_)
    exact ⟨s109, (PHeap.le_refl _), hS110, p114, p115, (congrArg Value.bool (or_f hc103)).symm⟩
  ·intro f104 w108 hM102
   obtain ⟨s111, l106, hS111, p118, p119, p120⟩ := hM102
   refine (at_normal ?_)
   rcases ite_some hm with ⟨hc104, hm⟩ | ⟨hc104, hm⟩
   ·refine W_cond_t p120 hc104 ?_
    refine W_seq ?_
    refine W_region ?_
    refine WL_step rfl rfl (Exec.assign (v := Value.slice none 0 0) rfl rfl ?_)
    refine WL_step rfl rfl (Exec.assign (v := Value.int .i64 (1)) rfl rfl ?_)
    refine WL_nil (at_normal ?_)
    refine W_ret (at_ret ?_)
    have e106 := Option.some.inj hm
    subst r
    refine ⟨_, ret2 rfl, ?_⟩
    exact ⟨s111, (Value.slice none 0 0), (PHeap.le.trans l105 l106), hS111, (tup2 rfl rfl), (SliceRep.nil _ _)⟩
   ·refine W_cond_f p120 hc104 ?_
    replace hc104 := not_true hc104
    refine W_skip (at_normal ?_)
    refine W_seq ?_
    refine W_region ?_
    refine WL_step rfl rfl (Exec.assign (v := Value.slice none 0 0) rfl rfl ?_)
    refine WL_nil (at_normal ?_)
    refine W_seq ?_
    refine W_region ?_
    refine WL_step rfl rfl (Exec.assign (v := Value.int .i64 (0)) rfl rfl ?_)
    refine WL_nil (at_normal ?_)
    refine W_seq ?_
    refine W_seq ?_
    refine W_region ?_
    refine WL_step rfl rfl (Exec.move (v := v100) rfl p118 ?_)
    obtain ⟨x104, q106, hm⟩ := bind_some hm
    refine WL_step rfl rfl (Exec.index_rep S40 rfl rfl rfl (a100.mono (PHeap.le.trans l105 l106)) q106 ?_)
    intro b103 o102 a103
    refine WL_step rfl rfl (Exec.field F26_2 rfl rfl rfl ?_)
    refine WL_step rfl rfl (Exec.load_at (E := (encSlice (encInt .i64))) hS111 A22 rfl rfl rfl (a103.sub (Sub.iso (Sub.snd (Sub.snd (Sub.fst (Sub.refl _)) rfl) rfl)) rfl) ?_)
    intro v104 q107
    have r104 := encSlice_val.1 q107
    refine WL_step rfl rfl (Exec.len_rep S22 rfl rfl r104 ?_)
    refine WL_step rfl rfl (Exec.move (v := Value.int .i64 (0)) rfl rfl ?_)
    refine WL_nil (at_normal ?_)
    obtain ⟨t103, hB101, hm⟩ := bind_some hm
    refine W_block (W_forS (fun k' s' f' w' => (un2 fun (out100 : (List Int)) (next100 : Int) => ∃ (s112 : PHeap) (v105 : Value), PHeap.le s111 s112 ∧ St w0 s112 (Res.arr (encInt .i64) 3 v105 out100 :: H) w' ∧ f' 0 = v100 ∧ f' 1 = Value.int .i64 (k100) ∧ f' 8 = v105 ∧ f' 9 = Value.int .i64 (next100) ∧ f' 48 = v104 ∧ f' 49 = Value.int .i64 ((x104.Costs.length : Int)) ∧ f' 50 = Value.int .i64 (k' : Int)) s') hB101 ?_ ?_ ?_)
    ·have hS112 := hS111.nilArr (encInt .i64) 3
     exact ⟨s111, (Value.slice none 0 0), (PHeap.le_refl _), hS112, p118, p119, rfl, rfl, rfl, rfl, rfl⟩
    ·intro i101 t104 s113 f105 w109 hi101 hI102 hm101
     obtain ⟨out100, next100⟩ := t104
     replace hm101 := un2_eq hm101
     obtain ⟨s114, v105, l107, hS113, p121, p122, p123, p124, p125, p126, x105⟩ := hI102
     refine W_seq ?_
     refine W_region ?_
     refine WL_step rfl rfl (Exec.lss rfl x105 p126 ?_)
     refine WL_nil (at_normal ?_)
     refine W_seq ?_
     refine W_true (congrArg Value.bool (decide_eq_true (by omega))) ?_
     refine W_skip (at_normal ?_)
     refine W_seq ?_
     refine W_block ?_
     refine W_seq ?_
     refine W_region ?_
     refine WL_step rfl rfl (Exec.move (v := Value.int .i64 ((i101 : Int))) rfl x105 ?_)
     obtain ⟨x106, q108, hm101⟩ := bind_some hm101
     refine WL_step rfl rfl (Exec.index_rep S22 rfl p125 x105 (r104.mono l107) q108 ?_)
     intro b104 o103 a104
     refine WL_step rfl rfl (Exec.load_at (E := (encInt .i64)) hS113 A3 rfl rfl rfl a104 ?_)
     intro v106 q109
     obtain rfl := encInt_val.1 q109
     refine WL_step rfl rfl (Exec.assign (v := Value.int .i64 ((i101 : Int))) rfl rfl ?_)
     refine WL_step rfl rfl (Exec.assign (v := Value.int .i64 (x106)) rfl rfl ?_)
     refine WL_nil (at_normal ?_)
     refine W_seq ?_
     refine W_region ?_
     refine WL_step rfl rfl (Exec.assign (v := Value.int .i64 ((-1))) rfl rfl ?_)
     refine WL_nil (at_normal ?_)
     refine W_seq ?_
     refine W_seq ?_
     refine W_region ?_
     refine WL_step rfl rfl (Exec.move (v := Value.int .i64 ((i101 : Int))) rfl rfl ?_)
     refine WL_step rfl rfl (Exec.move (v := Value.int .i64 (0)) rfl rfl ?_)
     refine WL_nil (at_normal ?_)
     obtain ⟨u103, q110, hm101⟩ := bind_some hm101
     obtain ⟨class100, hB102, hm101⟩ := bind_some hm101
     refine W_block (W_forS (fun k' s' f' w' => (fun (class100 : Int) => ∃ (s115 : PHeap) , PHeap.le s114 s115 ∧ St w0 s115 (Res.arr (encInt .i64) 3 v105 out100 :: H) w' ∧ f' 0 = v100 ∧ f' 1 = Value.int .i64 (k100) ∧ f' 8 = v105 ∧ f' 9 = Value.int .i64 (next100) ∧ f' 10 = Value.int .i64 ((i101 : Int)) ∧ f' 11 = Value.int .i64 (x106) ∧ f' 12 = Value.int .i64 (class100) ∧ f' 48 = v104 ∧ f' 49 = Value.int .i64 ((x104.Costs.length : Int)) ∧ f' 50 = Value.int .i64 ((i101 : Int)) ∧ f' 55 = Value.int .i64 ((i101 : Int)) ∧ f' 56 = Value.int .i64 (k' : Int)) s') hB102 ?_ ?_ ?_)
     ·exact ⟨s114, (PHeap.le_refl _), hS113, p121, p122, p123, p124, rfl, rfl, rfl, p125, p126, x105, rfl, rfl⟩
     ·intro i102 class100 s116 f106 w110 hi102 hI103 hm102
      obtain ⟨s117, l108, hS114, p127, p128, p129, p130, p131, p132, p133, p134, p135, p136, p137, x107⟩ := hI103
      refine W_seq ?_
      refine W_region ?_
      refine WL_step rfl rfl (Exec.lss rfl x107 p137 ?_)
      refine WL_nil (at_normal ?_)
      refine W_seq ?_
      refine W_true (congrArg Value.bool (decide_eq_true (by omega))) ?_
      refine W_skip (at_normal ?_)
      refine W_seq ?_
      refine W_block ?_
      refine W_seq ?_
      refine W_region ?_
      refine WL_step rfl rfl (Exec.move (v := Value.int .i64 ((i102 : Int))) rfl x107 ?_)
      refine WL_step rfl rfl (Exec.assign (v := Value.int .i64 ((i102 : Int))) rfl rfl ?_)
      refine WL_nil (at_normal ?_)
      refine W_seq ?_
      refine W_region ?_
      refine WL_step rfl rfl (Exec.move (v := Value.int .i64 (x106)) rfl p132 ?_)
      refine WL_step rfl rfl (Exec.move (v := v100) rfl p127 ?_)
      refine WL_step rfl rfl (Exec.index_rep S40 rfl rfl rfl (a100.mono (PHeap.le.trans (PHeap.le.trans (PHeap.le.trans l105 l106) l107) l108)) q106 ?_)
      intro b105 o104 a105
      refine WL_step rfl rfl (Exec.field F26_2 rfl rfl rfl ?_)
      refine WL_step rfl rfl (Exec.load_at (E := (encSlice (encInt .i64))) hS114 A22 rfl rfl rfl (a105.sub (Sub.iso (Sub.snd (Sub.snd (Sub.fst (Sub.refl _)) rfl) rfl)) rfl) ?_)
      intro v107 q111
      have r105 := encSlice_val.1 q111
      refine WL_step rfl rfl (Exec.move (v := Value.int .i64 ((i102 : Int))) rfl rfl ?_)
      obtain ⟨x108, q112, hm102⟩ := bind_some hm102
      refine WL_step rfl rfl (Exec.index_rep S22 rfl rfl rfl r105 q112 ?_)
      intro b106 o105 a106
      refine WL_step rfl rfl (Exec.load_at (E := (encInt .i64)) hS114 A3 rfl rfl rfl a106 ?_)
      intro v108 q113
      obtain rfl := encInt_val.1 q113
      refine WL_step rfl rfl (Exec.eql rfl rfl rfl ?_)
      refine WL_step rfl rfl (Exec.assign (v := Value.bool (decide (x106 = x108))) rfl rfl ?_)
      refine WL_nil (at_normal ?_)
      refine W_seq ?_
      refine W_seq ?_
      refine W_region ?_
      refine WL_step rfl rfl (Exec.move (v := v100) rfl p127 ?_)
      refine WL_step rfl rfl (Exec.len_rep S40 rfl rfl (a100.mono (PHeap.le.trans (PHeap.le.trans (PHeap.le.trans l105 l106) l107) l108)) ?_)
      refine WL_step rfl rfl (Exec.move (v := Value.int .i64 (0)) rfl rfl ?_)
      refine WL_nil (at_normal ?_)
      obtain ⟨same100, hB103, hm102⟩ := bind_some hm102
      refine W_block (W_forS (fun k' s' f' w' => (fun (same100 : Bool) => ∃ (s118 : PHeap) , PHeap.le s117 s118 ∧ St w0 s118 (Res.arr (encInt .i64) 3 v105 out100 :: H) w' ∧ f' 0 = v100 ∧ f' 1 = Value.int .i64 (k100) ∧ f' 8 = v105 ∧ f' 9 = Value.int .i64 (next100) ∧ f' 10 = Value.int .i64 ((i101 : Int)) ∧ f' 11 = Value.int .i64 (x106) ∧ f' 12 = Value.int .i64 (class100) ∧ f' 13 = Value.int .i64 ((i102 : Int)) ∧ f' 14 = Value.bool (same100) ∧ f' 48 = v104 ∧ f' 49 = Value.int .i64 ((x104.Costs.length : Int)) ∧ f' 50 = Value.int .i64 ((i101 : Int)) ∧ f' 55 = Value.int .i64 ((i101 : Int)) ∧ f' 56 = Value.int .i64 ((i102 : Int)) ∧ f' 68 = v100 ∧ f' 69 = Value.int .i64 ((list100.length : Int)) ∧ f' 70 = Value.int .i64 (k' : Int)) s') hB103 ?_ ?_ ?_)
      ·exact ⟨s117, (PHeap.le_refl _), hS114, p127, p128, p129, p130, p131, p132, p133, rfl, rfl, p134, p135, p136, p137, x107, rfl, rfl, rfl⟩
      ·intro i103 same100 s119 f107 w111 hi103 hI104 hm103
       obtain ⟨s120, l109, hS115, p138, p139, p140, p141, p142, p143, p144, p145, p146, p147, p148, p149, p150, p151, p152, p153, x109⟩ := hI104
       refine W_seq ?_
       refine W_region ?_
       refine WL_step rfl rfl (Exec.lss rfl x109 p153 ?_)
       refine WL_nil (at_normal ?_)
       refine W_seq ?_
       refine W_true (congrArg Value.bool (decide_eq_true (by omega))) ?_
       refine W_skip (at_normal ?_)
       refine W_seq ?_
       refine W_block ?_
       refine W_seq ?_
       refine W_region ?_
       refine WL_step rfl rfl (Exec.move (v := Value.int .i64 ((i103 : Int))) rfl x109 ?_)
       obtain ⟨x110, q114, hm103⟩ := bind_some hm103
       refine WL_step rfl rfl (Exec.index_rep S40 rfl p152 x109 (a100.mono (PHeap.le.trans (PHeap.le.trans (PHeap.le.trans (PHeap.le.trans l105 l106) l107) l108) l109)) q114 ?_)
       intro b107 o106 a107
       refine WL_step rfl rfl (Exec.load_at (E := encSystem) hS115 A26 rfl rfl rfl a107 ?_)
       intro v109 q115
       obtain ⟨u104, u105, u106, rfl, r106, r107, r108⟩ := encSystem_val.1 q115
       refine WL_step rfl rfl (Exec.alloc (cs := [Value.int .i64 (0), Value.int .i64 (0), Value.slice none 0 0, Value.slice none 0 0, Value.slice none 0 0]) hS115 Z26 rfl rfl ?_)
       intro b108 w112 hS116
       refine WL_step rfl rfl (Exec.assign (v := Value.int .i64 ((i103 : Int))) rfl rfl ?_)
       refine WL_step rfl rfl (Exec.store_box (ds := [Value.int .i64 (x110.States), Value.int .i64 (x110.Init), u104, u105, u106]) (es := [Value.int .i64 (x110.States), Value.int .i64 (x110.Init), u104, u105, u106]) hS116 A26 rfl rfl rfl rfl (one_cons rfl (one_cons rfl (one_cons (r106).one (one_cons (r107).one (one_cons (r108).one one_nil))))) (Nat.le_of_ble_eq_true rfl) rfl ?_)
       intro w113 hS117
       refine WL_nil (at_normal ?_)
       obtain ⟨same101, ht101, hm103⟩ := bind_some hm103
       refine W_mid (M := fun f' w' => (fun (same101 : Bool) => ∃ (s121 : PHeap) , PHeap.le s120 s121 ∧ St w0 s121 (Res.arr (encInt .i64) 3 v105 out100 :: H) w' ∧ f' 0 = v100 ∧ f' 1 = Value.int .i64 (k100) ∧ f' 8 = v105 ∧ f' 9 = Value.int .i64 (next100) ∧ f' 10 = Value.int .i64 ((i101 : Int)) ∧ f' 11 = Value.int .i64 (x106) ∧ f' 12 = Value.int .i64 (class100) ∧ f' 13 = Value.int .i64 ((i102 : Int)) ∧ f' 14 = Value.bool (same101) ∧ f' 48 = v104 ∧ f' 49 = Value.int .i64 ((x104.Costs.length : Int)) ∧ f' 50 = Value.int .i64 ((i101 : Int)) ∧ f' 55 = Value.int .i64 ((i101 : Int)) ∧ f' 56 = Value.int .i64 ((i102 : Int)) ∧ f' 68 = v100 ∧ f' 69 = Value.int .i64 ((list100.length : Int)) ∧ f' 70 = Value.int .i64 ((i103 : Int))) same101) ?_ ?_
       ·refine W_region ?_
        refine WL_step rfl rfl (Exec.move (v := Value.bool (same100)) rfl p146 ?_)
        refine WL_step rfl rfl (Exec.move (v := Value.bool (same100)) rfl rfl ?_)
        rcases ite_some ht101 with ⟨hc105, ht101⟩ | ⟨hc105, ht101⟩
        ·refine WL_run rfl (yield_of rfl (congrArg Value.bool hc105)) rfl (Exec.move (v := Value.int .i64 ((i103 : Int))) rfl rfl ?_)
         refine WL_run rfl (yield_of rfl (congrArg Value.bool hc105)) rfl (Exec.move (v := Value.int .i64 (k100)) rfl p139 ?_)
         refine WL_run rfl (yield_of rfl (congrArg Value.bool hc105)) rfl (Exec.eql rfl rfl rfl ?_)
         refine WL_run rfl (yield_of rfl (congrArg Value.bool hc105)) rfl (Exec.move (v := Value.bool (decide ((i103 : Int) = k100))) rfl rfl ?_)
         rcases ite_some ht101 with ⟨hc106, ht101⟩ | ⟨hc106, ht101⟩
         ·refine WL_pass rfl (yield_of rfl (congrArg Value.bool hc106)) rfl rfl ?_
          refine WL_pass rfl (yield_of rfl (congrArg Value.bool hc106)) rfl rfl ?_
          refine WL_pass rfl (yield_of rfl (congrArg Value.bool hc106)) rfl rfl ?_
          refine WL_pass rfl (yield_of rfl (congrArg Value.bool hc106)) rfl rfl ?_
          refine WL_run rfl (yield_of rfl (congrArg Value.bool hc105)) rfl (Exec.pick_t (v := Value.bool (true)) rfl (congrArg Value.bool hc106) rfl ?_)
          refine WL_step rfl rfl (Exec.pick_t (v := Value.bool (true)) rfl (congrArg Value.bool hc105) rfl ?_)
          refine WL_step rfl rfl (Exec.assign (v := Value.bool (true)) rfl rfl ?_)
          refine WL_nil (at_normal ?_)
          have e107 := Option.some.inj ht101
          subst same101
          have hS118 := (hS117).drop
          exact ⟨s120, (PHeap.le_refl _), hS118, p138, p139, p140, p141, p142, p143, p144, p145, rfl, p147, p148, p149, p150, p151, p152, p153, x109⟩
         ·replace hc106 := not_true hc106
          refine WL_run rfl (yield_of rfl (congrArg Value.bool hc106)) rfl (Exec.load_box_agg (ds := [Value.int .i64 (x110.States), Value.int .i64 (x110.Init), u104, u105, u106]) (hS117) A26 rfl rfl rfl ?_)
          refine WL_run rfl (yield_of rfl (congrArg Value.bool hc106)) rfl (Exec.move (v := Value.int .i64 ((i101 : Int))) rfl p142 ?_)
          refine WL_run rfl (yield_of rfl (congrArg Value.bool hc106)) rfl (Exec.move (v := Value.int .i64 ((i102 : Int))) rfl p145 ?_)
          obtain ⟨y104, q116, ht101⟩ := bind_some ht101
          refine WL_run rfl (yield_of rfl (congrArg Value.bool hc106)) rfl (Exec.call rfl rfl Tryd.func43 rfl N43 (args_cons rfl (args_cons rfl (args_cons rfl args_nil))) ((ref45_alike_sim q116 hS117 r106 r107 r108).mono ?_))
          rintro _ w114 ⟨_, rfl, ⟨s122, l110, hS119, rfl⟩⟩
          refine ⟨_, rfl, ?_⟩
          refine WL_run rfl (yield_of rfl (congrArg Value.bool hc105)) rfl (Exec.pick_f (v := Value.bool (y104)) rfl (congrArg Value.bool hc106) rfl ?_)
          refine WL_step rfl rfl (Exec.pick_t (v := Value.bool (y104)) rfl (congrArg Value.bool hc105) rfl ?_)
          refine WL_step rfl rfl (Exec.assign (v := Value.bool (y104)) rfl rfl ?_)
          refine WL_nil (at_normal ?_)
          have e108 := Option.some.inj ht101
          subst same101
          have hS120 := (hS119).drop
          exact ⟨s122, l110, hS120, p138, p139, p140, p141, p142, p143, p144, p145, rfl, p147, p148, p149, p150, p151, p152, p153, x109⟩
        ·replace hc105 := not_true hc105
         refine WL_pass rfl (yield_of rfl (congrArg Value.bool hc105)) rfl rfl ?_
         refine WL_pass rfl (yield_of rfl (congrArg Value.bool hc105)) rfl rfl ?_
         refine WL_pass rfl (yield_of rfl (congrArg Value.bool hc105)) rfl rfl ?_
         refine WL_pass rfl (yield_of rfl (congrArg Value.bool hc105)) rfl rfl ?_
         refine WL_pass_none rfl (yield_undef rfl rfl) rfl ?_
         refine WL_pass_none rfl (yield_undef rfl rfl) rfl ?_
         refine WL_pass_none rfl (yield_undef rfl rfl) rfl ?_
         refine WL_pass_none rfl (yield_undef rfl rfl) rfl ?_
         refine WL_pass rfl (yield_of rfl (congrArg Value.bool hc105)) rfl rfl ?_
         refine WL_step rfl rfl (Exec.pick_f (v := Value.bool (false)) rfl (congrArg Value.bool hc105) rfl ?_)
         refine WL_step rfl rfl (Exec.assign (v := Value.bool (false)) rfl rfl ?_)
         refine WL_nil (at_normal ?_)
         have e109 := Option.some.inj ht101
         subst same101
         have hS121 := (hS117).drop
         exact ⟨s120, (PHeap.le_refl _), hS121, p138, p139, p140, p141, p142, p143, p144, p145, rfl, p147, p148, p149, p150, p151, p152, p153, x109⟩
       ·intro f108 w115 hM103
        obtain ⟨s123, l111, hS122, p154, p155, p156, p157, p158, p159, p160, p161, p162, p163, p164, p165, p166, p167, p168, p169, p170⟩ := hM103
        refine (ib_normal (at_normal ?_))
        refine W_region ?_
        refine WL_step rfl rfl (Exec.add rfl p170 rfl ?_)
        refine WL_step rfl rfl (Exec.move (v := Value.int .i64 (IntKind.i64.wrap ((i103 : Int) + 1))) rfl rfl ?_)
        refine WL_nil (at_normal ?_)
        have e110 := Option.some.inj hm103
        subst s119
        exact ⟨s123, (PHeap.le.trans l109 l111), hS122, p154, p155, p156, p157, p158, p159, p160, p161, p162, p163, p164, p165, p166, p167, p168, p169, (Eq.trans rfl (wrap_up hi103 (SliceRep.le (a100.mono (PHeap.le.trans (PHeap.le.trans (PHeap.le.trans l105 l106) l107) l108)))))⟩
      ·intro f109 w116 hI105
       obtain ⟨s124, l112, hS123, p171, p172, p173, p174, p175, p176, p177, p178, p179, p180, p181, p182, p183, p184, p185, p186, x111⟩ := hI105
       refine W_seq ?_
       refine W_region ?_
       refine WL_step rfl rfl (Exec.lss rfl x111 p186 ?_)
       refine WL_nil (at_normal ?_)
       refine W_seq ?_
       refine W_false (congrArg Value.bool (decide_eq_false (by omega))) ?_
       refine W_exit (at_exit (at_exit (ib_here (at_normal ?_))))
       refine W_seq ?_
       refine W_mid (M := fun f' w' => ∃ (s125 : PHeap) , PHeap.le s124 s125 ∧ St w0 s125 (Res.arr (encInt .i64) 3 v105 out100 :: H) w' ∧ f' 0 = v100 ∧ f' 1 = Value.int .i64 (k100) ∧ f' 8 = v105 ∧ f' 9 = Value.int .i64 (next100) ∧ f' 10 = Value.int .i64 ((i101 : Int)) ∧ f' 11 = Value.int .i64 (x106) ∧ f' 12 = Value.int .i64 (class100) ∧ f' 13 = Value.int .i64 ((i102 : Int)) ∧ f' 48 = v104 ∧ f' 49 = Value.int .i64 ((x104.Costs.length : Int)) ∧ f' 50 = Value.int .i64 ((i101 : Int)) ∧ f' 55 = Value.int .i64 ((i101 : Int)) ∧ f' 56 = Value.int .i64 ((i102 : Int)) ∧ f' 92 = Value.bool ((same100 && decide (class100 < 0)))) ?_ ?_
       ·refine W_region ?_
        refine WL_step rfl rfl (Exec.move (v := Value.bool (same100)) rfl p179 ?_)
        refine WL_step rfl rfl (Exec.move (v := Value.bool (same100)) rfl rfl ?_)
        by_cases hc107 : same100 = true
        ·refine WL_run rfl (yield_of rfl (congrArg Value.bool hc107)) rfl (Exec.move (v := Value.int .i64 (class100)) rfl p177 ?_)
         refine WL_run rfl (yield_of rfl (congrArg Value.bool hc107)) rfl (Exec.lss rfl rfl rfl ?_)
         refine WL_step rfl rfl (Exec.pick_t (v := Value.bool (decide (class100 < 0))) rfl (congrArg Value.bool hc107) rfl ?_)
         refine WL_nil (at_normal ?_)
         exact ⟨s124, (PHeap.le_refl _), hS123, p171, p172, p173, p174, p175, p176, p177, p178, p180, p181, p182, p183, p184, (congrArg Value.bool (and_t hc107)).symm⟩
        ·replace hc107 := not_true hc107
         refine WL_pass rfl (yield_of rfl (congrArg Value.bool hc107)) rfl rfl ?_
         refine WL_pass rfl (yield_of rfl (congrArg Value.bool hc107)) rfl rfl ?_
         refine WL_step rfl rfl (Exec.pick_f (v := Value.bool (false)) rfl (congrArg Value.bool hc107) rfl ?_)
         refine WL_nil (at_normal ?_)
         exact ⟨s124, (PHeap.le_refl _), hS123, p171, p172, p173, p174, p175, p176, p177, p178, p180, p181, p182, p183, p184, (congrArg Value.bool (and_f hc107)).symm⟩
       ·intro f110 w117 hM104
        obtain ⟨s126, l113, hS124, p187, p188, p189, p190, p191, p192, p193, p194, p195, p196, p197, p198, p199, p200⟩ := hM104
        refine (at_normal ?_)
        obtain ⟨class101, ht102, hm102⟩ := bind_some hm102
        refine W_mid (M := fun f' w' => (fun (class101 : Int) => ∃ (s127 : PHeap) , PHeap.le s126 s127 ∧ St w0 s127 (Res.arr (encInt .i64) 3 v105 out100 :: H) w' ∧ f' 0 = v100 ∧ f' 1 = Value.int .i64 (k100) ∧ f' 8 = v105 ∧ f' 9 = Value.int .i64 (next100) ∧ f' 10 = Value.int .i64 ((i101 : Int)) ∧ f' 11 = Value.int .i64 (x106) ∧ f' 12 = Value.int .i64 (class101) ∧ f' 48 = v104 ∧ f' 49 = Value.int .i64 ((x104.Costs.length : Int)) ∧ f' 50 = Value.int .i64 ((i101 : Int)) ∧ f' 55 = Value.int .i64 ((i101 : Int)) ∧ f' 56 = Value.int .i64 ((i102 : Int))) class101) ?_ ?_
        ·rcases ite_some ht102 with ⟨hc108, ht102⟩ | ⟨hc108, ht102⟩
         ·refine W_cond_t p200 hc108 ?_
          refine W_region ?_
          refine WL_step rfl rfl (Exec.move (v := v105) rfl p189 ?_)
          refine WL_step rfl rfl (Exec.move (v := Value.int .i64 ((i102 : Int))) rfl p194 ?_)
          obtain ⟨x112, q117, ht102⟩ := bind_some ht102
          obtain ⟨g100, c102, e111⟩ := (hS124).arr_at q117
          refine WL_step rfl rfl (Exec.index_slice S22 rfl e111 rfl (idx_some q117).1 (idx_some q117).2.1 ?_)
          refine WL_step rfl rfl (Exec.load_arr (F := (encInt .i64)) (hS124) e111 A3 rfl rfl rfl q117 (Sub.refl _) ?_)
          intro v110 q118
          obtain rfl := encInt_val.1 q118
          refine WL_step rfl rfl (Exec.assign (v := Value.int .i64 (x112)) rfl rfl ?_)
          refine WL_nil (at_normal ?_)
          have e112 := Option.some.inj ht102
          subst class101
          exact ⟨s126, (PHeap.le_refl _), hS124, p187, p188, p189, p190, p191, p192, rfl, p195, p196, p197, p198, p199⟩
         ·refine W_cond_f p200 hc108 ?_
          replace hc108 := not_true hc108
          refine W_skip (at_normal ?_)
          have e113 := Option.some.inj ht102
          subst class101
          exact ⟨s126, (PHeap.le_refl _), hS124, p187, p188, p189, p190, p191, p192, p193, p195, p196, p197, p198, p199⟩
        ·intro f111 w118 hM105
         obtain ⟨s128, l114, hS125, p201, p202, p203, p204, p205, p206, p207, p208, p209, p210, p211, p212⟩ := hM105
         refine (ib_normal (at_normal ?_))
         refine W_region ?_
         refine WL_step rfl rfl (Exec.add rfl p212 rfl ?_)
         refine WL_step rfl rfl (Exec.move (v := Value.int .i64 (IntKind.i64.wrap ((i102 : Int) + 1))) rfl rfl ?_)
         refine WL_nil (at_normal ?_)
         have e114 := Option.some.inj hm102
         subst s116
         exact ⟨s128, (PHeap.le.trans (PHeap.le.trans (PHeap.le.trans l108 l112) l113) l114), hS125, p201, p202, p203, p204, p205, p206, p207, p208, p209, p210, p211, (Eq.trans rfl (wrap_up hi102 (by have h := must_some q110; simp at h; simp only [maxLen]; omega)))⟩
     ·intro f112 w119 hI106
      obtain ⟨s129, l115, hS126, p213, p214, p215, p216, p217, p218, p219, p220, p221, p222, p223, x113⟩ := hI106
      refine W_seq ?_
      refine W_region ?_
      refine WL_step rfl rfl (Exec.lss rfl x113 p223 ?_)
      refine WL_nil (at_normal ?_)
      refine W_seq ?_
      refine W_false (congrArg Value.bool (decide_eq_false (by omega))) ?_
      refine W_exit (at_exit (at_exit (ib_here (at_normal ?_))))
      refine W_seq ?_
      refine W_seq ?_
      refine W_region ?_
      refine WL_step rfl rfl (Exec.move (v := Value.int .i64 (class100)) rfl p219 ?_)
      refine WL_step rfl rfl (Exec.lss rfl rfl rfl ?_)
      refine WL_nil (at_normal ?_)
      obtain ⟨t105, ht103, hm101⟩ := bind_some hm101
      refine W_mid (M := fun f' w' => (un2 fun (next101 : Int) (class102 : Int) => ∃ (s130 : PHeap) , PHeap.le s129 s130 ∧ St w0 s130 (Res.arr (encInt .i64) 3 v105 out100 :: H) w' ∧ f' 0 = v100 ∧ f' 1 = Value.int .i64 (k100) ∧ f' 8 = v105 ∧ f' 9 = Value.int .i64 (next101) ∧ f' 12 = Value.int .i64 (class102) ∧ f' 48 = v104 ∧ f' 49 = Value.int .i64 ((x104.Costs.length : Int)) ∧ f' 50 = Value.int .i64 ((i101 : Int))) t105) ?_ ?_
      ·rcases ite_some ht103 with ⟨hc109, ht103⟩ | ⟨hc109, ht103⟩
       ·refine W_cond_t rfl hc109 ?_
        refine W_seq ?_
        refine W_region ?_
        refine WL_step rfl rfl (Exec.move (v := Value.int .i64 (next100)) rfl p216 ?_)
        refine WL_step rfl rfl (Exec.assign (v := Value.int .i64 (next100)) rfl rfl ?_)
        refine WL_nil (at_normal ?_)
        refine W_region ?_
        refine WL_step rfl rfl (Exec.move (v := Value.int .i64 (next100)) rfl p216 ?_)
        refine WL_step rfl rfl (Exec.add rfl rfl rfl ?_)
        refine WL_step rfl rfl (Exec.assign (v := Value.int .i64 (IntKind.i64.wrap (next100 + 1))) rfl rfl ?_)
        refine WL_nil (at_normal ?_)
        have e115 := Option.some.inj ht103
        subst t105
        exact ⟨s129, (PHeap.le_refl _), hS126, p213, p214, p215, rfl, rfl, p220, p221, p222⟩
       ·refine W_cond_f rfl hc109 ?_
        replace hc109 := not_true hc109
        refine W_skip (at_normal ?_)
        have e116 := Option.some.inj ht103
        subst t105
        exact ⟨s129, (PHeap.le_refl _), hS126, p213, p214, p215, p216, p219, p220, p221, p222⟩
      ·intro f113 w120 hM106
       obtain ⟨next101, class102⟩ := t105
       replace hm101 := un2_eq hm101
       obtain ⟨s131, l116, hS127, p224, p225, p226, p227, p228, p229, p230, p231⟩ := hM106
       refine (at_normal ?_)
       refine W_region ?_
       refine WL_step rfl rfl (Exec.move (v := v105) rfl p226 ?_)
       refine WL_step rfl rfl (Exec.move (v := Value.int .i64 (class102)) rfl p228 ?_)
       refine WL_step rfl rfl (Exec.buildSlice (Te := 3) (cs := [Value.int .i64 (class102)]) hS127 rfl (parts_cons (c := [Value.int .i64 (class102)]) (cells_of rfl rfl) parts_nil) (fun _ => by kernel_rfl) ?_)
       intro b109 w121 hS128
       obtain ⟨l117, q119, hm101⟩ := bind_some hm101
       have hS129 := (hS128).f1
       refine WL_step rfl rfl (Exec.append_box (E := (encInt .i64)) (ys := [class102]) hS129 S22 Z3 rfl (by decide) rfl rfl rfl rfl ⟨[Value.int .i64 (class102)], [], rfl, rfl, rfl⟩ rfl q119 ?_)
       intro v111 w122 hS130
       refine WL_step rfl rfl (Exec.assign (v := v111) rfl rfl ?_)
       refine WL_nil (ib_normal (at_normal ?_))
       refine W_region ?_
       refine WL_step rfl rfl (Exec.add rfl p231 rfl ?_)
       refine WL_step rfl rfl (Exec.move (v := Value.int .i64 (IntKind.i64.wrap ((i101 : Int) + 1))) rfl rfl ?_)
       refine WL_nil (at_normal ?_)
       have e117 := Option.some.inj hm101
       subst s113
       exact ⟨s131, v111, (PHeap.le.trans (PHeap.le.trans l107 l115) l116), hS130, p224, p225, rfl, p227, p229, p230, (Eq.trans rfl (wrap_up hi101 (SliceRep.le r104)))⟩
    ·intro f114 w123 hI107
     obtain ⟨out100, next100⟩ := t103
     replace hm := un2_eq hm
     obtain ⟨s132, v105, l118, hS131, p232, p233, p234, p235, p236, p237, x114⟩ := hI107
     refine W_seq ?_
     refine W_region ?_
     refine WL_step rfl rfl (Exec.lss rfl x114 p237 ?_)
     refine WL_nil (at_normal ?_)
     refine W_seq ?_
     refine W_false (congrArg Value.bool (decide_eq_false (by omega))) ?_
     refine W_exit (at_exit (at_exit (ib_here (at_normal ?_))))
     refine W_seq ?_
     refine W_region ?_
     refine WL_step rfl rfl (Exec.move (v := v105) rfl p234 ?_)
     refine WL_step rfl rfl (Exec.assign (v := v105) rfl rfl ?_)
     refine WL_step rfl rfl (Exec.assign (v := Value.int .i64 (0)) rfl rfl ?_)
     refine WL_nil (at_normal ?_)
     refine W_ret ?_
     have e118 := Option.some.inj hm
     subst r
     refine ⟨_, ret2 rfl, ?_⟩
     obtain ⟨s133, l119, hS132, r109⟩ := hS131.freezeArr
     exact ⟨s133, v105, (PHeap.le.trans (PHeap.le.trans (PHeap.le.trans l105 l106) l118) l119), hS132, (tup2 rfl rfl), r109⟩

theorem ZZ34 : (Tryd.prog.info? 34).map (·.zero) = some (some (.int .i64 0)) := by kernel_rfl

theorem N21 : (Tryd.f21.name == "runtime.NumGoroutine") = false := by kernel_rfl

theorem base_Num_sim {w0 w : World} {s : PHeap} {H : List Res} {e100 : (Option Int)}  {r : Int} (hm : base_Num_p e100 = some r) (hS : St w0 s (H) w)  :
  Calls Tryd.prog 21 #[errV 34 (e100)] w fun e w' => ∃ v, e = .returned v ∧ ((fun (y100 : Int) => ∃ (s100 : PHeap) , PHeap.le s s100 ∧ St w0 s100 (H) w' ∧ v = Value.int .i64 (y100)) r) := by
 unfold base_Num_p at hm
 refine calls_of_W Tryd.func21 rfl rfl ?_
 refine W_seq ?_
 refine W_region ?_
 refine WL_step rfl rfl (Exec.assign (v := Value.int .i64 (0)) rfl rfl ?_)
 refine WL_nil (at_normal ?_)
 refine W_seq ?_
 refine W_seq ?_
 refine W_region ?_
 refine WL_step rfl rfl (Exec.move (v := errV 34 (e100)) rfl rfl ?_)
 refine WL_step rfl rfl (Exec.err_eql_nil (T := 34) Tryd.underlying30 rfl rfl rfl ?_)
 refine WL_nil (at_normal ?_)
 rcases ite_some hm with ⟨hc100, hm⟩ | ⟨hc100, hm⟩
 ·refine W_cond_t rfl hc100 ?_
  refine W_seq ?_
  refine W_region ?_
  refine WL_step rfl rfl (Exec.assign (v := Value.int .i64 (0)) rfl rfl ?_)
  refine WL_nil (at_normal ?_)
  refine W_ret (at_ret ?_)
  have e101 := Option.some.inj hm
  subst r
  refine ⟨_, ret1 rfl, ?_⟩
  exact ⟨s, (PHeap.le_refl _), hS, rfl⟩
 ·refine W_cond_f rfl hc100 ?_
  replace hc100 := not_true hc100
  refine W_skip (at_normal ?_)
  refine W_seq ?_
  refine W_seq ?_
  refine W_region ?_
  refine WL_step rfl rfl (Exec.move (v := errV 34 (e100)) rfl rfl ?_)
  refine WL_step rfl rfl (Exec.err_assert Tryd.underlying34 ZZ34 rfl rfl ?_)
  refine WL_step rfl rfl (Exec.move (v := Value.tuple #[Value.int .i64 (e100.getD 0), Value.bool (e100.isSome)]) rfl rfl ?_)
  refine WL_step rfl rfl (Exec.extract (v := Value.int .i64 (e100.getD 0)) rfl rfl rfl ?_)
  refine WL_step rfl rfl (Exec.extract (v := Value.bool (e100.isSome)) rfl rfl rfl ?_)
  refine WL_step rfl rfl (Exec.assign (v := Value.int .i64 (e100.getD 0)) rfl rfl ?_)
  refine WL_step rfl rfl (Exec.assign (v := Value.bool (e100.isSome)) rfl rfl ?_)
  refine WL_nil (at_normal ?_)
  refine W_seq ?_
  refine W_region ?_
  refine WL_step rfl rfl (Exec.move (v := Value.bool (e100.isSome)) rfl rfl ?_)
  refine WL_nil (at_normal ?_)
  rcases ite_some hm with ⟨hc101, hm⟩ | ⟨hc101, hm⟩
  ·refine W_cond_t rfl hc101 ?_
   refine W_seq ?_
   refine W_region ?_
   refine WL_step rfl rfl (Exec.move (v := Value.int .i64 (e100.getD 0)) rfl rfl ?_)
   refine WL_step rfl rfl (Exec.assign (v := Value.int .i64 (e100.getD 0)) rfl rfl ?_)
   refine WL_nil (at_normal ?_)
   refine W_ret (at_ret ?_)
   have e102 := Option.some.inj hm
   subst r
   refine ⟨_, ret1 rfl, ?_⟩
   exact ⟨s, (PHeap.le_refl _), hS, rfl⟩
  ·refine W_cond_f rfl hc101 ?_
   replace hc101 := not_true hc101
   refine W_skip (at_normal ?_)
   refine W_seq ?_
   refine W_region ?_
   refine WL_step rfl rfl (Exec.assign (v := Value.int .i64 ((-1))) rfl rfl ?_)
   refine WL_nil (at_normal ?_)
   refine W_ret ?_
   have e103 := Option.some.inj hm
   subst r
   refine ⟨_, ret1 rfl, ?_⟩
   exact ⟨s, (PHeap.le_refl _), hS, rfl⟩

theorem N5 : (Tryd.f5.name == "runtime.NumGoroutine") = false := by kernel_rfl

theorem law45_ShrinkReduces_sim {w0 w : World} {s : PHeap} {H : List Res} {list1 : (List System)} {k4 : Int} {v2 : Value} {r : Bool} (hm : law45_ShrinkReduces_p list1 k4 = some r) (hS : St w0 s (H) w) (a3 : SliceRep encSystem s v2 list1) (ht : TabS Tryd.prog s) :
  Calls Tryd.prog 5 #[v2, Value.int .i64 (k4)] w fun e w' => ∃ v, e = .returned v ∧ ((fun (y100 : Bool) => ∃ (s100 : PHeap) , PHeap.le s s100 ∧ St w0 s100 (H) w' ∧ v = Value.bool (y100)) r) := by
 unfold law45_ShrinkReduces_p at hm
 refine calls_of_W Tryd.func5 rfl rfl ?_
 refine W_seq ?_
 refine W_region ?_
 refine WL_step rfl rfl (Exec.assign (v := Value.bool (false)) rfl rfl ?_)
 refine WL_nil (at_normal ?_)
 refine W_seq ?_
 refine W_seq ?_
 obtain ⟨z100, ht100, hm⟩ := bind_some hm
 refine W_mid (M := fun f' w' => (fun (z100 : Bool) => ∃ (s101 : PHeap) , PHeap.le s s101 ∧ St w0 s101 (H) w' ∧ f' 0 = v2 ∧ f' 1 = Value.int .i64 (k4) ∧ f' 17 = Value.bool (z100)) z100) ?_ ?_
 ·refine W_region ?_
  obtain ⟨y101, q100, ht100⟩ := bind_some ht100
  refine WL_step rfl rfl (Exec.call rfl rfl Tryd.func10 rfl N10 args_nil ((law45_awake_sim q100 hS  ht).mono ?_))
  rintro _ w100 ⟨_, rfl, ⟨s102, l100, hS100, rfl⟩⟩
  refine ⟨_, rfl, ?_⟩
  refine WL_step rfl rfl (Exec.not rfl rfl ?_)
  refine WL_step rfl rfl (Exec.move (v := Value.bool (!y101)) rfl rfl ?_)
  rcases ite_some ht100 with ⟨hc100, ht100⟩ | ⟨hc100, ht100⟩
  ·refine WL_pass rfl (yield_of rfl (congrArg Value.bool hc100)) rfl rfl ?_
   refine WL_pass rfl (yield_of rfl (congrArg Value.bool hc100)) rfl rfl ?_
   refine WL_pass rfl (yield_of rfl (congrArg Value.bool hc100)) rfl rfl ?_
   refine WL_step rfl rfl (Exec.pick_t (v := Value.bool (true)) rfl (congrArg Value.bool hc100) rfl ?_)
   refine WL_nil (at_normal ?_)
   have e100 := Option.some.inj ht100
   subst z100
   exact ⟨s102, l100, hS100, rfl, rfl, rfl⟩
  ·replace hc100 := not_true hc100
   refine WL_run rfl (yield_of rfl (congrArg Value.bool hc100)) rfl (Exec.move (v := v2) rfl rfl ?_)
   refine WL_run rfl (yield_of rfl (congrArg Value.bool hc100)) rfl (Exec.len_rep S40 rfl rfl (a3.mono l100) ?_)
   refine WL_run rfl (yield_of rfl (congrArg Value.bool hc100)) rfl (Exec.gtr rfl rfl rfl ?_)
   refine WL_step rfl rfl (Exec.pick_f (v := Value.bool (decide (4 < (list1.length : Int)))) rfl (congrArg Value.bool hc100) rfl ?_)
   refine WL_nil (at_normal ?_)
   have e101 := Option.some.inj ht100
   subst z100
   exact ⟨s102, l100, hS100, rfl, rfl, rfl⟩
 ·intro f100 w101 hM100
  obtain ⟨s103, l101, hS101, p100, p101, p102⟩ := hM100
  refine (at_normal ?_)
  rcases ite_some hm with ⟨hc101, hm⟩ | ⟨hc101, hm⟩
  ·refine W_cond_t p102 hc101 ?_
   refine W_seq ?_
   refine W_region ?_
   obtain ⟨y102, q101, hm⟩ := bind_some hm
   refine WL_step rfl rfl (Exec.call rfl rfl Tryd.func10 rfl N10 args_nil ((law45_awake_sim q101 hS101  (ht.mono l101)).mono ?_))
   rintro _ w102 ⟨_, rfl, ⟨s104, l102, hS102, rfl⟩⟩
   refine ⟨_, rfl, ?_⟩
   refine WL_step rfl rfl (Exec.assign (v := Value.bool (y102)) rfl rfl ?_)
   refine WL_nil (at_normal ?_)
   refine W_ret (at_ret ?_)
   have e102 := Option.some.inj hm
   subst r
   refine ⟨_, ret1 rfl, ?_⟩
   exact ⟨s104, (PHeap.le.trans l101 l102), hS102, rfl⟩
  ·refine W_cond_f p102 hc101 ?_
   replace hc101 := not_true hc101
   refine W_skip (at_normal ?_)
   refine W_seq ?_
   refine W_seq ?_
   refine W_region ?_
   refine WL_step rfl rfl (Exec.move (v := v2) rfl p100 ?_)
   refine WL_step rfl rfl (Exec.len_rep S40 rfl rfl (a3.mono l101) ?_)
   refine WL_step rfl rfl (Exec.move (v := Value.int .i64 (0)) rfl rfl ?_)
   refine WL_nil (at_normal ?_)
   obtain ⟨c100, hB100, hr100, hn100, hb100⟩ := ctl_some hm
   refine W_mid (M := fun f' w' => ∃ s', (c100 = .next s' ∨ c100 = .brk s') ∧ (fun (_ : Unit) => ∃ (s105 : PHeap) , PHeap.le s103 s105 ∧ St w0 s105 (H) w' ∧ f' 0 = v2 ∧ f' 1 = Value.int .i64 (k4) ∧ f' 19 = v2 ∧ f' 20 = Value.int .i64 ((list1.length : Int))) s') ?_ ?_
   ·refine W_block (W_forC (fun k' s' f' w' => (fun (_ : Unit) => ∃ (s106 : PHeap) , PHeap.le s103 s106 ∧ St w0 s106 (H) w' ∧ f' 0 = v2 ∧ f' 1 = Value.int .i64 (k4) ∧ f' 19 = v2 ∧ f' 20 = Value.int .i64 ((list1.length : Int)) ∧ f' 21 = Value.int .i64 (k' : Int)) s') hB100 ?_ ?_ ?_)
    ·exact ⟨s103, (PHeap.le_refl _), hS101, p100, p101, rfl, rfl, rfl⟩
    ·intro i100 t100 c101 f101 w103 hi100 hI100 hm100 hres100
     obtain ⟨s107, l103, hS103, p103, p104, p105, p106, x100⟩ := hI100
     refine W_seq ?_
     refine W_region ?_
     refine WL_step rfl rfl (Exec.lss rfl x100 p106 ?_)
     refine WL_nil (at_normal ?_)
     refine W_seq ?_
     refine W_true (congrArg Value.bool (decide_eq_true (by omega))) ?_
     refine W_skip (at_normal ?_)
     refine W_seq ?_
     refine W_block ?_
     refine W_seq ?_
     refine W_region ?_
     obtain ⟨x101, q102, hm100⟩ := bind_some hm100
     refine WL_step rfl rfl (Exec.index_rep S40 rfl p105 x100 (a3.mono (PHeap.le.trans l101 l103)) q102 ?_)
     intro b100 o100 a100
     refine WL_step rfl rfl (Exec.load_at (E := encSystem) hS103 A26 rfl rfl rfl a100 ?_)
     intro v100 q103
     obtain ⟨u100, u101, u102, rfl, r100, r101, r102⟩ := encSystem_val.1 q103
     refine WL_step rfl rfl (Exec.alloc (cs := [Value.int .i64 (0), Value.int .i64 (0), Value.slice none 0 0, Value.slice none 0 0, Value.slice none 0 0]) hS103 Z26 rfl rfl ?_)
     intro b101 w104 hS104
     refine WL_step rfl rfl (Exec.store_box (ds := [Value.int .i64 (x101.States), Value.int .i64 (x101.Init), u100, u101, u102]) (es := [Value.int .i64 (x101.States), Value.int .i64 (x101.Init), u100, u101, u102]) hS104 A26 rfl rfl rfl rfl (one_cons rfl (one_cons rfl (one_cons (r100).one (one_cons (r101).one (one_cons (r102).one one_nil))))) (Nat.le_of_ble_eq_true rfl) rfl ?_)
     intro w105 hS105
     refine WL_nil (at_normal ?_)
     refine W_seq ?_
     refine W_region ?_
     refine WL_step rfl rfl (Exec.load_box_agg (ds := [Value.int .i64 (x101.States), Value.int .i64 (x101.Init), u100, u101, u102]) (hS105) A26 rfl rfl rfl ?_)
     obtain ⟨y103, q104, hm100⟩ := bind_some hm100
     refine WL_step rfl rfl (Exec.call rfl rfl Tryd.func11 rfl N11 (args_cons rfl args_nil) ((law45_large_sim q104 hS105 r100 r101 r102).mono ?_))
     rintro _ w106 ⟨_, rfl, ⟨s108, l104, hS106, rfl⟩⟩
     refine ⟨_, rfl, ?_⟩
     refine WL_nil (at_normal ?_)
     rcases ite_some hm100 with ⟨hc102, hm100⟩ | ⟨hc102, hm100⟩
     ·refine W_cond_t rfl hc102 ?_
      refine W_seq ?_
      refine W_region ?_
      refine WL_step rfl rfl (Exec.assign (v := Value.bool (true)) rfl rfl ?_)
      refine WL_nil (at_normal ?_)
      refine W_ret (ib_ret (at_ret (at_ret (ib_ret (at_ret (at_ret ?_))))))
      have e103 := Option.some.inj hm100
      subst c101
      have hq100 := hr100 _ (hres100 (by intro _ h; cases h))
      have e104 := Option.some.inj hq100
      subst r
      refine ⟨_, ret1 rfl, ?_⟩
      have hS107 := (hS106).drop
      exact ⟨s108, (PHeap.le.trans (PHeap.le.trans l101 l103) l104), hS107, rfl⟩
     ·refine W_cond_f rfl hc102 ?_
      replace hc102 := not_true hc102
      refine W_skip (ib_normal (at_normal ?_))
      refine W_region ?_
      refine WL_step rfl rfl (Exec.add rfl x100 rfl ?_)
      refine WL_step rfl rfl (Exec.move (v := Value.int .i64 (IntKind.i64.wrap ((i100 : Int) + 1))) rfl rfl ?_)
      refine WL_nil (at_normal ?_)
      have e105 := Option.some.inj hm100
      subst c101
      have hS108 := (hS106).drop
      refine ⟨_, rfl, ?_⟩; exact ⟨s108, (PHeap.le.trans l103 l104), hS108, p103, p104, p105, p106, (Eq.trans rfl (wrap_up hi100 (SliceRep.le (a3.mono l101))))⟩
    ·intro t101 f102 w107 hI101 hres101
     obtain ⟨s109, l105, hS109, p107, p108, p109, p110, x102⟩ := hI101
     refine W_seq ?_
     refine W_region ?_
     refine WL_step rfl rfl (Exec.lss rfl x102 p110 ?_)
     refine WL_nil (at_normal ?_)
     refine W_seq ?_
     refine W_false (congrArg Value.bool (decide_eq_false (by omega))) ?_
     refine W_exit (at_exit (at_exit (ib_here (at_normal ?_))))
     refine ⟨_, .inl hres101, ?_⟩; exact ⟨s109, l105, hS109, p107, p108, p109, p110⟩
   ·rintro f103 w108 ⟨t102, hc103, hM101⟩
    have hm := hc103.elim (hn100 _) (hb100 _)
    clear hc103
    obtain ⟨s110, l106, hS110, p111, p112, p113, p114⟩ := hM101
    refine (at_normal ?_)
    refine W_seq ?_
    refine W_region ?_
    refine WL_step rfl rfl (Exec.move (v := v2) rfl p111 ?_)
    refine WL_step rfl rfl (Exec.move (v := Value.int .i64 (k4)) rfl p112 ?_)
    obtain ⟨t103, q105, hm⟩ := bind_some hm
    obtain ⟨y104, y105⟩ := t103
    replace hm := un2_eq hm
    refine WL_step rfl rfl (Exec.call rfl rfl Tryd.func19 rfl N19 (args_cons rfl (args_cons rfl args_nil)) ((shrink_Reduce_sim q105 hS110 (a3.mono (PHeap.le.trans l101 l106)) (ht.mono (PHeap.le.trans l101 l106))).mono ?_))
    rintro _ w109 ⟨_, rfl, ⟨s111, v101, l107, hS111, rfl, r103⟩⟩
    refine ⟨_, rfl, ?_⟩
    refine WL_step rfl rfl (Exec.move (v := Value.tuple #[v101, errV 34 (y105)]) rfl rfl ?_)
    refine WL_step rfl rfl (Exec.extract (v := v101) rfl rfl rfl ?_)
    refine WL_step rfl rfl (Exec.extract (v := errV 34 (y105)) rfl rfl rfl ?_)
    refine WL_step rfl rfl (Exec.assign (v := v101) rfl rfl ?_)
    refine WL_step rfl rfl (Exec.assign (v := errV 34 (y105)) rfl rfl ?_)
    refine WL_nil (at_normal ?_)
    refine W_seq ?_
    refine W_region ?_
    refine WL_step rfl rfl (Exec.move (v := v2) rfl p111 ?_)
    refine WL_step rfl rfl (Exec.move (v := Value.int .i64 (k4)) rfl p112 ?_)
    obtain ⟨t104, q106, hm⟩ := bind_some hm
    obtain ⟨y106, y107⟩ := t104
    replace hm := un2_eq hm
    refine WL_step rfl rfl (Exec.call rfl rfl Tryd.func20 rfl N20 (args_cons rfl (args_cons rfl args_nil)) ((ref45_Reduce_sim q106 hS111 (a3.mono (PHeap.le.trans (PHeap.le.trans l101 l106) l107))).mono ?_))
    rintro _ w110 ⟨_, rfl, ⟨s112, v102, l108, hS112, rfl, r104⟩⟩
    refine ⟨_, rfl, ?_⟩
    refine WL_step rfl rfl (Exec.move (v := Value.tuple #[v102, Value.int .i64 (y107)]) rfl rfl ?_)
    refine WL_step rfl rfl (Exec.extract (v := v102) rfl rfl rfl ?_)
    refine WL_step rfl rfl (Exec.extract (v := Value.int .i64 (y107)) rfl rfl rfl ?_)
    refine WL_step rfl rfl (Exec.assign (v := v102) rfl rfl ?_)
    refine WL_step rfl rfl (Exec.assign (v := Value.int .i64 (y107)) rfl rfl ?_)
    refine WL_nil (at_normal ?_)
    refine W_seq ?_
    obtain ⟨z101, ht101, hm⟩ := bind_some hm
    refine W_mid (M := fun f' w' => (fun (z101 : Bool) => ∃ (s113 : PHeap) , PHeap.le s112 s113 ∧ St w0 s113 (H) w' ∧ f' 4 = Value.bool (z101)) z101) ?_ ?_
    ·refine W_region ?_
     refine WL_step rfl rfl (Exec.move (v := v101) rfl rfl ?_)
     refine WL_step rfl rfl (Exec.move (v := v102) rfl rfl ?_)
     obtain ⟨y108, q107, ht101⟩ := bind_some ht101
     refine WL_step rfl rfl (Exec.call rfl rfl Tryd.func15 rfl N15 (args_cons rfl (args_cons rfl args_nil)) ((base_Ints_sim q107 hS112 (r103.mono l108) r104).mono ?_))
     rintro _ w111 ⟨_, rfl, ⟨s114, l109, hS113, rfl⟩⟩
     refine ⟨_, rfl, ?_⟩
     refine WL_step rfl rfl (Exec.move (v := Value.bool (y108)) rfl rfl ?_)
     rcases ite_some ht101 with ⟨hc104, ht101⟩ | ⟨hc104, ht101⟩
     ·refine WL_run rfl (yield_of rfl (congrArg Value.bool hc104)) rfl (Exec.move (v := errV 34 (y105)) rfl rfl ?_)
      refine WL_run rfl (yield_of rfl (congrArg Value.bool hc104)) rfl (Exec.call rfl rfl Tryd.func21 rfl N21 (args_cons rfl args_nil) ((base_Num_sim (base_Num_tot y105) hS113 ).mono ?_))
      rintro _ w112 ⟨_, rfl, ⟨s115, l110, hS114, rfl⟩⟩
      refine ⟨_, rfl, ?_⟩
      refine WL_run rfl (yield_of rfl (congrArg Value.bool hc104)) rfl (Exec.move (v := Value.int .i64 (y107)) rfl rfl ?_)
      refine WL_run rfl (yield_of rfl (congrArg Value.bool hc104)) rfl (Exec.eql rfl rfl rfl ?_)
      refine WL_step rfl rfl (Exec.pick_t (v := Value.bool (decide ((base_Num_t y105) = y107))) rfl (congrArg Value.bool hc104) rfl ?_)
      refine WL_step rfl rfl (Exec.assign (v := Value.bool (decide ((base_Num_t y105) = y107))) rfl rfl ?_)
      refine WL_nil (at_normal ?_)
      have e106 := Option.some.inj ht101
      subst z101
      exact ⟨s115, (PHeap.le.trans l109 l110), hS114, rfl⟩
     ·replace hc104 := not_true hc104
      refine WL_pass rfl (yield_of rfl (congrArg Value.bool hc104)) rfl rfl ?_
      refine WL_pass rfl (yield_of rfl (congrArg Value.bool hc104)) rfl rfl ?_
      refine WL_pass rfl (yield_of rfl (congrArg Value.bool hc104)) rfl rfl ?_
      refine WL_pass rfl (yield_of rfl (congrArg Value.bool hc104)) rfl rfl ?_
      refine WL_step rfl rfl (Exec.pick_f (v := Value.bool (false)) rfl (congrArg Value.bool hc104) rfl ?_)
      refine WL_step rfl rfl (Exec.assign (v := Value.bool (false)) rfl rfl ?_)
      refine WL_nil (at_normal ?_)
      have e107 := Option.some.inj ht101
      subst z101
      exact ⟨s114, l109, hS113, rfl⟩
    ·intro f104 w113 hM102
     obtain ⟨s116, l111, hS115, p115⟩ := hM102
     refine (at_normal ?_)
     refine W_ret ?_
     have e108 := Option.some.inj hm
     subst r
     refine ⟨_, ret1 rfl, ?_⟩
     exact ⟨s116, (PHeap.le.trans (PHeap.le.trans (PHeap.le.trans (PHeap.le.trans l101 l106) l107) l108) l111), hS115, p115⟩

end Go.Pw
