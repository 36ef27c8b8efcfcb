/-
  The walks (printed by my generator).
-/
import Derived.Test.YtagooehmocpcjaaDoorEx4
import Derived.Test.YtagooehmocpcjaaDoorExY
import Derived.Test.YtagooehmocpcjaaDoorExYb
set_option maxRecDepth 100000
set_option maxHeartbeats 4000000
set_option linter.unusedVariables false
namespace Go.Pw
open Go.Proofs
theorem S66 : tySlice Tryd.prog 66 = some (71, 2, 32) := by kernel_rfl

theorem N19 : (Tryd.f19.name == "runtime.NumGoroutine") = false := by kernel_rfl

theorem shrink_Reduce_sim {w0 w : World} {s : PHeap} {H : List Res} {list100 : (List System)} {k100 : Int} {v100 : Value} {r : (List Int) × (Option Int)} (hm : shrink_Reduce_p list100 k100 = some r) (hS : St w0 s (H) w) (a100 : SliceRep encSystem s v100 list100) (ht : TabS Tryd.prog s) :
  Calls Tryd.prog 19 #[v100, Value.int .i64 (k100)] w fun e w' => ∃ v, e = .returned v ∧ ((un2 fun (y100 : (List Int)) (y101 : (Option Int)) => ∃ (s100 : PHeap) (v101 : Value), PHeap.le s s100 ∧ St w0 s100 (H) w' ∧ v = Value.tuple #[v101, errV 34 (y101)] ∧ SliceRep (encInt .i64) s100 v101 y100) r) := by
 unfold shrink_Reduce_p at hm
 refine calls_of_W Tryd.func19 rfl rfl ?_
 refine W_seq ?_
 refine W_region ?_
 refine WL_step rfl rfl (Exec.assign (v := Value.slice none 0 0) rfl rfl ?_)
 refine WL_step rfl rfl (Exec.assign (v := errV 34 (none)) rfl rfl ?_)
 refine WL_nil (at_normal ?_)
 refine W_seq ?_
 refine W_seq ?_
 refine W_region ?_
 refine WL_step rfl rfl (Exec.move (v := v100) rfl rfl ?_)
 refine WL_step rfl rfl (Exec.len_rep S40 rfl rfl a100 ?_)
 refine WL_step rfl rfl (Exec.move (v := Value.int .i64 (0)) rfl rfl ?_)
 refine WL_nil (at_normal ?_)
 obtain ⟨c100, hB100, hr100, hn100, hb100⟩ := ctl_some hm
 refine W_mid (M := fun f' w' => ∃ s', (c100 = .next s' ∨ c100 = .brk s') ∧ (fun (_ : Unit) => ∃ (s101 : PHeap) , PHeap.le s s101 ∧ St w0 s101 (H) w' ∧ f' 0 = v100 ∧ f' 1 = Value.int .i64 (k100) ∧ f' 20 = v100 ∧ f' 21 = Value.int .i64 ((list100.length : Int))) s') ?_ ?_
 ·refine W_block (W_forC (fun k' s' f' w' => (fun (_ : Unit) => ∃ (s102 : PHeap) , PHeap.le s s102 ∧ St w0 s102 (H) w' ∧ f' 0 = v100 ∧ f' 1 = Value.int .i64 (k100) ∧ f' 20 = v100 ∧ f' 21 = Value.int .i64 ((list100.length : Int)) ∧ f' 22 = Value.int .i64 (k' : Int)) s') hB100 ?_ ?_ ?_)
  ·exact ⟨s, (PHeap.le_refl _), hS, rfl, rfl, rfl, rfl, rfl⟩
  ·intro i100 t100 c101 f100 w100 hi100 hI100 hm100 hres100
   obtain ⟨s103, l100, hS100, p100, p101, p102, p103, x100⟩ := hI100
   refine W_seq ?_
   refine W_region ?_
   refine WL_step rfl rfl (Exec.lss rfl x100 p103 ?_)
   refine WL_nil (at_normal ?_)
   refine W_seq ?_
   refine W_true (congrArg Value.bool (decide_eq_true (by omega))) ?_
   refine W_skip (at_normal ?_)
   refine W_seq ?_
   refine W_block ?_
   refine W_seq ?_
   refine W_region ?_
   obtain ⟨x101, q100, hm100⟩ := bind_some hm100
   refine WL_step rfl rfl (Exec.index_rep S40 rfl p102 x100 (a100.mono l100) q100 ?_)
   intro b100 o100 a101
   refine WL_step rfl rfl (Exec.load_at (E := encSystem) hS100 A26 rfl rfl rfl a101 ?_)
   intro v102 q101
   obtain ⟨u100, u101, u102, rfl, r100, r101, r102⟩ := encSystem_val.1 q101
   refine WL_step rfl rfl (Exec.alloc (cs := [Value.int .i64 (0), Value.int .i64 (0), Value.slice none 0 0, Value.slice none 0 0, Value.slice none 0 0]) hS100 Z26 rfl rfl ?_)
   intro b101 w101 hS101
   refine WL_step rfl rfl (Exec.store_box (ds := [Value.int .i64 (x101.States), Value.int .i64 (x101.Init), u100, u101, u102]) (es := [Value.int .i64 (x101.States), Value.int .i64 (x101.Init), u100, u101, u102]) hS101 A26 rfl rfl rfl rfl (one_cons rfl (one_cons rfl (one_cons (r100).one (one_cons (r101).one (one_cons (r102).one one_nil))))) (Nat.le_of_ble_eq_true rfl) rfl ?_)
   intro w102 hS102
   refine WL_nil (at_normal ?_)
   refine W_seq ?_
   obtain ⟨z100, ht100, hm100⟩ := bind_some hm100
   refine W_mid (M := fun f' w' => (fun (z100 : Bool) => ∃ (s104 : PHeap) , PHeap.le s103 s104 ∧ St w0 s104 (H) w' ∧ f' 0 = v100 ∧ f' 1 = Value.int .i64 (k100) ∧ f' 20 = v100 ∧ f' 21 = Value.int .i64 ((list100.length : Int)) ∧ f' 22 = Value.int .i64 ((i100 : Int)) ∧ f' 38 = Value.bool (z100)) z100) ?_ ?_
   ·refine W_dl (n0 := 13) (.q 0 (.e 1 [] (.q 2 (.q 3 (.q 4 (.q 5 (.q 6 (.q 7 (.q 8 (.q 9 (.e 10 [] (.q 11 (.q 12 .done))))))))))))) hmix (by kernel_rfl) (by kernel_rfl) ?_
    have hS103 := hS102.drew
    refine DL_q rfl rfl (Exec.load_box_agg (ds := [Value.int .i64 (x101.States), Value.int .i64 (x101.Init), u100, u101, u102]) (hS103) A26 rfl rfl rfl ⟨rfl, ?_⟩)
    obtain ⟨y102, q102, ht100⟩ := bind_some ht100
    refine DL_e rfl rfl (Exec.call rfl rfl Tryd.func22 rfl N22 (args_cons rfl args_nil) ((transys_Valid_sim q102 hS103 r100 r101 r102).mono ?_))
    rintro _ w103 ⟨_, rfl, ⟨s105, l101, hS104, rfl⟩⟩
    refine ⟨_, rfl, ?_⟩
    refine ⟨ag_nil, ?_⟩
    refine DL_q rfl rfl (Exec.not rfl rfl ⟨rfl, ?_⟩)
    refine DL_q rfl rfl (Exec.move (v := Value.bool (!y102)) rfl rfl ⟨rfl, ?_⟩)
    rcases ite_some ht100 with ⟨hc100, ht100⟩ | ⟨hc100, ht100⟩
    ·refine DL_qp rfl rfl (yield_of rfl (congrArg Value.bool hc100)) rfl ?_
     refine DL_qp rfl rfl (yield_of rfl (congrArg Value.bool hc100)) rfl ?_
     refine DL_qp rfl rfl (yield_of rfl (congrArg Value.bool hc100)) rfl ?_
     refine DL_qp rfl rfl (yield_of rfl (congrArg Value.bool hc100)) rfl ?_
     refine DL_qp rfl rfl (yield_of rfl (congrArg Value.bool hc100)) rfl ?_
     refine DL_qp rfl rfl (yield_of rfl (congrArg Value.bool hc100)) rfl ?_
     refine DL_ep rfl rfl (yield_of rfl (congrArg Value.bool hc100)) rfl ?_
     refine DL_qp rfl rfl (yield_of rfl (congrArg Value.bool hc100)) rfl ?_
     refine DL_q rfl rfl (Exec.pick_t (v := Value.bool (true)) rfl (congrArg Value.bool hc100) rfl ⟨rfl, ?_⟩)
     refine DL_done ?_
     refine WL_nil (at_normal ?_)
     have e100 := Option.some.inj ht100
     subst z100
     have hS105 := (hS104).drop
     exact ⟨s105, l101, hS105, p100, p101, p102, p103, x100, rfl⟩
    ·replace hc100 := not_true hc100
     refine DL_qg rfl rfl (yield_of rfl (congrArg Value.bool hc100)) (Exec.field F26_2 rfl rfl rfl ⟨rfl, ?_⟩)
     refine DL_qg rfl rfl (yield_of rfl (congrArg Value.bool hc100)) (Exec.load_box (hS104) A22 rfl rfl rfl ⟨rfl, ?_⟩)
     refine DL_qg rfl rfl (yield_of rfl (congrArg Value.bool hc100)) (Exec.move (v := v100) rfl p100 ⟨rfl, ?_⟩)
     obtain ⟨x102, q103, ht100⟩ := bind_some ht100
     refine DL_qg rfl rfl (yield_of rfl (congrArg Value.bool hc100)) (Exec.index_repE S40 rfl rfl rfl (a100.mono (PHeap.le.trans l100 l101)) q103 ?_)
     intro b102 o101 a102 e101
     refine ⟨rfl, ?_⟩
     refine DL_qg rfl rfl (yield_of rfl (congrArg Value.bool hc100)) (Exec.field F26_2 rfl rfl rfl ⟨rfl, ?_⟩)
     refine DL_qg rfl rfl (yield_of rfl (congrArg Value.bool hc100)) (Exec.load_at (E := (encSlice (encInt .i64))) hS104 A22 rfl rfl rfl (a102.sub (Sub.iso (Sub.snd (Sub.snd (Sub.fst (Sub.refl _)) rfl) rfl)) rfl) ?_)
     intro v103 q104
     have r103 := encSlice_val.1 q104
     refine ⟨rfl, ?_⟩
     obtain ⟨y103, q105, ht100⟩ := bind_some ht100
     refine DL_eg rfl rfl (yield_of rfl (congrArg Value.bool hc100)) (Exec.call rfl rfl Tryd.func39 rfl N39 (args_cons rfl (args_cons rfl args_nil)) ((slices_Equal___int_int__sim q105 hS104 (r100.mono l101) r103).mono ?_))
     rintro _ w104 ⟨_, rfl, ⟨s106, l102, hS106, rfl⟩⟩
     refine ⟨_, rfl, ?_⟩
     refine ⟨ag_nil, ?_⟩
     refine DL_qg rfl rfl (yield_of rfl (congrArg Value.bool hc100)) (Exec.not rfl rfl ⟨rfl, ?_⟩)
     refine DL_q rfl rfl (Exec.pick_f (v := Value.bool (!y103)) rfl (congrArg Value.bool hc100) rfl ⟨rfl, ?_⟩)
     refine DL_done ?_
     refine WL_nil (at_normal ?_)
     have e102 := Option.some.inj ht100
     subst z100
     have hS107 := (hS106).drop
     exact ⟨s106, (PHeap.le.trans l101 l102), hS107, p100, p101, p102, p103, x100, rfl⟩
   ·intro f101 w105 hM100
    obtain ⟨s107, l103, hS108, p104, p105, p106, p107, p108, p109⟩ := hM100
    refine (at_normal ?_)
    rcases ite_some hm100 with ⟨hc101, hm100⟩ | ⟨hc101, hm100⟩
    ·refine W_cond_t p109 hc101 ?_
     refine W_seq ?_
     refine W_region ?_
     refine WL_step rfl rfl (Exec.makeInterface C34 rfl rfl ?_)
     refine WL_step rfl rfl (Exec.assign (v := Value.slice none 0 0) rfl rfl ?_)
     refine WL_step rfl rfl (Exec.assign (v := errV 34 (some 2)) rfl rfl ?_)
     refine WL_nil (at_normal ?_)
     refine W_ret (ib_ret (at_ret (at_ret (ib_ret (at_ret (at_ret ?_))))))
     have e103 := Option.some.inj hm100
     subst c101
     have hq100 := hr100 _ (hres100 (by intro _ h; cases h))
     have e104 := Option.some.inj hq100
     subst r
     refine ⟨_, ret2 rfl, ?_⟩
     exact ⟨s107, (Value.slice none 0 0), (PHeap.le.trans l100 l103), hS108, (tup2 rfl rfl), (SliceRep.nil _ _)⟩
    ·refine W_cond_f p109 hc101 ?_
     replace hc101 := not_true hc101
     refine W_skip (ib_normal (at_normal ?_))
     refine W_region ?_
     refine WL_step rfl rfl (Exec.add rfl p108 rfl ?_)
     refine WL_step rfl rfl (Exec.move (v := Value.int .i64 (IntKind.i64.wrap ((i100 : Int) + 1))) rfl rfl ?_)
     refine WL_nil (at_normal ?_)
     have e105 := Option.some.inj hm100
     subst c101
     refine ⟨_, rfl, ?_⟩; exact ⟨s107, (PHeap.le.trans l100 l103), hS108, p104, p105, p106, p107, (Eq.trans rfl (wrap_up hi100 (SliceRep.le a100)))⟩
  ·intro t101 f102 w106 hI101 hres101
   obtain ⟨s108, l104, hS109, p110, p111, p112, p113, x103⟩ := hI101
   refine W_seq ?_
   refine W_region ?_
   refine WL_step rfl rfl (Exec.lss rfl x103 p113 ?_)
   refine WL_nil (at_normal ?_)
   refine W_seq ?_
   refine W_false (congrArg Value.bool (decide_eq_false (by omega))) ?_
   refine W_exit (at_exit (at_exit (ib_here (at_normal ?_))))
   refine ⟨_, .inl hres101, ?_⟩; exact ⟨s108, l104, hS109, p110, p111, p112, p113⟩
 ·rintro f103 w107 ⟨t102, hc102, hM101⟩
  have hm := hc102.elim (hn100 _) (hb100 _)
  clear hc102
  obtain ⟨s109, l105, hS110, p114, p115, p116, p117⟩ := hM101
  refine (at_normal ?_)
  refine W_seq ?_
  refine W_seq ?_
  refine W_mid (M := fun f' w' => ∃ (s110 : PHeap) , PHeap.le s109 s110 ∧ St w0 s110 (H) w' ∧ f' 0 = v100 ∧ f' 1 = Value.int .i64 (k100) ∧ f' 48 = Value.bool (((decide (k100 < 0)) || decide ((list100.length : Int) ≤ k100)))) ?_ ?_
  ·refine W_region ?_
   refine WL_step rfl rfl (Exec.move (v := Value.int .i64 (k100)) rfl p115 ?_)
   refine WL_step rfl rfl (Exec.lss rfl rfl rfl ?_)
   refine WL_step rfl rfl (Exec.move (v := Value.bool (decide (k100 < 0))) rfl rfl ?_)
   by_cases hc103 : (decide (k100 < 0)) = true
   ·refine WL_pass rfl (yield_of rfl (congrArg Value.bool hc103)) rfl rfl ?_
    refine WL_pass rfl (yield_of rfl (congrArg Value.bool hc103)) rfl rfl ?_
    refine WL_pass rfl (yield_of rfl (congrArg Value.bool hc103)) rfl rfl ?_
    refine WL_pass rfl (yield_of rfl (congrArg Value.bool hc103)) rfl rfl ?_
    refine WL_step rfl rfl (Exec.pick_t (v := Value.bool (true)) rfl (congrArg Value.bool hc103) rfl ?_)
    refine WL_nil (at_normal ?_)
    exact ⟨s109, (PHeap.le_refl _), hS110, p114, p115, (congrArg Value.bool (or_t hc103)).symm⟩
   ·replace hc103 := not_true hc103
    refine WL_run rfl (yield_of rfl (congrArg Value.bool hc103)) rfl (Exec.move (v := Value.int .i64 (k100)) rfl p115 ?_)
    refine WL_run rfl (yield_of rfl (congrArg Value.bool hc103)) rfl (Exec.move (v := v100) rfl p114 ?_)
    refine WL_run rfl (yield_of rfl (congrArg Value.bool hc103)) rfl (Exec.len_rep S40 rfl rfl (a100.mono l105) ?_)
    refine WL_run rfl (yield_of rfl (congrArg Value.bool hc103)) rfl (Exec.geq rfl rfl rfl ?_)
    refine WL_step rfl rfl (Exec.pick_f (v := Value.bool (decide ((list100.length : Int) ≤ k100))) rfl (congrArg Value.bool hc103) rfl ?_)
    refine WL_nil (at_normal ?_)
    exact ⟨s109, (PHeap.le_refl _), hS110, p114, p115, (congrArg Value.bool (or_f hc103)).symm⟩
  ·intro f104 w108 hM102
   obtain ⟨s111, l106, hS111, p118, p119, p120⟩ := hM102
   refine (at_normal ?_)
   rcases ite_some hm with ⟨hc104, hm⟩ | ⟨hc104, hm⟩
   ·refine W_cond_t p120 hc104 ?_
    refine W_seq ?_
    refine W_region ?_
    refine WL_step rfl rfl (Exec.makeInterface C34 rfl rfl ?_)
    refine WL_step rfl rfl (Exec.assign (v := Value.slice none 0 0) rfl rfl ?_)
    refine WL_step rfl rfl (Exec.assign (v := errV 34 (some 1)) rfl rfl ?_)
    refine WL_nil (at_normal ?_)
    refine W_ret (at_ret ?_)
    have e106 := Option.some.inj hm
    subst r
    refine ⟨_, ret2 rfl, ?_⟩
    exact ⟨s111, (Value.slice none 0 0), (PHeap.le.trans l105 l106), hS111, (tup2 rfl rfl), (SliceRep.nil _ _)⟩
   ·refine W_cond_f p120 hc104 ?_
    replace hc104 := not_true hc104
    refine W_skip (at_normal ?_)
    refine W_seq ?_
    refine W_region ?_
    refine WL_step rfl rfl (Exec.move (v := v100) rfl p118 ?_)
    obtain ⟨x104, q106, hm⟩ := bind_some hm
    refine WL_step rfl rfl (Exec.index_rep S40 rfl rfl rfl (a100.mono (PHeap.le.trans l105 l106)) q106 ?_)
    intro b103 o102 a103
    refine WL_step rfl rfl (Exec.field F26_2 rfl rfl rfl ?_)
    refine WL_step rfl rfl (Exec.load_at (E := (encSlice (encInt .i64))) hS111 A22 rfl rfl rfl (a103.sub (Sub.iso (Sub.snd (Sub.snd (Sub.fst (Sub.refl _)) rfl) rfl)) rfl) ?_)
    intro v104 q107
    have r104 := encSlice_val.1 q107
    refine WL_step rfl rfl (Exec.len_rep S22 rfl rfl r104 ?_)
    obtain ⟨l107, q108, hm⟩ := bind_some hm
    refine WL_step rfl rfl (Exec.make (E := encStr) hS111 S54 Z9 rfl rfl rfl rfl q108 ?_)
    intro v105 w109 hS112
    refine WL_step rfl rfl (Exec.assign (v := v105) rfl rfl ?_)
    refine WL_nil (at_normal ?_)
    refine W_seq ?_
    refine W_region ?_
    refine WL_step rfl rfl (Exec.move (v := v105) rfl rfl ?_)
    refine WL_step rfl rfl (Exec.len_arr (hS112) S54 rfl rfl ?_)
    obtain ⟨l108, q109, hm⟩ := bind_some hm
    refine WL_step rfl rfl (Exec.make_blds (e := 5) hS112 S66 Z71 rfl rfl rfl q109 ?_)
    intro b104 w110 hS113
    refine WL_step rfl rfl (Exec.assign (v := Value.slice (some ⟨b104, 0, none⟩) (((l107.length : Int)).toNat) (((l107.length : Int)).toNat)) rfl rfl ?_)
    refine WL_nil (at_normal ?_)
    refine W_seq ?_
    refine W_seq ?_
    refine W_region ?_
    refine WL_step rfl rfl (Exec.move (v := v100) rfl p118 ?_)
    refine WL_step rfl rfl (Exec.index_rep S40 rfl rfl rfl (a100.mono (PHeap.le.trans l105 l106)) q106 ?_)
    intro b105 o103 a104
    refine WL_step rfl rfl (Exec.field F26_2 rfl rfl rfl ?_)
    refine WL_step rfl rfl (Exec.load_at (E := (encSlice (encInt .i64))) hS113 A22 rfl rfl rfl (a104.sub (Sub.iso (Sub.snd (Sub.snd (Sub.fst (Sub.refl _)) rfl) rfl)) rfl) ?_)
    intro v106 q110
    have r105 := encSlice_val.1 q110
    refine WL_step rfl rfl (Exec.len_rep S22 rfl rfl r105 ?_)
    refine WL_step rfl rfl (Exec.move (v := Value.int .i64 (0)) rfl rfl ?_)
    refine WL_nil (at_normal ?_)
    obtain ⟨l109, hB101, hm⟩ := bind_some hm
    refine W_block (W_forS (fun k' s' f' w' => (fun (l109 : (List (Option (List Int)))) => ∃ (s112 : PHeap) , PHeap.le s111 s112 ∧ St w0 s112 (Res.arr encStr 9 v105 l107 :: Res.blds 71 5 b104 (((l107.length : Int)).toNat) l109 :: H) w' ∧ f' 0 = v100 ∧ f' 1 = Value.int .i64 (k100) ∧ f' 8 = v105 ∧ f' 9 = Value.slice (some ⟨b104, 0, none⟩) (((l107.length : Int)).toNat) (((l107.length : Int)).toNat) ∧ f' 62 = v106 ∧ f' 63 = Value.int .i64 ((x104.Costs.length : Int)) ∧ f' 64 = Value.int .i64 (k' : Int)) s') hB101 ?_ ?_ ?_)
    ·have hS114 := (hS113).f1
     exact ⟨s111, (PHeap.le_refl _), hS114, p118, p119, rfl, rfl, rfl, rfl, rfl⟩
    ·intro i101 l109 s113 f105 w111 hi101 hI102 hm101
     obtain ⟨s114, l110, hS115, p121, p122, p123, p124, p125, p126, x105⟩ := hI102
     refine W_seq ?_
     refine W_region ?_
     refine WL_step rfl rfl (Exec.lss rfl x105 p126 ?_)
     refine WL_nil (at_normal ?_)
     refine W_seq ?_
     refine W_true (congrArg Value.bool (decide_eq_true (by omega))) ?_
     refine W_skip (at_normal ?_)
     refine W_seq ?_
     refine W_block ?_
     refine W_seq ?_
     refine W_region ?_
     refine WL_step rfl rfl (Exec.move (v := Value.int .i64 ((i101 : Int))) rfl x105 ?_)
     obtain ⟨x106, q111, hm101⟩ := bind_some hm101
     refine WL_step rfl rfl (Exec.index_rep S22 rfl p125 x105 (r105.mono l110) q111 ?_)
     intro b106 o104 a105
     refine WL_step rfl rfl (Exec.load_at (E := (encInt .i64)) hS115 A3 rfl rfl rfl a105 ?_)
     intro v107 q112
     obtain rfl := encInt_val.1 q112
     refine WL_step rfl rfl (Exec.assign (v := Value.int .i64 ((i101 : Int))) rfl rfl ?_)
     refine WL_step rfl rfl (Exec.assign (v := Value.int .i64 (x106)) rfl rfl ?_)
     refine WL_nil (at_normal ?_)
     refine W_dl (n0 := 6) (.q 0 (.q 1 (.q 2 (.q 3 (.e 4 [0, 1, 2] (.e 5 [] .done)))))) hmix (by kernel_rfl) (by kernel_rfl) ?_
     have hS116 := hS115.drew
     refine DL_q rfl rfl (Exec.move (v := Value.slice (some ⟨b104, 0, none⟩) (((l107.length : Int)).toNat) (((l107.length : Int)).toNat)) rfl p124 ⟨rfl, ?_⟩)
     refine DL_q rfl rfl (Exec.move (v := Value.int .i64 ((i101 : Int))) rfl rfl ⟨rfl, ?_⟩)
     obtain ⟨o105, q113, hm101⟩ := bind_some hm101
     refine DL_q rfl rfl (Exec.index_blds ((hS116).f1) S66 rfl rfl rfl q113 ⟨rfl, ?_⟩)
     refine DL_q rfl rfl (Exec.move (v := Value.int .i64 (x106)) rfl rfl ⟨rfl, ?_⟩)
     obtain ⟨y104, q114, hm101⟩ := bind_some hm101
     refine DL_e rfl rfl (Exec.call rfl rfl Tryd.func41 rfl N41 (args_cons rfl args_nil) ((strconv_Itoa_sim q114 hS116  (ht.mono (PHeap.le.trans (PHeap.le.trans l105 l106) l110))).mono ?_))
     rintro _ w112 ⟨_, rfl, ⟨s115, l111, hS117, rfl⟩⟩
     refine ⟨_, rfl, ?_⟩
     refine ⟨(ag_cons (ag_r rfl rfl (Exec.move (v := Value.slice (some ⟨b104, 0, none⟩) (((l107.length : Int)).toNat) (((l107.length : Int)).toNat)) rfl p124 ⟨rfl, rfl⟩)) (ag_cons (ag_r rfl rfl (Exec.move (v := Value.int .i64 ((i101 : Int))) rfl rfl ⟨rfl, rfl⟩)) (ag_cons (ag_r rfl rfl (Exec.index_blds ((hS117).f1) S66 rfl rfl rfl q113 ⟨rfl, rfl⟩)) ag_nil))), ?_⟩
     obtain ⟨l112, q115, hm101⟩ := bind_some hm101
     have hS118 := (hS117).f1
     refine DL_e rfl rfl (Exec.call rfl rfl Tryd.func40 rfl N40 (args_cons rfl (args_cons rfl args_nil)) ((blds_write_sim q115 hS118).mono ?_))
     rintro _ w113 ⟨_, rfl, rfl, hS119⟩
     refine ⟨_, rfl, ?_⟩
     refine ⟨ag_nil, ?_⟩
     refine DL_done ?_
     refine WL_nil (ib_normal (at_normal ?_))
     refine W_region ?_
     refine WL_step rfl rfl (Exec.add rfl x105 rfl ?_)
     refine WL_step rfl rfl (Exec.move (v := Value.int .i64 (IntKind.i64.wrap ((i101 : Int) + 1))) rfl rfl ?_)
     refine WL_nil (at_normal ?_)
     have e107 := Option.some.inj hm101
     subst s113
     have hS120 := (hS119).f1
     exact ⟨s115, (PHeap.le.trans l110 l111), hS120, p121, p122, p123, p124, p125, p126, (Eq.trans rfl (wrap_up hi101 (SliceRep.le r104)))⟩
    ·intro f106 w114 hI103
     obtain ⟨s116, l113, hS121, p127, p128, p129, p130, p131, p132, x107⟩ := hI103
     refine W_seq ?_
     refine W_region ?_
     refine WL_step rfl rfl (Exec.lss rfl x107 p132 ?_)
     refine WL_nil (at_normal ?_)
     refine W_seq ?_
     refine W_false (congrArg Value.bool (decide_eq_false (by omega))) ?_
     refine W_exit (at_exit (at_exit (ib_here (at_normal ?_))))
     refine W_seq ?_
     refine W_seq ?_
     refine W_region ?_
     refine WL_step rfl rfl (Exec.move (v := v100) rfl p127 ?_)
     refine WL_step rfl rfl (Exec.len_rep S40 rfl rfl (a100.mono (PHeap.le.trans (PHeap.le.trans l105 l106) l113)) ?_)
     refine WL_step rfl rfl (Exec.move (v := Value.int .i64 (0)) rfl rfl ?_)
     refine WL_nil (at_normal ?_)
     obtain ⟨l114, hB102, hm⟩ := bind_some hm
     refine W_block (W_forS (fun k' s' f' w' => (fun (l114 : (List (Option (List Int)))) => ∃ (s117 : PHeap) , PHeap.le s116 s117 ∧ St w0 s117 (Res.arr encStr 9 v105 l107 :: Res.blds 71 5 b104 (((l107.length : Int)).toNat) l114 :: H) w' ∧ f' 1 = Value.int .i64 (k100) ∧ f' 8 = v105 ∧ f' 9 = Value.slice (some ⟨b104, 0, none⟩) (((l107.length : Int)).toNat) (((l107.length : Int)).toNat) ∧ f' 76 = v100 ∧ f' 77 = Value.int .i64 ((list100.length : Int)) ∧ f' 78 = Value.int .i64 (k' : Int)) s') hB102 ?_ ?_ ?_)
     ·have hS122 := (hS121).f1
      have hS123 := (hS122).f1
      exact ⟨s116, (PHeap.le_refl _), hS123, p128, p129, p130, rfl, rfl, rfl⟩
     ·intro i102 l114 s118 f107 w115 hi102 hI104 hm102
      obtain ⟨s119, l115, hS124, p133, p134, p135, p136, p137, x108⟩ := hI104
      refine W_seq ?_
      refine W_region ?_
      refine WL_step rfl rfl (Exec.lss rfl x108 p137 ?_)
      refine WL_nil (at_normal ?_)
      refine W_seq ?_
      refine W_true (congrArg Value.bool (decide_eq_true (by omega))) ?_
      refine W_skip (at_normal ?_)
      refine W_seq ?_
      refine W_block ?_
      refine W_seq ?_
      refine W_region ?_
      refine WL_step rfl rfl (Exec.move (v := Value.int .i64 ((i102 : Int))) rfl x108 ?_)
      obtain ⟨x109, q116, hm102⟩ := bind_some hm102
      refine WL_step rfl rfl (Exec.index_rep S40 rfl p136 x108 (a100.mono (PHeap.le.trans (PHeap.le.trans (PHeap.le.trans l105 l106) l113) l115)) q116 ?_)
      intro b107 o106 a106
      refine WL_step rfl rfl (Exec.load_at (E := encSystem) hS124 A26 rfl rfl rfl a106 ?_)
      intro v108 q117
      obtain ⟨u103, u104, u105, rfl, r106, r107, r108⟩ := encSystem_val.1 q117
      refine WL_step rfl rfl (Exec.alloc (cs := [Value.int .i64 (0), Value.int .i64 (0), Value.slice none 0 0, Value.slice none 0 0, Value.slice none 0 0]) hS124 Z26 rfl rfl ?_)
      intro b108 w116 hS125
      refine WL_step rfl rfl (Exec.assign (v := Value.int .i64 ((i102 : Int))) rfl rfl ?_)
      refine WL_step rfl rfl (Exec.store_box (ds := [Value.int .i64 (x109.States), Value.int .i64 (x109.Init), u103, u104, u105]) (es := [Value.int .i64 (x109.States), Value.int .i64 (x109.Init), u103, u104, u105]) hS125 A26 rfl rfl rfl rfl (one_cons rfl (one_cons rfl (one_cons (r106).one (one_cons (r107).one (one_cons (r108).one one_nil))))) (Nat.le_of_ble_eq_true rfl) rfl ?_)
      intro w117 hS126
      refine WL_nil (at_normal ?_)
      refine W_seq ?_
      refine W_seq ?_
      refine W_region ?_
      refine WL_step rfl rfl (Exec.move (v := Value.int .i64 ((i102 : Int))) rfl rfl ?_)
      refine WL_step rfl rfl (Exec.move (v := Value.int .i64 (k100)) rfl p133 ?_)
      refine WL_step rfl rfl (Exec.eql rfl rfl rfl ?_)
      refine WL_nil (at_normal ?_)
      rcases ite_some hm102 with ⟨hc105, hm102⟩ | ⟨hc105, hm102⟩
      ·refine W_cond_t rfl hc105 ?_
       refine W_exit (at_exit (ib_here (at_normal ?_)))
       refine W_region ?_
       refine WL_step rfl rfl (Exec.add rfl x108 rfl ?_)
       refine WL_step rfl rfl (Exec.move (v := Value.int .i64 (IntKind.i64.wrap ((i102 : Int) + 1))) rfl rfl ?_)
       refine WL_nil (at_normal ?_)
       have e108 := Option.some.inj hm102
       subst s118
       have hS127 := (hS126).drop
       have hS128 := (hS127).f1
       have hS129 := (hS128).f1
       exact ⟨s119, l115, hS129, p133, p134, p135, p136, p137, (Eq.trans rfl (wrap_up hi102 (SliceRep.le (a100.mono (PHeap.le.trans (PHeap.le.trans l105 l106) l113)))))⟩
      ·refine W_cond_f rfl hc105 ?_
       replace hc105 := not_true hc105
       refine W_skip (at_normal ?_)
       refine W_seq ?_
       refine W_seq ?_
       refine W_region ?_
       refine WL_step rfl rfl (Exec.move (v := Value.slice (some ⟨b104, 0, none⟩) (((l107.length : Int)).toNat) (((l107.length : Int)).toNat)) rfl p135 ?_)
       refine WL_step rfl rfl (Exec.len_slice Tryd.underlying66 rfl rfl ?_)
       refine WL_step rfl rfl (Exec.move (v := Value.int .i64 (0)) rfl rfl ?_)
       refine WL_nil (at_normal ?_)
       obtain ⟨u106, q118, hm102⟩ := bind_some hm102
       obtain ⟨l116, hB103, hm102⟩ := bind_some hm102
       refine W_block (W_forS (fun k' s' f' w' => (fun (l116 : (List (Option (List Int)))) => ∃ (s120 : PHeap) , PHeap.le s119 s120 ∧ St w0 s120 (Res.arr encStr 9 v105 l107 :: Res.blds 71 5 b104 (((l107.length : Int)).toNat) l116 :: Res.box b108 26 [Value.int .i64 (x109.States), Value.int .i64 (x109.Init), u103, u104, u105] :: H) w' ∧ f' 1 = Value.int .i64 (k100) ∧ f' 8 = v105 ∧ f' 9 = Value.slice (some ⟨b104, 0, none⟩) (((l107.length : Int)).toNat) (((l107.length : Int)).toNat) ∧ f' 13 = Value.pointer (some ⟨b108, 0, none⟩) ∧ f' 76 = v100 ∧ f' 77 = Value.int .i64 ((list100.length : Int)) ∧ f' 78 = Value.int .i64 ((i102 : Int)) ∧ f' 87 = Value.int .i64 (((((l107.length : Int)).toNat) : Int)) ∧ f' 88 = Value.int .i64 (k' : Int)) s') hB103 ?_ ?_ ?_)
       ·have hS130 := (hS126).f2
        have hS131 := (hS130).f2
        exact ⟨s119, (PHeap.le_refl _), hS131, p133, p134, p135, rfl, p136, p137, x108, rfl, rfl⟩
       ·intro i103 l116 s121 f108 w118 hi103 hI105 hm103
        obtain ⟨s122, l117, hS132, p138, p139, p140, p141, p142, p143, p144, p145, x110⟩ := hI105
        refine W_seq ?_
        refine W_region ?_
        refine WL_step rfl rfl (Exec.lss rfl x110 p145 ?_)
        refine WL_nil (at_normal ?_)
        refine W_seq ?_
        refine W_true (congrArg Value.bool (decide_eq_true (by omega))) ?_
        refine W_skip (at_normal ?_)
        refine W_seq ?_
        refine W_block ?_
        refine W_seq ?_
        refine W_region ?_
        refine WL_step rfl rfl (Exec.move (v := Value.int .i64 ((i103 : Int))) rfl x110 ?_)
        refine WL_step rfl rfl (Exec.assign (v := Value.int .i64 ((i103 : Int))) rfl rfl ?_)
        refine WL_nil (at_normal ?_)
        refine W_region ?_
        refine WL_step rfl rfl (Exec.move (v := Value.slice (some ⟨b104, 0, none⟩) (((l107.length : Int)).toNat) (((l107.length : Int)).toNat)) rfl p140 ?_)
        refine WL_step rfl rfl (Exec.move (v := Value.int .i64 ((i103 : Int))) rfl rfl ?_)
        obtain ⟨o107, q119, hm103⟩ := bind_some hm103
        refine WL_step rfl rfl (Exec.index_blds ((hS132).f1) S66 rfl rfl rfl q119 ?_)
        obtain ⟨l118, q120, hm103⟩ := bind_some hm103
        have hS133 := (hS132).f1
        refine WL_step rfl rfl (Exec.call rfl rfl Tryd.func40 rfl N40 (args_cons rfl (args_cons rfl args_nil)) ((blds_write_sim q120 hS133).mono ?_))
        rintro _ w119 ⟨_, rfl, rfl, hS134⟩
        refine ⟨_, rfl, ?_⟩
        refine WL_nil (ib_normal (at_normal ?_))
        refine W_region ?_
        refine WL_step rfl rfl (Exec.add rfl x110 rfl ?_)
        refine WL_step rfl rfl (Exec.move (v := Value.int .i64 (IntKind.i64.wrap ((i103 : Int) + 1))) rfl rfl ?_)
        refine WL_nil (at_normal ?_)
        have e109 := Option.some.inj hm103
        subst s121
        have hS135 := (hS134).f2
        have hS136 := (hS135).f1
        have hS137 := (hS136).f2
        exact ⟨s122, l117, hS137, p138, p139, p140, p141, p142, p143, p144, p145, (Eq.trans rfl (wrap_up hi103 (by have h := must_some q118; simp at h; simp only [maxLen]; omega)))⟩
       ·intro f109 w120 hI106
        obtain ⟨s123, l119, hS138, p146, p147, p148, p149, p150, p151, p152, p153, x111⟩ := hI106
        refine W_seq ?_
        refine W_region ?_
        refine WL_step rfl rfl (Exec.lss rfl x111 p153 ?_)
        refine WL_nil (at_normal ?_)
        refine W_seq ?_
        refine W_false (congrArg Value.bool (decide_eq_false (by omega))) ?_
        refine W_exit (at_exit (at_exit (ib_here (at_normal ?_))))
        refine W_seq ?_
        refine W_region ?_
        refine WL_step rfl rfl (Exec.field F26_3 rfl p149 rfl ?_)
        refine WL_step rfl rfl (Exec.load_box ((hS138).f2) A23 rfl rfl rfl ?_)
        refine WL_step rfl rfl (Exec.len_rep S23 rfl rfl (r107.mono l119) ?_)
        refine WL_step rfl rfl (Exec.move (v := Value.int .i64 (0)) rfl rfl ?_)
        refine WL_nil (at_normal ?_)
        obtain ⟨l120, hB104, hm102⟩ := bind_some hm102
        refine W_block (W_forS (fun k' s' f' w' => (fun (l120 : (List (Option (List Int)))) => ∃ (s124 : PHeap) , PHeap.le s123 s124 ∧ St w0 s124 (Res.arr encStr 9 v105 l107 :: Res.blds 71 5 b104 (((l107.length : Int)).toNat) l120 :: H) w' ∧ f' 1 = Value.int .i64 (k100) ∧ f' 8 = v105 ∧ f' 9 = Value.slice (some ⟨b104, 0, none⟩) (((l107.length : Int)).toNat) (((l107.length : Int)).toNat) ∧ f' 76 = v100 ∧ f' 77 = Value.int .i64 ((list100.length : Int)) ∧ f' 78 = Value.int .i64 ((i102 : Int)) ∧ f' 97 = u104 ∧ f' 98 = Value.int .i64 ((x109.Edges.length : Int)) ∧ f' 99 = Value.int .i64 (k' : Int)) s') hB104 ?_ ?_ ?_)
        ·have hS139 := ((hS138).f2).drop
         have hS140 := (hS139).f1
         have hS141 := (hS140).f1
         exact ⟨s123, (PHeap.le_refl _), hS141, p146, p147, p148, p150, p151, p152, rfl, rfl, rfl⟩
        ·intro i104 l120 s125 f110 w121 hi104 hI107 hm104
         obtain ⟨s126, l121, hS142, p154, p155, p156, p157, p158, p159, p160, p161, x112⟩ := hI107
         refine W_seq ?_
         refine W_region ?_
         refine WL_step rfl rfl (Exec.lss rfl x112 p161 ?_)
         refine WL_nil (at_normal ?_)
         refine W_seq ?_
         refine W_true (congrArg Value.bool (decide_eq_true (by omega))) ?_
         refine W_skip (at_normal ?_)
         refine W_seq ?_
         refine W_block ?_
         refine W_seq ?_
         refine W_region ?_
         obtain ⟨x113, q121, hm104⟩ := bind_some hm104
         refine WL_step rfl rfl (Exec.index_rep S23 rfl p160 x112 (r107.mono (PHeap.le.trans l119 l121)) q121 ?_)
         intro b109 o108 a107
         refine WL_step rfl rfl (Exec.load_at (E := encEdge) hS142 A53 rfl rfl rfl a107 ?_)
         intro v109 q122
         obtain rfl := encEdge_val.1 q122
         refine WL_step rfl rfl (Exec.alloc (cs := [Value.int .i64 (0), Value.int .i64 (0), Value.int .i64 (0)]) hS142 Z53 rfl rfl ?_)
         intro b110 w122 hS143
         refine WL_step rfl rfl (Exec.store_box (ds := [Value.int .i64 (x113.From), Value.int .i64 (x113.Label), Value.int .i64 (x113.To)]) (es := [Value.int .i64 (x113.From), Value.int .i64 (x113.Label), Value.int .i64 (x113.To)]) hS143 A53 rfl rfl rfl rfl (one_cons rfl (one_cons rfl (one_cons rfl one_nil))) (Nat.le_of_ble_eq_true rfl) rfl ?_)
         intro w123 hS144
         refine WL_nil (at_normal ?_)
         refine W_dl (n0 := 14) (.q 0 (.q 1 (.q 2 (.q 3 (.q 4 (.q 5 (.q 9 (.q 10 (.e 6 [0, 1, 2, 3, 9, 10] (.q 7 (.q 8 (.e 11 [0, 1, 2, 3, 7, 8] (.q 12 (.e 13 [] .done)))))))))))))) hmix (by kernel_rfl) (by kernel_rfl) ?_
         have hS145 := hS144.drew
         refine DL_q rfl rfl (Exec.move (v := Value.slice (some ⟨b104, 0, none⟩) (((l107.length : Int)).toNat) (((l107.length : Int)).toNat)) rfl p156 ⟨rfl, ?_⟩)
         refine DL_q rfl rfl (Exec.field F53_1 rfl rfl rfl ⟨rfl, ?_⟩)
         refine DL_q rfl rfl (Exec.load_box (hS145) A3 rfl rfl rfl ⟨rfl, ?_⟩)
         obtain ⟨o109, q123, hm104⟩ := bind_some hm104
         refine DL_q rfl rfl (Exec.index_blds ((hS145).f2) S66 rfl rfl rfl q123 ⟨rfl, ?_⟩)
         refine DL_q rfl rfl (Exec.field F53_0 rfl rfl rfl ⟨rfl, ?_⟩)
         refine DL_q rfl rfl (Exec.load_box (hS145) A3 rfl rfl rfl ⟨rfl, ?_⟩)
         refine DL_q rfl rfl (Exec.field F53_2 rfl rfl rfl ⟨rfl, ?_⟩)
         refine DL_q rfl rfl (Exec.load_box (hS145) A3 rfl rfl rfl ⟨rfl, ?_⟩)
         obtain ⟨y105, q124, hm104⟩ := bind_some hm104
         refine DL_e rfl rfl (Exec.call rfl rfl Tryd.func41 rfl N41 (args_cons rfl args_nil) ((strconv_Itoa_sim q124 hS145  (ht.mono (PHeap.le.trans (PHeap.le.trans (PHeap.le.trans (PHeap.le.trans (PHeap.le.trans l105 l106) l113) l115) l119) l121))).mono ?_))
         rintro _ w124 ⟨_, rfl, ⟨s127, l122, hS146, rfl⟩⟩
         refine ⟨_, rfl, ?_⟩
         refine ⟨(ag_cons (ag_r rfl rfl (Exec.move (v := Value.slice (some ⟨b104, 0, none⟩) (((l107.length : Int)).toNat) (((l107.length : Int)).toNat)) rfl p156 ⟨rfl, rfl⟩)) (ag_cons (ag_r rfl rfl (Exec.field F53_1 rfl rfl rfl ⟨rfl, rfl⟩)) (ag_cons (ag_r rfl rfl (Exec.load_box (hS146) A3 rfl rfl rfl ⟨rfl, rfl⟩)) (ag_cons (ag_r rfl rfl (Exec.index_blds ((hS146).f2) S66 rfl rfl rfl q123 ⟨rfl, rfl⟩)) (ag_cons (ag_r rfl rfl (Exec.field F53_2 rfl rfl rfl ⟨rfl, rfl⟩)) (ag_cons (ag_r rfl rfl (Exec.load_box (hS146) A3 rfl rfl rfl ⟨rfl, rfl⟩)) ag_nil)))))), ?_⟩
         obtain ⟨c102, q125, hm104⟩ := bind_some hm104
         refine DL_q rfl rfl (Exec.str_add rfl rfl rfl q125 ⟨rfl, ?_⟩)
         obtain ⟨c103, q126, hm104⟩ := bind_some hm104
         refine DL_q rfl rfl (Exec.str_add rfl rfl rfl q126 ⟨rfl, ?_⟩)
         obtain ⟨y106, q127, hm104⟩ := bind_some hm104
         refine DL_e rfl rfl (Exec.call rfl rfl Tryd.func41 rfl N41 (args_cons rfl args_nil) ((strconv_Itoa_sim q127 hS146  (ht.mono (PHeap.le.trans (PHeap.le.trans (PHeap.le.trans (PHeap.le.trans (PHeap.le.trans (PHeap.le.trans l105 l106) l113) l115) l119) l121) l122))).mono ?_))
         rintro _ w125 ⟨_, rfl, ⟨s128, l123, hS147, rfl⟩⟩
         refine ⟨_, rfl, ?_⟩
         refine ⟨(ag_cons (ag_r rfl rfl (Exec.move (v := Value.slice (some ⟨b104, 0, none⟩) (((l107.length : Int)).toNat) (((l107.length : Int)).toNat)) rfl p156 ⟨rfl, rfl⟩)) (ag_cons (ag_r rfl rfl (Exec.field F53_1 rfl rfl rfl ⟨rfl, rfl⟩)) (ag_cons (ag_r rfl rfl (Exec.load_box (hS147) A3 rfl rfl rfl ⟨rfl, rfl⟩)) (ag_cons (ag_r rfl rfl (Exec.index_blds ((hS147).f2) S66 rfl rfl rfl q123 ⟨rfl, rfl⟩)) (ag_cons (ag_r rfl rfl (Exec.str_add rfl rfl rfl q125 ⟨rfl, rfl⟩)) (ag_cons (ag_r rfl rfl (Exec.str_add rfl rfl rfl q126 ⟨rfl, rfl⟩)) ag_nil)))))), ?_⟩
         obtain ⟨c104, q128, hm104⟩ := bind_some hm104
         refine DL_q rfl rfl (Exec.str_add rfl rfl rfl q128 ⟨rfl, ?_⟩)
         obtain ⟨l124, q129, hm104⟩ := bind_some hm104
         have hS148 := (hS147).f2
         refine DL_e rfl rfl (Exec.call rfl rfl Tryd.func40 rfl N40 (args_cons rfl (args_cons rfl args_nil)) ((blds_write_sim q129 hS148).mono ?_))
         rintro _ w126 ⟨_, rfl, rfl, hS149⟩
         refine ⟨_, rfl, ?_⟩
         refine ⟨ag_nil, ?_⟩
         refine DL_done ?_
         refine WL_nil (ib_normal (at_normal ?_))
         refine W_region ?_
         refine WL_step rfl rfl (Exec.add rfl x112 rfl ?_)
         refine WL_step rfl rfl (Exec.move (v := Value.int .i64 (IntKind.i64.wrap ((i104 : Int) + 1))) rfl rfl ?_)
         refine WL_nil (at_normal ?_)
         have e110 := Option.some.inj hm104
         subst s125
         have hS150 := ((hS149).f1).drop
         have hS151 := (hS150).f1
         exact ⟨s128, (PHeap.le.trans (PHeap.le.trans l121 l122) l123), hS151, p154, p155, p156, p157, p158, p159, p160, p161, (Eq.trans rfl (wrap_up hi104 (SliceRep.le (r107.mono l119))))⟩
        ·intro f111 w127 hI108
         obtain ⟨s129, l125, hS152, p162, p163, p164, p165, p166, p167, p168, p169, x114⟩ := hI108
         refine W_seq ?_
         refine W_region ?_
         refine WL_step rfl rfl (Exec.lss rfl x114 p169 ?_)
         refine WL_nil (at_normal ?_)
         refine W_seq ?_
         refine W_false (congrArg Value.bool (decide_eq_false (by omega))) ?_
         refine W_exit (at_exit (at_exit (ib_here (ib_normal (at_normal ?_)))))
         refine W_region ?_
         refine WL_step rfl rfl (Exec.add rfl p167 rfl ?_)
         refine WL_step rfl rfl (Exec.move (v := Value.int .i64 (IntKind.i64.wrap ((i102 : Int) + 1))) rfl rfl ?_)
         refine WL_nil (at_normal ?_)
         have e111 := Option.some.inj hm102
         subst s118
         have hS153 := (hS152).f1
         have hS154 := (hS153).f1
         exact ⟨s129, (PHeap.le.trans (PHeap.le.trans l115 l119) l125), hS154, p162, p163, p164, p165, p166, (Eq.trans rfl (wrap_up hi102 (SliceRep.le (a100.mono (PHeap.le.trans (PHeap.le.trans l105 l106) l113)))))⟩
     ·intro f112 w128 hI109
      obtain ⟨s130, l126, hS155, p170, p171, p172, p173, p174, x115⟩ := hI109
      refine W_seq ?_
      refine W_region ?_
      refine WL_step rfl rfl (Exec.lss rfl x115 p174 ?_)
      refine WL_nil (at_normal ?_)
      refine W_seq ?_
      refine W_false (congrArg Value.bool (decide_eq_false (by omega))) ?_
      refine W_exit (at_exit (at_exit (ib_here (at_normal ?_))))
      refine W_seq ?_
      refine W_seq ?_
      refine W_region ?_
      refine WL_step rfl rfl (Exec.move (v := Value.slice (some ⟨b104, 0, none⟩) (((l107.length : Int)).toNat) (((l107.length : Int)).toNat)) rfl p172 ?_)
      refine WL_step rfl rfl (Exec.len_slice Tryd.underlying66 rfl rfl ?_)
      refine WL_step rfl rfl (Exec.move (v := Value.int .i64 (0)) rfl rfl ?_)
      refine WL_nil (at_normal ?_)
      obtain ⟨u107, q130, hm⟩ := bind_some hm
      obtain ⟨t103, hB105, hm⟩ := bind_some hm
      refine W_block (W_forS (fun k' s' f' w' => (un2 fun (l127 : (List ByteArray)) (l128 : (List (Option (List Int)))) => ∃ (s131 : PHeap) , PHeap.le s130 s131 ∧ St w0 s131 (Res.arr encStr 9 v105 l127 :: Res.blds 71 5 b104 (((l107.length : Int)).toNat) l128 :: H) w' ∧ f' 8 = v105 ∧ f' 9 = Value.slice (some ⟨b104, 0, none⟩) (((l107.length : Int)).toNat) (((l107.length : Int)).toNat) ∧ f' 120 = Value.int .i64 (((((l107.length : Int)).toNat) : Int)) ∧ f' 121 = Value.int .i64 (k' : Int)) s') hB105 ?_ ?_ ?_)
      ·have hS156 := (hS155).f1
       have hS157 := (hS156).f1
       exact ⟨s130, (PHeap.le_refl _), hS157, p171, p172, rfl, rfl⟩
      ·intro i105 t104 s132 f113 w129 hi105 hI110 hm105
       obtain ⟨l127, l128⟩ := t104
       replace hm105 := un2_eq hm105
       obtain ⟨s133, l129, hS158, p175, p176, p177, x116⟩ := hI110
       refine W_seq ?_
       refine W_region ?_
       refine WL_step rfl rfl (Exec.lss rfl x116 p177 ?_)
       refine WL_nil (at_normal ?_)
       refine W_seq ?_
       refine W_true (congrArg Value.bool (decide_eq_true (by omega))) ?_
       refine W_skip (at_normal ?_)
       refine W_seq ?_
       refine W_block ?_
       refine W_seq ?_
       refine W_region ?_
       refine WL_step rfl rfl (Exec.move (v := Value.int .i64 ((i105 : Int))) rfl x116 ?_)
       refine WL_step rfl rfl (Exec.assign (v := Value.int .i64 ((i105 : Int))) rfl rfl ?_)
       refine WL_nil (at_normal ?_)
       refine W_region ?_
       refine WL_step rfl rfl (Exec.move (v := v105) rfl p175 ?_)
       refine WL_step rfl rfl (Exec.move (v := Value.int .i64 ((i105 : Int))) rfl rfl ?_)
       refine WL_step rfl rfl (Exec.move (v := Value.slice (some ⟨b104, 0, none⟩) (((l107.length : Int)).toNat) (((l107.length : Int)).toNat)) rfl p176 ?_)
       refine WL_step rfl rfl (Exec.move (v := Value.int .i64 ((i105 : Int))) rfl rfl ?_)
       obtain ⟨o110, q131, hm105⟩ := bind_some hm105
       refine WL_step rfl rfl (Exec.index_blds ((hS158).f1) S66 rfl rfl rfl q131 ?_)
       obtain ⟨t105, h100, hm105⟩ := bind_some hm105
       obtain ⟨q132, l130⟩ := t105
       replace hm105 := un2_eq hm105
       have hS159 := (hS158).f1
       refine WL_step rfl rfl (Exec.call rfl rfl Tryd.func42 rfl N42 (args_cons rfl args_nil) ((blds_string_sim h100 hS159).mono ?_))
       rintro _ w130 ⟨_, rfl, rfl, hS160⟩
       refine ⟨_, rfl, ?_⟩
       obtain ⟨x117, q133, hm105⟩ := bind_some hm105
       obtain ⟨g100, c105, e112⟩ := ((hS160).f1).arr_at q133
       refine WL_step rfl rfl (Exec.index_slice S54 rfl e112 rfl (idx_some q133).1 (idx_some q133).2.1 ?_)
       obtain ⟨l131, q134, hm105⟩ := bind_some hm105
       have hS161 := (hS160).f1
       refine WL_step rfl rfl (Exec.store_arr hS161 e112 A9 rfl rfl rfl rfl (encStr_val.2 rfl) q134 ?_)
       intro w131 hS162
       refine WL_nil (ib_normal (at_normal ?_))
       refine W_region ?_
       refine WL_step rfl rfl (Exec.add rfl x116 rfl ?_)
       refine WL_step rfl rfl (Exec.move (v := Value.int .i64 (IntKind.i64.wrap ((i105 : Int) + 1))) rfl rfl ?_)
       refine WL_nil (at_normal ?_)
       have e113 := Option.some.inj hm105
       subst s132
       have hS163 := (hS162).f1
       have hS164 := (hS163).f1
       exact ⟨s133, l129, hS164, p175, p176, p177, (Eq.trans rfl (wrap_up hi105 (by have h := must_some q130; simp at h; simp only [maxLen]; omega)))⟩
      ·intro f114 w132 hI111
       obtain ⟨l127, l128⟩ := t103
       replace hm := un2_eq hm
       obtain ⟨s134, l132, hS165, p178, p179, p180, x118⟩ := hI111
       refine W_seq ?_
       refine W_region ?_
       refine WL_step rfl rfl (Exec.lss rfl x118 p180 ?_)
       refine WL_nil (at_normal ?_)
       refine W_seq ?_
       refine W_false (congrArg Value.bool (decide_eq_false (by omega))) ?_
       refine W_exit (at_exit (at_exit (ib_here (at_normal ?_))))
       refine W_seq ?_
       refine W_region ?_
       refine WL_step rfl rfl (Exec.move (v := v105) rfl p178 ?_)
       obtain ⟨t106, q135, hm⟩ := bind_some hm
       obtain ⟨y107, y108⟩ := t106
       replace hm := un2_eq hm
       refine WL_step rfl rfl (Exec.call rfl rfl Tryd.func30 rfl N30 (args_cons rfl args_nil) ((shrink_numbered_o_sim q135 hS165 ).mono ?_))
       rintro _ w133 ⟨_, rfl, ⟨s135, v110, l133, hS166, rfl⟩⟩
       refine ⟨_, rfl, ?_⟩
       refine WL_step rfl rfl (Exec.move (v := Value.tuple #[v110, Value.int .i64 (y108)]) rfl rfl ?_)
       refine WL_step rfl rfl (Exec.extract (v := v110) rfl rfl rfl ?_)
       refine WL_step rfl rfl (Exec.extract (v := Value.int .i64 (y108)) rfl rfl rfl ?_)
       refine WL_step rfl rfl (Exec.assign (v := v110) rfl rfl ?_)
       refine WL_step rfl rfl (Exec.assign (v := Value.int .i64 (y108)) rfl rfl ?_)
       refine WL_nil (at_normal ?_)
       refine W_seq ?_
       refine W_region ?_
       refine WL_step rfl rfl (Exec.move (v := v110) rfl rfl ?_)
       refine WL_step rfl rfl (Exec.assign (v := v110) rfl rfl ?_)
       refine WL_step rfl rfl (Exec.assign (v := errV 34 (none)) rfl rfl ?_)
       refine WL_nil (at_normal ?_)
       refine W_ret ?_
       have e114 := Option.some.inj hm
       subst r
       refine ⟨_, ret2 rfl, ?_⟩
       have hS167 := (hS166).f1
       obtain ⟨s136, l134, hS168, r109⟩ := hS167.freezeArr
       have hS169 := (hS168).drop
       have hS170 := (hS169).drop
       exact ⟨s136, v110, (PHeap.le.trans (PHeap.le.trans (PHeap.le.trans (PHeap.le.trans (PHeap.le.trans (PHeap.le.trans l105 l106) l113) l126) l132) l133) l134), hS170, (tup2 rfl rfl), r109⟩

theorem N46 : (Tryd.f46.name == "runtime.NumGoroutine") = false := by kernel_rfl

theorem shrink_classes_sim {w0 w : World} {s : PHeap} {H : List Res} {class100 : (List Int)} {n100 : Int} {v100 : Value} {r : Int × Bool} (hm : shrink_classes_p class100 n100 = some r) (hS : St w0 s (H) w) (a100 : SliceRep (encInt .i64) s v100 class100) :
  Calls Tryd.prog 46 #[v100, Value.int .i64 (n100)] w fun e w' => ∃ v, e = .returned v ∧ ((un2 fun (y100 : Int) (y101 : Bool) => ∃ (s100 : PHeap) , PHeap.le s s100 ∧ St w0 s100 (H) w' ∧ v = Value.tuple #[Value.int .i64 (y100), Value.bool (y101)]) r) := by
 unfold shrink_classes_p at hm
 refine calls_of_W Tryd.func46 rfl rfl ?_
 refine W_seq ?_
 refine W_region ?_
 refine WL_step rfl rfl (Exec.assign (v := Value.int .i64 (0)) rfl rfl ?_)
 refine WL_step rfl rfl (Exec.assign (v := Value.bool (false)) rfl rfl ?_)
 refine WL_nil (at_normal ?_)
 refine W_seq ?_
 refine W_seq ?_
 refine W_region ?_
 refine WL_step rfl rfl (Exec.move (v := v100) rfl rfl ?_)
 refine WL_step rfl rfl (Exec.len_rep S22 rfl rfl a100 ?_)
 refine WL_step rfl rfl (Exec.move (v := Value.int .i64 (n100)) rfl rfl ?_)
 refine WL_step rfl rfl (Exec.neq rfl rfl rfl ?_)
 refine WL_nil (at_normal ?_)
 rcases ite_some hm with ⟨hc100, hm⟩ | ⟨hc100, hm⟩
 ·refine W_cond_t rfl hc100 ?_
  refine W_seq ?_
  refine W_region ?_
  refine WL_step rfl rfl (Exec.assign (v := Value.int .i64 (0)) rfl rfl ?_)
  refine WL_step rfl rfl (Exec.assign (v := Value.bool (false)) rfl rfl ?_)
  refine WL_nil (at_normal ?_)
  refine W_ret (at_ret ?_)
  have e100 := Option.some.inj hm
  subst r
  refine ⟨_, ret2 rfl, ?_⟩
  exact ⟨s, (PHeap.le_refl _), hS, (tup2 rfl rfl)⟩
 ·refine W_cond_f rfl hc100 ?_
  replace hc100 := not_true hc100
  refine W_skip (at_normal ?_)
  refine W_seq ?_
  refine W_region ?_
  refine WL_step rfl rfl (Exec.move (v := Value.int .i64 (n100)) rfl rfl ?_)
  obtain ⟨l100, q100, hm⟩ := bind_some hm
  refine WL_step rfl rfl (Exec.make (E := encBool) hS S24 Z4 rfl rfl rfl rfl q100 ?_)
  intro v101 w100 hS100
  refine WL_step rfl rfl (Exec.assign (v := v101) rfl rfl ?_)
  refine WL_nil (at_normal ?_)
  refine W_seq ?_
  refine W_region ?_
  refine WL_step rfl rfl (Exec.assign (v := Value.int .i64 (0)) rfl rfl ?_)
  refine WL_nil (at_normal ?_)
  refine W_seq ?_
  refine W_seq ?_
  refine W_region ?_
  refine WL_step rfl rfl (Exec.move (v := v100) rfl rfl ?_)
  refine WL_step rfl rfl (Exec.len_rep S22 rfl rfl a100 ?_)
  refine WL_step rfl rfl (Exec.move (v := Value.int .i64 (0)) rfl rfl ?_)
  refine WL_nil (at_normal ?_)
  obtain ⟨c100, hB100, hr100, hn100, hb100⟩ := ctl_some hm
  refine W_mid (M := fun f' w' => ∃ s', (c100 = .next s' ∨ c100 = .brk s') ∧ (un2 fun (most100 : Int) (l101 : (List Bool)) => ∃ (s101 : PHeap) , PHeap.le s s101 ∧ St w0 s101 (Res.arr encBool 4 v101 l101 :: H) w' ∧ f' 1 = Value.int .i64 (n100) ∧ f' 6 = v101 ∧ f' 7 = Value.int .i64 (most100) ∧ f' 18 = v100 ∧ f' 19 = Value.int .i64 ((class100.length : Int))) s') ?_ ?_
  ·refine W_block (W_forC (fun k' s' f' w' => (un2 fun (most101 : Int) (l102 : (List Bool)) => ∃ (s102 : PHeap) , PHeap.le s s102 ∧ St w0 s102 (Res.arr encBool 4 v101 l102 :: H) w' ∧ f' 1 = Value.int .i64 (n100) ∧ f' 6 = v101 ∧ f' 7 = Value.int .i64 (most101) ∧ f' 18 = v100 ∧ f' 19 = Value.int .i64 ((class100.length : Int)) ∧ f' 20 = Value.int .i64 (k' : Int)) s') hB100 ?_ ?_ ?_)
   ·exact ⟨s, (PHeap.le_refl _), hS100, rfl, rfl, rfl, rfl, rfl, rfl⟩
   ·intro i100 t100 c101 f100 w101 hi100 hI100 hm100 hres100
    obtain ⟨most101, l102⟩ := t100
    replace hm100 := un2_eq hm100
    obtain ⟨s103, l103, hS101, p100, p101, p102, p103, p104, x100⟩ := hI100
    refine W_seq ?_
    refine W_region ?_
    refine WL_step rfl rfl (Exec.lss rfl x100 p104 ?_)
    refine WL_nil (at_normal ?_)
    refine W_seq ?_
    refine W_true (congrArg Value.bool (decide_eq_true (by omega))) ?_
    refine W_skip (at_normal ?_)
    refine W_seq ?_
    refine W_block ?_
    refine W_seq ?_
    refine W_region ?_
    obtain ⟨x101, q101, hm100⟩ := bind_some hm100
    refine WL_step rfl rfl (Exec.index_rep S22 rfl p103 x100 (a100.mono l103) q101 ?_)
    intro b100 o100 a101
    refine WL_step rfl rfl (Exec.load_at (E := (encInt .i64)) hS101 A3 rfl rfl rfl a101 ?_)
    intro v102 q102
    obtain rfl := encInt_val.1 q102
    refine WL_step rfl rfl (Exec.assign (v := Value.int .i64 (x101)) rfl rfl ?_)
    refine WL_nil (at_normal ?_)
    refine W_seq ?_
    refine W_seq ?_
    refine W_mid (M := fun f' w' => ∃ (s104 : PHeap) , PHeap.le s103 s104 ∧ St w0 s104 (Res.arr encBool 4 v101 l102 :: H) w' ∧ f' 1 = Value.int .i64 (n100) ∧ f' 6 = v101 ∧ f' 7 = Value.int .i64 (most101) ∧ f' 9 = Value.int .i64 (x101) ∧ f' 18 = v100 ∧ f' 19 = Value.int .i64 ((class100.length : Int)) ∧ f' 20 = Value.int .i64 ((i100 : Int)) ∧ f' 30 = Value.bool (((decide (x101 < 0)) || decide (n100 ≤ x101)))) ?_ ?_
    ·refine W_region ?_
     refine WL_step rfl rfl (Exec.move (v := Value.int .i64 (x101)) rfl rfl ?_)
     refine WL_step rfl rfl (Exec.lss rfl rfl rfl ?_)
     refine WL_step rfl rfl (Exec.move (v := Value.bool (decide (x101 < 0))) rfl rfl ?_)
     by_cases hc101 : (decide (x101 < 0)) = true
     ·refine WL_pass rfl (yield_of rfl (congrArg Value.bool hc101)) rfl rfl ?_
      refine WL_pass rfl (yield_of rfl (congrArg Value.bool hc101)) rfl rfl ?_
      refine WL_pass rfl (yield_of rfl (congrArg Value.bool hc101)) rfl rfl ?_
      refine WL_step rfl rfl (Exec.pick_t (v := Value.bool (true)) rfl (congrArg Value.bool hc101) rfl ?_)
      refine WL_nil (at_normal ?_)
      exact ⟨s103, (PHeap.le_refl _), hS101, p100, p101, p102, rfl, p103, p104, x100, (congrArg Value.bool (or_t hc101)).symm⟩
     ·replace hc101 := not_true hc101
      refine WL_run rfl (yield_of rfl (congrArg Value.bool hc101)) rfl (Exec.move (v := Value.int .i64 (x101)) rfl rfl ?_)
      refine WL_run rfl (yield_of rfl (congrArg Value.bool hc101)) rfl (Exec.move (v := Value.int .i64 (n100)) rfl p100 ?_)
      refine WL_run rfl (yield_of rfl (congrArg Value.bool hc101)) rfl (Exec.geq rfl rfl rfl ?_)
      refine WL_step rfl rfl (Exec.pick_f (v := Value.bool (decide (n100 ≤ x101))) rfl (congrArg Value.bool hc101) rfl ?_)
      refine WL_nil (at_normal ?_)
      exact ⟨s103, (PHeap.le_refl _), hS101, p100, p101, p102, rfl, p103, p104, x100, (congrArg Value.bool (or_f hc101)).symm⟩
    ·intro f101 w102 hM100
     obtain ⟨s105, l104, hS102, p105, p106, p107, p108, p109, p110, p111, p112⟩ := hM100
     refine (at_normal ?_)
     rcases ite_some hm100 with ⟨hc102, hm100⟩ | ⟨hc102, hm100⟩
     ·refine W_cond_t p112 hc102 ?_
      refine W_seq ?_
      refine W_region ?_
      refine WL_step rfl rfl (Exec.assign (v := Value.int .i64 (0)) rfl rfl ?_)
      refine WL_step rfl rfl (Exec.assign (v := Value.bool (false)) rfl rfl ?_)
      refine WL_nil (at_normal ?_)
      refine W_ret (at_ret (ib_ret (at_ret (at_ret (ib_ret (at_ret (at_ret ?_)))))))
      have e101 := Option.some.inj hm100
      subst c101
      have hq100 := hr100 _ (hres100 (by intro _ h; cases h))
      have e102 := Option.some.inj hq100
      subst r
      refine ⟨_, ret2 rfl, ?_⟩
      have hS103 := (hS102).drop
      exact ⟨s105, (PHeap.le.trans l103 l104), hS103, (tup2 rfl rfl)⟩
     ·refine W_cond_f p112 hc102 ?_
      replace hc102 := not_true hc102
      refine W_skip (at_normal ?_)
      refine W_seq ?_
      refine W_region ?_
      refine WL_step rfl rfl (Exec.move (v := v101) rfl p106 ?_)
      refine WL_step rfl rfl (Exec.move (v := Value.int .i64 (x101)) rfl p108 ?_)
      obtain ⟨x102, q103, hm100⟩ := bind_some hm100
      obtain ⟨g100, c102, e103⟩ := (hS102).arr_at q103
      refine WL_step rfl rfl (Exec.index_slice S24 rfl e103 rfl (idx_some q103).1 (idx_some q103).2.1 ?_)
      obtain ⟨l105, q104, hm100⟩ := bind_some hm100
      refine WL_step rfl rfl (Exec.store_arr hS102 e103 A4 rfl rfl rfl rfl (encBool_val.2 rfl) q104 ?_)
      intro w103 hS104
      refine WL_nil (at_normal ?_)
      refine W_region ?_
      refine WL_step rfl rfl (Exec.move (v := Value.int .i64 (most101)) rfl p107 ?_)
      refine WL_step rfl rfl (Exec.move (v := Value.int .i64 (x101)) rfl p108 ?_)
      refine WL_step rfl rfl (Exec.add rfl rfl rfl ?_)
      refine WL_step rfl rfl (Exec.max2 rfl rfl rfl ?_)
      refine WL_step rfl rfl (Exec.assign (v := Value.int .i64 (max most101 (IntKind.i64.wrap (x101 + 1)))) rfl rfl ?_)
      refine WL_nil (ib_normal (at_normal ?_))
      refine W_region ?_
      refine WL_step rfl rfl (Exec.add rfl p111 rfl ?_)
      refine WL_step rfl rfl (Exec.move (v := Value.int .i64 (IntKind.i64.wrap ((i100 : Int) + 1))) rfl rfl ?_)
      refine WL_nil (at_normal ?_)
      have e104 := Option.some.inj hm100
      subst c101
      refine ⟨_, rfl, ?_⟩; exact ⟨s105, (PHeap.le.trans l103 l104), hS104, p105, p106, rfl, p109, p110, (Eq.trans rfl (wrap_up hi100 (SliceRep.le a100)))⟩
   ·intro t101 f102 w104 hI101 hres101
    obtain ⟨most101, l102⟩ := t101
    obtain ⟨s106, l106, hS105, p113, p114, p115, p116, p117, x103⟩ := hI101
    refine W_seq ?_
    refine W_region ?_
    refine WL_step rfl rfl (Exec.lss rfl x103 p117 ?_)
    refine WL_nil (at_normal ?_)
    refine W_seq ?_
    refine W_false (congrArg Value.bool (decide_eq_false (by omega))) ?_
    refine W_exit (at_exit (at_exit (ib_here (at_normal ?_))))
    refine ⟨_, .inl hres101, ?_⟩; exact ⟨s106, l106, hS105, p113, p114, p115, p116, p117⟩
  ·rintro f103 w105 ⟨t102, hc103, hM101⟩
   have hm := hc103.elim (hn100 _) (hb100 _)
   clear hc103
   obtain ⟨most100, l101⟩ := t102
   replace hm := un2_eq hm
   obtain ⟨s107, l107, hS106, p118, p119, p120, p121, p122⟩ := hM101
   refine (at_normal ?_)
   refine W_seq ?_
   refine W_seq ?_
   refine W_region ?_
   refine WL_step rfl rfl (Exec.move (v := v101) rfl p119 ?_)
   refine WL_step rfl rfl (Exec.move (v := Value.int .i64 (most100)) rfl p120 ?_)
   obtain ⟨s108, l108, hS107, r100⟩ := hS106.freezeArr
   obtain ⟨c103, q105, hm⟩ := bind_some hm
   refine WL_step rfl rfl (Exec.slice_to S24 rfl rfl rfl r100 q105 ?_)
   intro v103 r101
   refine WL_step rfl rfl (Exec.len_rep S24 rfl rfl r101 ?_)
   refine WL_step rfl rfl (Exec.move (v := Value.int .i64 (0)) rfl rfl ?_)
   refine WL_nil (at_normal ?_)
   obtain ⟨c104, hB101, hr101, hn101, hb101⟩ := ctl_some hm
   refine W_mid (M := fun f' w' => ∃ s', (c104 = .next s' ∨ c104 = .brk s') ∧ (fun (_ : Unit) => ∃ (s109 : PHeap) , PHeap.le s108 s109 ∧ St w0 s109 (H) w' ∧ f' 7 = Value.int .i64 (most100) ∧ f' 41 = v103 ∧ f' 42 = Value.int .i64 ((c103.length : Int))) s') ?_ ?_
   ·refine W_block (W_forC (fun k' s' f' w' => (fun (_ : Unit) => ∃ (s110 : PHeap) , PHeap.le s108 s110 ∧ St w0 s110 (H) w' ∧ f' 7 = Value.int .i64 (most100) ∧ f' 41 = v103 ∧ f' 42 = Value.int .i64 ((c103.length : Int)) ∧ f' 43 = Value.int .i64 (k' : Int)) s') hB101 ?_ ?_ ?_)
    ·exact ⟨s108, (PHeap.le_refl _), hS107, p120, rfl, rfl, rfl⟩
    ·intro i101 t103 c105 f104 w106 hi101 hI102 hm101 hres102
     obtain ⟨s111, l109, hS108, p123, p124, p125, x104⟩ := hI102
     refine W_seq ?_
     refine W_region ?_
     refine WL_step rfl rfl (Exec.lss rfl x104 p125 ?_)
     refine WL_nil (at_normal ?_)
     refine W_seq ?_
     refine W_true (congrArg Value.bool (decide_eq_true (by omega))) ?_
     refine W_skip (at_normal ?_)
     refine W_seq ?_
     refine W_block ?_
     refine W_seq ?_
     refine W_region ?_
     obtain ⟨x105, q106, hm101⟩ := bind_some hm101
     refine WL_step rfl rfl (Exec.index_rep S24 rfl p124 x104 (r101.mono l109) q106 ?_)
     intro b101 o101 a102
     refine WL_step rfl rfl (Exec.load_at (E := encBool) hS108 A4 rfl rfl rfl a102 ?_)
     intro v104 q107
     obtain rfl := encBool_val.1 q107
     refine WL_step rfl rfl (Exec.assign (v := Value.bool (x105)) rfl rfl ?_)
     refine WL_nil (at_normal ?_)
     refine W_seq ?_
     refine W_region ?_
     refine WL_step rfl rfl (Exec.move (v := Value.bool (x105)) rfl rfl ?_)
     refine WL_step rfl rfl (Exec.not rfl rfl ?_)
     refine WL_nil (at_normal ?_)
     rcases ite_some hm101 with ⟨hc104, hm101⟩ | ⟨hc104, hm101⟩
     ·refine W_cond_t rfl hc104 ?_
      refine W_seq ?_
      refine W_region ?_
      refine WL_step rfl rfl (Exec.assign (v := Value.int .i64 (0)) rfl rfl ?_)
      refine WL_step rfl rfl (Exec.assign (v := Value.bool (false)) rfl rfl ?_)
      refine WL_nil (at_normal ?_)
      refine W_ret (ib_ret (at_ret (at_ret (ib_ret (at_ret (at_ret ?_))))))
      have e105 := Option.some.inj hm101
      subst c105
      have hq101 := hr101 _ (hres102 (by intro _ h; cases h))
      have e106 := Option.some.inj hq101
      subst r
      refine ⟨_, ret2 rfl, ?_⟩
      exact ⟨s111, (PHeap.le.trans (PHeap.le.trans l107 l108) l109), hS108, (tup2 rfl rfl)⟩
     ·refine W_cond_f rfl hc104 ?_
      replace hc104 := not_true hc104
      refine W_skip (ib_normal (at_normal ?_))
      refine W_region ?_
      refine WL_step rfl rfl (Exec.add rfl x104 rfl ?_)
      refine WL_step rfl rfl (Exec.move (v := Value.int .i64 (IntKind.i64.wrap ((i101 : Int) + 1))) rfl rfl ?_)
      refine WL_nil (at_normal ?_)
      have e107 := Option.some.inj hm101
      subst c105
      refine ⟨_, rfl, ?_⟩; exact ⟨s111, l109, hS108, p123, p124, p125, (Eq.trans rfl (wrap_up hi101 (SliceRep.le r101)))⟩
    ·intro t104 f105 w107 hI103 hres103
     obtain ⟨s112, l110, hS109, p126, p127, p128, x106⟩ := hI103
     refine W_seq ?_
     refine W_region ?_
     refine WL_step rfl rfl (Exec.lss rfl x106 p128 ?_)
     refine WL_nil (at_normal ?_)
     refine W_seq ?_
     refine W_false (congrArg Value.bool (decide_eq_false (by omega))) ?_
     refine W_exit (at_exit (at_exit (ib_here (at_normal ?_))))
     refine ⟨_, .inl hres103, ?_⟩; exact ⟨s112, l110, hS109, p126, p127, p128⟩
   ·rintro f106 w108 ⟨t105, hc105, hM102⟩
    have hm := hc105.elim (hn101 _) (hb101 _)
    clear hc105
    obtain ⟨s113, l111, hS110, p129, p130, p131⟩ := hM102
    refine (at_normal ?_)
    refine W_seq ?_
    refine W_region ?_
    refine WL_step rfl rfl (Exec.move (v := Value.int .i64 (most100)) rfl p129 ?_)
    refine WL_step rfl rfl (Exec.assign (v := Value.int .i64 (most100)) rfl rfl ?_)
    refine WL_step rfl rfl (Exec.assign (v := Value.bool (true)) rfl rfl ?_)
    refine WL_nil (at_normal ?_)
    refine W_ret ?_
    have e108 := Option.some.inj hm
    subst r
    refine ⟨_, ret2 rfl, ?_⟩
    exact ⟨s113, (PHeap.le.trans (PHeap.le.trans l107 l108) l111), hS110, (tup2 rfl rfl)⟩

theorem N47 : (Tryd.f47.name == "runtime.NumGoroutine") = false := by kernel_rfl

theorem slices_Clone___int_int__sim {w0 w : World} {s : PHeap} {H : List Res} {s_100 : (List Int)} {v100 : Value} {r : (List Int)} (hm : slices_Clone___int_int__p s_100 = some r) (hS : St w0 s (H) w) (a100 : SliceRep (encInt .i64) s v100 s_100) :
  Calls Tryd.prog 47 #[v100] w fun e w' => ∃ v, e = .returned v ∧ ((fun (y100 : (List Int)) => ∃ (s100 : PHeap) (v101 : Value), PHeap.le s s100 ∧ St w0 s100 (Res.arr (encInt .i64) 3 v101 y100 :: H) w' ∧ v = v101) r) := by
 unfold slices_Clone___int_int__p at hm
 refine calls_of_W Tryd.func47 rfl rfl ?_
 refine W_seq ?_
 refine W_region ?_
 refine WL_step rfl rfl (Exec.assign (v := Value.slice none 0 0) rfl rfl ?_)
 refine WL_nil (at_normal ?_)
 refine W_seq ?_
 refine W_seq ?_
 refine W_region ?_
 refine WL_step rfl rfl (Exec.move (v := v100) rfl rfl ?_)
 obtain ⟨a101, n100, c100, e100, hn100⟩ := (a100).nilShape
 refine WL_step rfl rfl (Exec.slice_eql_nil Tryd.underlying22 rfl e100 rfl ?_)
 refine WL_nil (at_normal ?_)
 by_cases hc100 : a101.isNone = true
 ·have hq100 := hn100 hc100
  replace hm := (show (some []) = ((app 8 [] s_100).bind fun l100 => some l100) from by simp [hq100, app]).trans hm
  refine W_true ((congrArg Value.bool hc100)) ?_
  refine W_seq ?_
  refine W_region ?_
  refine WL_step rfl rfl (Exec.assign (v := Value.slice none 0 0) rfl rfl ?_)
  refine WL_nil (at_normal ?_)
  refine W_ret (at_ret ?_)
  have e101 := Option.some.inj hm
  subst r
  refine ⟨_, ret1 rfl, ?_⟩
  have hS100 := hS.nilArr (encInt .i64) 3
  exact ⟨s, (Value.slice none 0 0), (PHeap.le_refl _), hS100, rfl⟩
 ·replace hc100 := not_true hc100
  refine W_false ((congrArg Value.bool hc100)) ?_
  refine W_skip (at_normal ?_)
  refine W_seq ?_
  refine W_region ?_
  refine WL_step rfl rfl (Exec.buildSlice (Te := 3) (cs := []) hS rfl parts_nil (fun _ => by kernel_rfl) ?_)
  intro b100 w100 hS101
  refine WL_step rfl rfl (Exec.move (v := v100) rfl rfl ?_)
  have hS102 := St.boxArr (E := (encInt .i64)) (xs := []) hS101 rfl (by simp [maxLen])
  obtain ⟨l100, q100, hm⟩ := bind_some hm
  refine WL_step rfl rfl (Exec.append_rep (E := (encInt .i64)) (ys := s_100) hS102 S22 Z3 rfl (by decide) rfl rfl rfl a100 q100 ?_)
  intro v102 w101 hS103
  refine WL_step rfl rfl (Exec.assign (v := v102) rfl rfl ?_)
  refine WL_nil (at_normal ?_)
  refine W_ret ?_
  have e102 := Option.some.inj hm
  subst r
  refine ⟨_, ret1 rfl, ?_⟩
  exact ⟨s, v102, (PHeap.le_refl _), hS103, rfl⟩

theorem N52 : (Tryd.f52.name == "runtime.NumGoroutine") = false := by kernel_rfl

theorem slices_Clone___bool_bool__sim {w0 w : World} {s : PHeap} {H : List Res} {s_100 : (List Bool)} {v100 : Value} {r : (List Bool)} (hm : slices_Clone___bool_bool__p s_100 = some r) (hS : St w0 s (H) w) (a100 : SliceRep encBool s v100 s_100) :
  Calls Tryd.prog 52 #[v100] w fun e w' => ∃ v, e = .returned v ∧ ((fun (y100 : (List Bool)) => ∃ (s100 : PHeap) (v101 : Value), PHeap.le s s100 ∧ St w0 s100 (Res.arr encBool 4 v101 y100 :: H) w' ∧ v = v101) r) := by
 unfold slices_Clone___bool_bool__p at hm
 refine calls_of_W Tryd.func52 rfl rfl ?_
 refine W_seq ?_
 refine W_region ?_
 refine WL_step rfl rfl (Exec.assign (v := Value.slice none 0 0) rfl rfl ?_)
 refine WL_nil (at_normal ?_)
 refine W_seq ?_
 refine W_seq ?_
 refine W_region ?_
 refine WL_step rfl rfl (Exec.move (v := v100) rfl rfl ?_)
 obtain ⟨a101, n100, c100, e100, hn100⟩ := (a100).nilShape
 refine WL_step rfl rfl (Exec.slice_eql_nil Tryd.underlying24 rfl e100 rfl ?_)
 refine WL_nil (at_normal ?_)
 by_cases hc100 : a101.isNone = true
 ·have hq100 := hn100 hc100
  replace hm := (show (some []) = ((app 1 [] s_100).bind fun l100 => some l100) from by simp [hq100, app]).trans hm
  refine W_true ((congrArg Value.bool hc100)) ?_
  refine W_seq ?_
  refine W_region ?_
  refine WL_step rfl rfl (Exec.assign (v := Value.slice none 0 0) rfl rfl ?_)
  refine WL_nil (at_normal ?_)
  refine W_ret (at_ret ?_)
  have e101 := Option.some.inj hm
  subst r
  refine ⟨_, ret1 rfl, ?_⟩
  have hS100 := hS.nilArr encBool 4
  exact ⟨s, (Value.slice none 0 0), (PHeap.le_refl _), hS100, rfl⟩
 ·replace hc100 := not_true hc100
  refine W_false ((congrArg Value.bool hc100)) ?_
  refine W_skip (at_normal ?_)
  refine W_seq ?_
  refine W_region ?_
  refine WL_step rfl rfl (Exec.buildSlice (Te := 4) (cs := []) hS rfl parts_nil (fun _ => by kernel_rfl) ?_)
  intro b100 w100 hS101
  refine WL_step rfl rfl (Exec.move (v := v100) rfl rfl ?_)
  have hS102 := St.boxArr (E := encBool) (xs := []) hS101 rfl (by simp [maxLen])
  obtain ⟨l100, q100, hm⟩ := bind_some hm
  refine WL_step rfl rfl (Exec.append_rep (E := encBool) (ys := s_100) hS102 S24 Z4 rfl (by decide) rfl rfl rfl a100 q100 ?_)
  intro v102 w101 hS103
  refine WL_step rfl rfl (Exec.assign (v := v102) rfl rfl ?_)
  refine WL_nil (at_normal ?_)
  refine W_ret ?_
  have e102 := Option.some.inj hm
  subst r
  refine ⟨_, ret1 rfl, ?_⟩
  exact ⟨s, v102, (PHeap.le_refl _), hS103, rfl⟩

theorem N63 : (Tryd.f63.name == "runtime.NumGoroutine") = false := by kernel_rfl

theorem shrink_order_c1_sim {w0 w : World} {s : PHeap} {H : List Res} {a100 : Edge} {b100 : Edge}  {r : Int} (hm : shrink_order_c1_p a100 b100 = some r) (hS : St w0 s (H) w)  :
  Calls Tryd.prog 63 #[Value.agg #[Value.int .i64 (a100.From), Value.int .i64 (a100.Label), Value.int .i64 (a100.To)], Value.agg #[Value.int .i64 (b100.From), Value.int .i64 (b100.Label), Value.int .i64 (b100.To)]] w fun e w' => ∃ v, e = .returned v ∧ ((fun (y100 : Int) => ∃ (s100 : PHeap) , PHeap.le s s100 ∧ St w0 s100 (H) w' ∧ v = Value.int .i64 (y100)) r) := by
 unfold shrink_order_c1_p at hm
 refine calls_of_W Tryd.func63 rfl rfl ?_
 refine W_seq ?_
 refine W_region ?_
 refine WL_step rfl rfl (Exec.box (cs := [Value.int .i64 (a100.From), Value.int .i64 (a100.Label), Value.int .i64 (a100.To)]) hS rfl rfl rfl ?_)
 intro b101 w100 hS100
 refine WL_step rfl rfl (Exec.box (cs := [Value.int .i64 (b100.From), Value.int .i64 (b100.Label), Value.int .i64 (b100.To)]) hS100 rfl rfl rfl ?_)
 intro b102 w101 hS101
 refine WL_step rfl rfl (Exec.assign (v := Value.int .i64 (0)) rfl rfl ?_)
 refine WL_nil (at_normal ?_)
 refine W_seq ?_
 refine W_dl (n0 := 17) (.q 0 (.q 1 (.q 2 (.q 3 (.q 5 (.q 6 (.q 7 (.q 8 (.q 10 (.q 11 (.q 12 (.q 13 (.e 4 [5, 6, 7, 8, 10, 11, 12, 13] (.e 9 [10, 11, 12, 13] (.e 14 [] (.e 15 [] (.e 16 [] .done))))))))))))))))) hmix (by kernel_rfl) (by kernel_rfl) ?_
 have hS102 := hS101.drew
 refine DL_q rfl rfl (Exec.field F53_0 rfl rfl rfl ⟨rfl, ?_⟩)
 refine DL_q rfl rfl (Exec.load_box ((hS102).f1) A3 rfl rfl rfl ⟨rfl, ?_⟩)
 refine DL_q rfl rfl (Exec.field F53_0 rfl rfl rfl ⟨rfl, ?_⟩)
 refine DL_q rfl rfl (Exec.load_box (hS102) A3 rfl rfl rfl ⟨rfl, ?_⟩)
 refine DL_q rfl rfl (Exec.field F53_1 rfl rfl rfl ⟨rfl, ?_⟩)
 refine DL_q rfl rfl (Exec.load_box ((hS102).f1) A3 rfl rfl rfl ⟨rfl, ?_⟩)
 refine DL_q rfl rfl (Exec.field F53_1 rfl rfl rfl ⟨rfl, ?_⟩)
 refine DL_q rfl rfl (Exec.load_box (hS102) A3 rfl rfl rfl ⟨rfl, ?_⟩)
 refine DL_q rfl rfl (Exec.field F53_2 rfl rfl rfl ⟨rfl, ?_⟩)
 refine DL_q rfl rfl (Exec.load_box ((hS102).f1) A3 rfl rfl rfl ⟨rfl, ?_⟩)
 refine DL_q rfl rfl (Exec.field F53_2 rfl rfl rfl ⟨rfl, ?_⟩)
 refine DL_q rfl rfl (Exec.load_box (hS102) A3 rfl rfl rfl ⟨rfl, ?_⟩)
 refine DL_e rfl rfl (Exec.call rfl rfl Tryd.func59 rfl N59 (args_cons rfl (args_cons rfl args_nil)) ((cmp_Compare_int__sim (cmp_Compare_int__tot a100.From b100.From) hS102 ).mono ?_))
 rintro _ w102 ⟨_, rfl, ⟨s101, l100, hS103, rfl⟩⟩
 refine ⟨_, rfl, ?_⟩
 refine ⟨(ag_cons (ag_r rfl rfl (Exec.field F53_1 rfl rfl rfl ⟨rfl, rfl⟩)) (ag_cons (ag_r rfl rfl (Exec.load_box ((hS103).f1) A3 rfl rfl rfl ⟨rfl, rfl⟩)) (ag_cons (ag_r rfl rfl (Exec.field F53_1 rfl rfl rfl ⟨rfl, rfl⟩)) (ag_cons (ag_r rfl rfl (Exec.load_box (hS103) A3 rfl rfl rfl ⟨rfl, rfl⟩)) (ag_cons (ag_r rfl rfl (Exec.field F53_2 rfl rfl rfl ⟨rfl, rfl⟩)) (ag_cons (ag_r rfl rfl (Exec.load_box ((hS103).f1) A3 rfl rfl rfl ⟨rfl, rfl⟩)) (ag_cons (ag_r rfl rfl (Exec.field F53_2 rfl rfl rfl ⟨rfl, rfl⟩)) (ag_cons (ag_r rfl rfl (Exec.load_box (hS103) A3 rfl rfl rfl ⟨rfl, rfl⟩)) ag_nil)))))))), ?_⟩
 refine DL_e rfl rfl (Exec.call rfl rfl Tryd.func59 rfl N59 (args_cons rfl (args_cons rfl args_nil)) ((cmp_Compare_int__sim (cmp_Compare_int__tot a100.Label b100.Label) hS103 ).mono ?_))
 rintro _ w103 ⟨_, rfl, ⟨s102, l101, hS104, rfl⟩⟩
 refine ⟨_, rfl, ?_⟩
 refine ⟨(ag_cons (ag_r rfl rfl (Exec.field F53_2 rfl rfl rfl ⟨rfl, rfl⟩)) (ag_cons (ag_r rfl rfl (Exec.load_box ((hS104).f1) A3 rfl rfl rfl ⟨rfl, rfl⟩)) (ag_cons (ag_r rfl rfl (Exec.field F53_2 rfl rfl rfl ⟨rfl, rfl⟩)) (ag_cons (ag_r rfl rfl (Exec.load_box (hS104) A3 rfl rfl rfl ⟨rfl, rfl⟩)) ag_nil)))), ?_⟩
 refine DL_e rfl rfl (Exec.call rfl rfl Tryd.func59 rfl N59 (args_cons rfl (args_cons rfl args_nil)) ((cmp_Compare_int__sim (cmp_Compare_int__tot a100.To b100.To) hS104 ).mono ?_))
 rintro _ w104 ⟨_, rfl, ⟨s103, l102, hS105, rfl⟩⟩
 refine ⟨_, rfl, ?_⟩
 refine ⟨ag_nil, ?_⟩
 refine DL_e rfl rfl (Exec.buildSlice (Te := 3) (cs := [Value.int .i64 ((cmp_Compare_int__t a100.From b100.From)), Value.int .i64 ((cmp_Compare_int__t a100.Label b100.Label)), Value.int .i64 ((cmp_Compare_int__t a100.To b100.To))]) hS105 rfl (parts_cons (c := [Value.int .i64 ((cmp_Compare_int__t a100.From b100.From))]) (cells_of rfl rfl) (parts_cons (c := [Value.int .i64 ((cmp_Compare_int__t a100.Label b100.Label))]) (cells_of rfl rfl) (parts_cons (c := [Value.int .i64 ((cmp_Compare_int__t a100.To b100.To))]) (cells_of rfl rfl) parts_nil))) (fun _ => by kernel_rfl) ?_)
 intro b103 w105 hS106
 refine ⟨ag_nil, ?_⟩
 have hS107 := St.boxArr (E := (encInt .i64)) (xs := [(cmp_Compare_int__t a100.From b100.From), (cmp_Compare_int__t a100.Label b100.Label), (cmp_Compare_int__t a100.To b100.To)]) hS106 ⟨[Value.int .i64 ((cmp_Compare_int__t a100.From b100.From))], [Value.int .i64 ((cmp_Compare_int__t a100.Label b100.Label)), Value.int .i64 ((cmp_Compare_int__t a100.To b100.To))], rfl, rfl, ⟨[Value.int .i64 ((cmp_Compare_int__t a100.Label b100.Label))], [Value.int .i64 ((cmp_Compare_int__t a100.To b100.To))], rfl, rfl, ⟨[Value.int .i64 ((cmp_Compare_int__t a100.To b100.To))], [], rfl, rfl, rfl⟩⟩⟩ (by simp [maxLen])
 obtain ⟨s104, l103, hS108, r100⟩ := hS107.freezeArr
 obtain ⟨y101, q100, hm⟩ := bind_some hm
 refine DL_e rfl rfl (Exec.call rfl rfl Tryd.func58 rfl N58 (args_cons rfl args_nil) ((cmp_Or_int__sim q100 hS108 r100).mono ?_))
 rintro _ w106 ⟨_, rfl, ⟨s105, l104, hS109, rfl⟩⟩
 refine ⟨_, rfl, ?_⟩
 refine ⟨ag_nil, ?_⟩
 refine DL_done ?_
 refine WL_step rfl rfl (Exec.assign (v := Value.int .i64 (y101)) rfl rfl ?_)
 refine WL_nil (at_normal ?_)
 refine W_ret ?_
 have e100 := Option.some.inj hm
 subst r
 refine ⟨_, ret1 rfl, ?_⟩
 have hS110 := (hS109).drop
 have hS111 := (hS110).drop
 exact ⟨s105, (PHeap.le.trans (PHeap.le.trans (PHeap.le.trans (PHeap.le.trans l100 l101) l102) l103) l104), hS111, rfl⟩

theorem N54 : (Tryd.f54.name == "runtime.NumGoroutine") = false := by kernel_rfl

end Go.Pw
