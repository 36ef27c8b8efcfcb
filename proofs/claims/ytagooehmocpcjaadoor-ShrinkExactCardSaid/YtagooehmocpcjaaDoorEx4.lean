/-
  The walks (printed by my generator).
-/
import Derived.Test.YtagooehmocpcjaaDoorEx3
import Derived.Test.YtagooehmocpcjaaDoorExDl
set_option maxRecDepth 100000
set_option maxHeartbeats 4000000
set_option linter.unusedVariables false
namespace Go.Pw
open Go.Proofs
theorem N17 : (Tryd.f17.name == "runtime.NumGoroutine") = false := by kernel_rfl

theorem shrink_Merge_sim {w0 w : World} {s : PHeap} {H : List Res} {x100 : System} {most100 : Int} {v100 : Value} {v101 : Value} {v102 : Value} {r : (List Int) × (Option Int)} (hm : shrink_Merge_p x100 most100 = some r) (hS : St w0 s (H) w) (a100 : SliceRep (encInt .i64) s v100 x100.Costs) (a101 : SliceRep encEdge s v101 x100.Edges) (a102 : SliceRep encBool s v102 x100.Goals) (ht : TabS Tryd.prog s) :
  Calls Tryd.prog 17 #[Value.agg #[Value.int .i64 (x100.States), Value.int .i64 (x100.Init), v100, v101, v102], Value.int .i64 (most100)] w fun e w' => ∃ v, e = .returned v ∧ ((un2 fun (y100 : (List Int)) (y101 : (Option Int)) => ∃ (s100 : PHeap) (v103 : Value), PHeap.le s s100 ∧ St w0 s100 (Res.arr (encInt .i64) 3 v103 y100 :: H) w' ∧ v = Value.tuple #[v103, errV 34 (y101)]) r) := by
 unfold shrink_Merge_p at hm
 refine calls_of_W Tryd.func17 rfl rfl ?_
 refine W_seq ?_
 refine W_region ?_
 refine WL_step rfl rfl (Exec.box (cs := [Value.int .i64 (x100.States), Value.int .i64 (x100.Init), v100, v101, v102]) hS rfl rfl rfl ?_)
 intro b100 w100 hS100
 refine WL_step rfl rfl (Exec.assign (v := Value.slice none 0 0) rfl rfl ?_)
 refine WL_step rfl rfl (Exec.assign (v := errV 34 (none)) rfl rfl ?_)
 refine WL_nil (at_normal ?_)
 refine W_seq ?_
 refine W_region ?_
 refine WL_step rfl rfl (Exec.load_box_agg (ds := [Value.int .i64 (x100.States), Value.int .i64 (x100.Init), v100, v101, v102]) (hS100) A26 rfl rfl rfl ?_)
 obtain ⟨t100, q100, hm⟩ := bind_some hm
 obtain ⟨y102, y103⟩ := t100
 replace hm := un2_eq hm
 refine WL_step rfl rfl (Exec.call rfl rfl Tryd.func12 rfl N12 (args_cons rfl args_nil) ((shrink_Bisimulation_sim q100 hS100 a100 a101 a102 ht).mono ?_))
 rintro _ w101 ⟨_, rfl, ⟨s101, v104, l100, hS101, rfl⟩⟩
 refine ⟨_, rfl, ?_⟩
 refine WL_step rfl rfl (Exec.move (v := Value.tuple #[v104, errV 34 (y103)]) rfl rfl ?_)
 refine WL_step rfl rfl (Exec.extract (v := v104) rfl rfl rfl ?_)
 refine WL_step rfl rfl (Exec.extract (v := errV 34 (y103)) rfl rfl rfl ?_)
 refine WL_step rfl rfl (Exec.assign (v := v104) rfl rfl ?_)
 refine WL_step rfl rfl (Exec.assign (v := errV 34 (y103)) rfl rfl ?_)
 refine WL_nil (at_normal ?_)
 refine W_seq ?_
 refine W_seq ?_
 refine W_region ?_
 refine WL_step rfl rfl (Exec.move (v := errV 34 (y103)) rfl rfl ?_)
 refine WL_step rfl rfl (Exec.err_neq_nil (T := 34) Tryd.underlying30 rfl rfl rfl ?_)
 refine WL_nil (at_normal ?_)
 rcases ite_some hm with ⟨hc100, hm⟩ | ⟨hc100, hm⟩
 ·refine W_cond_t rfl hc100 ?_
  refine W_seq ?_
  refine W_region ?_
  refine WL_step rfl rfl (Exec.move (v := errV 34 (y103)) rfl rfl ?_)
  refine WL_step rfl rfl (Exec.assign (v := Value.slice none 0 0) rfl rfl ?_)
  refine WL_step rfl rfl (Exec.assign (v := errV 34 (y103)) rfl rfl ?_)
  refine WL_nil (at_normal ?_)
  refine W_ret (at_ret ?_)
  have e100 := Option.some.inj hm
  subst r
  refine ⟨_, ret2 rfl, ?_⟩
  have hS102 := hS101.nilArr (encInt .i64) 3
  have hS103 := ((hS102).f1).drop
  have hS104 := ((hS103).f1).drop
  exact ⟨s101, (Value.slice none 0 0), l100, hS104, (tup2 rfl rfl)⟩
 ·refine W_cond_f rfl hc100 ?_
  replace hc100 := not_true hc100
  refine W_skip (at_normal ?_)
  refine W_seq ?_
  refine W_region ?_
  refine WL_step rfl rfl (Exec.move (v := Value.int .i64 (most100)) rfl rfl ?_)
  refine WL_step rfl rfl (Exec.min2 rfl rfl rfl ?_)
  refine WL_step rfl rfl (Exec.max2 rfl rfl rfl ?_)
  refine WL_step rfl rfl (Exec.assign (v := Value.int .i64 (max 1 (min most100 4096))) rfl rfl ?_)
  refine WL_nil (at_normal ?_)
  refine W_seq ?_
  refine W_region ?_
  refine WL_step rfl rfl (Exec.move (v := v104) rfl rfl ?_)
  obtain ⟨y104, q101, hm⟩ := bind_some hm
  refine WL_step rfl rfl (Exec.call rfl rfl Tryd.func33 rfl N33 (args_cons rfl args_nil) ((slices_Max___int_int__o_sim q101 hS101 ).mono ?_))
  rintro _ w102 ⟨_, rfl, ⟨s102, l101, hS105, rfl⟩⟩
  refine ⟨_, rfl, ?_⟩
  refine WL_step rfl rfl (Exec.add rfl rfl rfl ?_)
  obtain ⟨l102, q102, hm⟩ := bind_some hm
  refine WL_step rfl rfl (Exec.make (E := encBool) hS105 S24 Z4 rfl rfl rfl rfl q102 ?_)
  intro v105 w103 hS106
  refine WL_step rfl rfl (Exec.assign (v := v105) rfl rfl ?_)
  refine WL_nil (at_normal ?_)
  refine W_seq ?_
  refine W_seq ?_
  refine W_region ?_
  refine WL_step rfl rfl (Exec.move (v := v104) rfl rfl ?_)
  refine WL_step rfl rfl (Exec.len_arr ((hS106).f1) S22 rfl rfl ?_)
  refine WL_step rfl rfl (Exec.move (v := Value.int .i64 (0)) rfl rfl ?_)
  refine WL_nil (at_normal ?_)
  obtain ⟨l103, hB100, hm⟩ := bind_some hm
  refine W_block (W_forS (fun k' s' f' w' => (fun (l103 : (List Bool)) => ∃ (s103 : PHeap) , PHeap.le s102 s103 ∧ St w0 s103 (Res.box b100 26 [Value.int .i64 (x100.States), Value.int .i64 (x100.Init), v100, v101, v102] :: Res.arr (encInt .i64) 3 v104 y102 :: Res.arr encBool 4 v105 l103 :: H) w' ∧ f' 1 = Value.int .i64 (max 1 (min most100 4096)) ∧ f' 2 = Value.pointer (some ⟨b100, 0, none⟩) ∧ f' 6 = v104 ∧ f' 8 = v105 ∧ f' 30 = v104 ∧ f' 31 = Value.int .i64 ((y102.length : Int)) ∧ f' 32 = Value.int .i64 (k' : Int)) s') hB100 ?_ ?_ ?_)
  ·have hS107 := (hS106).f1
   have hS108 := (hS107).f2
   exact ⟨s102, (PHeap.le_refl _), hS108, rfl, rfl, rfl, rfl, rfl, rfl, rfl⟩
  ·intro i100 l103 s104 f100 w104 hi100 hI100 hm100
   obtain ⟨s105, l104, hS109, p100, p101, p102, p103, p104, p105, x101⟩ := hI100
   refine W_seq ?_
   refine W_region ?_
   refine WL_step rfl rfl (Exec.lss rfl x101 p105 ?_)
   refine WL_nil (at_normal ?_)
   refine W_seq ?_
   refine W_true (congrArg Value.bool (decide_eq_true (by omega))) ?_
   refine W_skip (at_normal ?_)
   refine W_seq ?_
   refine W_block ?_
   refine W_seq ?_
   refine W_region ?_
   refine WL_step rfl rfl (Exec.move (v := Value.int .i64 ((i100 : Int))) rfl x101 ?_)
   obtain ⟨x102, q103, hm100⟩ := bind_some hm100
   obtain ⟨g100, c100, e101⟩ := ((hS109).f1).arr_at q103
   refine WL_step rfl rfl (Exec.index_slice S22 rfl (Eq.trans p104 e101) x101 (idx_some q103).1 (idx_some q103).2.1 ?_)
   refine WL_step rfl rfl (Exec.load_arr (F := (encInt .i64)) ((hS109).f1) e101 A3 rfl rfl rfl q103 (Sub.refl _) ?_)
   intro v106 q104
   obtain rfl := encInt_val.1 q104
   refine WL_step rfl rfl (Exec.assign (v := Value.int .i64 ((i100 : Int))) rfl rfl ?_)
   refine WL_step rfl rfl (Exec.assign (v := Value.int .i64 (x102)) rfl rfl ?_)
   refine WL_nil (at_normal ?_)
   refine W_region ?_
   refine WL_step rfl rfl (Exec.move (v := v105) rfl p103 ?_)
   refine WL_step rfl rfl (Exec.move (v := Value.int .i64 (x102)) rfl rfl ?_)
   refine WL_step rfl rfl (Exec.field F26_4 rfl p101 rfl ?_)
   refine WL_step rfl rfl (Exec.load_box (hS109) A24 rfl rfl rfl ?_)
   refine WL_step rfl rfl (Exec.move (v := Value.int .i64 ((i100 : Int))) rfl rfl ?_)
   obtain ⟨x103, q105, hm100⟩ := bind_some hm100
   refine WL_step rfl rfl (Exec.index_rep S24 rfl rfl rfl (a102.mono (PHeap.le.trans (PHeap.le.trans l100 l101) l104)) q105 ?_)
   intro b101 o100 a103
   refine WL_step rfl rfl (Exec.load_at (E := encBool) hS109 A4 rfl rfl rfl a103 ?_)
   intro v107 q106
   obtain rfl := encBool_val.1 q106
   obtain ⟨x104, q107, hm100⟩ := bind_some hm100
   obtain ⟨g101, c101, e102⟩ := ((hS109).f2).arr_at q107
   refine WL_step rfl rfl (Exec.index_slice S24 rfl e102 rfl (idx_some q107).1 (idx_some q107).2.1 ?_)
   obtain ⟨l105, q108, hm100⟩ := bind_some hm100
   have hS110 := (hS109).f2
   refine WL_step rfl rfl (Exec.store_arr hS110 e102 A4 rfl rfl rfl rfl (encBool_val.2 rfl) q108 ?_)
   intro w105 hS111
   refine WL_nil (ib_normal (at_normal ?_))
   refine W_region ?_
   refine WL_step rfl rfl (Exec.add rfl x101 rfl ?_)
   refine WL_step rfl rfl (Exec.move (v := Value.int .i64 (IntKind.i64.wrap ((i100 : Int) + 1))) rfl rfl ?_)
   refine WL_nil (at_normal ?_)
   have e103 := Option.some.inj hm100
   subst s104
   have hS112 := (hS111).f2
   have hS113 := (hS112).f2
   exact ⟨s105, l104, hS113, p100, p101, p102, p103, p104, p105, (Eq.trans rfl (wrap_up hi100 ((hS106).f1).arr_le))⟩
  ·intro f101 w106 hI101
   obtain ⟨s106, l106, hS114, p106, p107, p108, p109, p110, p111, x105⟩ := hI101
   refine W_seq ?_
   refine W_region ?_
   refine WL_step rfl rfl (Exec.lss rfl x105 p111 ?_)
   refine WL_nil (at_normal ?_)
   refine W_seq ?_
   refine W_false (congrArg Value.bool (decide_eq_false (by omega))) ?_
   refine W_exit (at_exit (at_exit (ib_here (at_normal ?_))))
   refine W_seq ?_
   obtain ⟨c102, hB101, hr100, hn100, hb100⟩ := ctl_some hm
   refine W_mid (M := fun f' w' => ∃ s', (c102 = .next s' ∨ c102 = .brk s') ∧ (un2 fun (l107 : (List Int)) (l108 : (List Bool)) => ∃ (s107 : PHeap) (v108 : Value), PHeap.le s106 s107 ∧ St w0 s107 (Res.arr (encInt .i64) 3 v104 l107 :: Res.arr encBool 4 v108 l108 :: H) w' ∧ f' 1 = Value.int .i64 (max 1 (min most100 4096)) ∧ f' 6 = v104 ∧ f' 8 = v108) s') ?_ ?_
   ·refine W_block (W_while (fun s' f' w' => (un2 fun (l109 : (List Int)) (l110 : (List Bool)) => ∃ (s108 : PHeap) (v109 : Value), PHeap.le s106 s108 ∧ St w0 s108 (Res.arr (encInt .i64) 3 v104 l109 :: Res.arr encBool 4 v109 l110 :: H) w' ∧ f' 1 = Value.int .i64 (max 1 (min most100 4096)) ∧ f' 6 = v104 ∧ f' 8 = v109) s') hB101 ?_ ?_)
    ·have hS115 := (hS114).drop
     have hS116 := (hS115).f1
     have hS117 := (hS116).f1
     exact ⟨s106, v105, (PHeap.le_refl _), hS117, p106, p108, p109⟩
    ·intro t101 c103 f102 w107 hI102 hm101 hres100
     obtain ⟨l109, l110⟩ := t101
     replace hm101 := un2_eq hm101
     obtain ⟨s109, v109, l111, hS118, p112, p113, p114⟩ := hI102
     refine W_seq ?_
     refine W_seq ?_
     refine W_region ?_
     refine WL_step rfl rfl (Exec.move (v := v109) rfl p114 ?_)
     refine WL_step rfl rfl (Exec.len_arr ((hS118).f1) S24 rfl rfl ?_)
     refine WL_step rfl rfl (Exec.move (v := Value.int .i64 (max 1 (min most100 4096))) rfl p112 ?_)
     refine WL_step rfl rfl (Exec.gtr rfl rfl rfl ?_)
     refine WL_nil (at_normal ?_)
     rcases ite_some hm101 with ⟨hc101, hm101⟩ | ⟨hc101, hm101⟩
     ·refine W_cond_t rfl hc101 ?_
      refine W_skip (at_normal ?_)
      refine W_block ?_
      refine W_seq ?_
      refine W_region ?_
      refine WL_step rfl rfl (Exec.move (v := v109) rfl p114 ?_)
      obtain ⟨t102, q109, hm101⟩ := bind_some hm101
      obtain ⟨y105, y106⟩ := t102
      replace hm101 := un2_eq hm101
      have hS119 := (hS118).f1
      refine WL_step rfl rfl (Exec.call rfl rfl Tryd.func34 rfl N34 (args_cons rfl args_nil) ((shrink_pair_o_sim q109 hS119 ).mono ?_))
      rintro _ w108 ⟨_, rfl, ⟨s110, l112, hS120, rfl⟩⟩
      refine ⟨_, rfl, ?_⟩
      refine WL_step rfl rfl (Exec.move (v := Value.tuple #[Value.int .i64 (y105), Value.int .i64 (y106)]) rfl rfl ?_)
      refine WL_step rfl rfl (Exec.extract (v := Value.int .i64 (y105)) rfl rfl rfl ?_)
      refine WL_step rfl rfl (Exec.extract (v := Value.int .i64 (y106)) rfl rfl rfl ?_)
      refine WL_step rfl rfl (Exec.assign (v := Value.int .i64 (y105)) rfl rfl ?_)
      refine WL_step rfl rfl (Exec.assign (v := Value.int .i64 (y106)) rfl rfl ?_)
      refine WL_nil (at_normal ?_)
      refine W_seq ?_
      refine W_seq ?_
      refine W_region ?_
      refine WL_step rfl rfl (Exec.move (v := v104) rfl p113 ?_)
      refine WL_step rfl rfl (Exec.len_arr ((hS120).f1) S22 rfl rfl ?_)
      refine WL_step rfl rfl (Exec.move (v := Value.int .i64 (0)) rfl rfl ?_)
      refine WL_nil (at_normal ?_)
      obtain ⟨l113, hB102, hm101⟩ := bind_some hm101
      refine W_block (W_forS (fun k' s' f' w' => (fun (l113 : (List Int)) => ∃ (s111 : PHeap) , PHeap.le s110 s111 ∧ St w0 s111 (Res.arr (encInt .i64) 3 v104 l113 :: Res.arr encBool 4 v109 l110 :: H) w' ∧ f' 1 = Value.int .i64 (max 1 (min most100 4096)) ∧ f' 6 = v104 ∧ f' 8 = v109 ∧ f' 11 = Value.int .i64 (y105) ∧ f' 12 = Value.int .i64 (y106) ∧ f' 55 = v104 ∧ f' 56 = Value.int .i64 ((l109.length : Int)) ∧ f' 57 = Value.int .i64 (k' : Int)) s') hB102 ?_ ?_ ?_)
      ·have hS121 := (hS120).f1
       exact ⟨s110, (PHeap.le_refl _), hS121, p112, p113, p114, rfl, rfl, rfl, rfl, rfl⟩
      ·intro i101 l113 s112 f103 w109 hi101 hI103 hm102
       obtain ⟨s113, l114, hS122, p115, p116, p117, p118, p119, p120, p121, x106⟩ := hI103
       refine W_seq ?_
       refine W_region ?_
       refine WL_step rfl rfl (Exec.lss rfl x106 p121 ?_)
       refine WL_nil (at_normal ?_)
       refine W_seq ?_
       refine W_true (congrArg Value.bool (decide_eq_true (by omega))) ?_
       refine W_skip (at_normal ?_)
       refine W_seq ?_
       refine W_block ?_
       refine W_seq ?_
       refine W_region ?_
       refine WL_step rfl rfl (Exec.move (v := Value.int .i64 ((i101 : Int))) rfl x106 ?_)
       obtain ⟨x107, q110, hm102⟩ := bind_some hm102
       obtain ⟨g102, c104, e104⟩ := (hS122).arr_at q110
       refine WL_step rfl rfl (Exec.index_slice S22 rfl (Eq.trans p120 e104) x106 (idx_some q110).1 (idx_some q110).2.1 ?_)
       refine WL_step rfl rfl (Exec.load_arr (F := (encInt .i64)) (hS122) e104 A3 rfl rfl rfl q110 (Sub.refl _) ?_)
       intro v110 q111
       obtain rfl := encInt_val.1 q111
       refine WL_step rfl rfl (Exec.assign (v := Value.int .i64 ((i101 : Int))) rfl rfl ?_)
       refine WL_step rfl rfl (Exec.assign (v := Value.int .i64 (x107)) rfl rfl ?_)
       refine WL_nil (at_normal ?_)
       refine W_seq ?_
       refine W_seq ?_
       refine W_region ?_
       refine WL_step rfl rfl (Exec.move (v := Value.int .i64 (x107)) rfl rfl ?_)
       refine WL_step rfl rfl (Exec.move (v := Value.int .i64 (y106)) rfl p119 ?_)
       refine WL_step rfl rfl (Exec.eql rfl rfl rfl ?_)
       refine WL_nil (at_normal ?_)
       obtain ⟨l115, ht100, hm102⟩ := bind_some hm102
       refine W_mid (M := fun f' w' => (fun (l115 : (List Int)) => ∃ (s114 : PHeap) , PHeap.le s113 s114 ∧ St w0 s114 (Res.arr (encInt .i64) 3 v104 l115 :: Res.arr encBool 4 v109 l110 :: H) w' ∧ f' 1 = Value.int .i64 (max 1 (min most100 4096)) ∧ f' 6 = v104 ∧ f' 8 = v109 ∧ f' 11 = Value.int .i64 (y105) ∧ f' 12 = Value.int .i64 (y106) ∧ f' 13 = Value.int .i64 ((i101 : Int)) ∧ f' 14 = Value.int .i64 (x107) ∧ f' 55 = v104 ∧ f' 56 = Value.int .i64 ((l109.length : Int)) ∧ f' 57 = Value.int .i64 ((i101 : Int))) l115) ?_ ?_
       ·rcases ite_some ht100 with ⟨hc102, ht100⟩ | ⟨hc102, ht100⟩
        ·refine W_cond_t rfl hc102 ?_
         refine W_region ?_
         refine WL_step rfl rfl (Exec.move (v := v104) rfl p116 ?_)
         refine WL_step rfl rfl (Exec.move (v := Value.int .i64 ((i101 : Int))) rfl rfl ?_)
         refine WL_step rfl rfl (Exec.move (v := Value.int .i64 (y105)) rfl p118 ?_)
         obtain ⟨g103, c105, e105⟩ := (hS122).arr_at q110
         refine WL_step rfl rfl (Exec.index_slice S22 rfl e105 rfl (idx_some q110).1 (idx_some q110).2.1 ?_)
         obtain ⟨l116, q112, ht100⟩ := bind_some ht100
         refine WL_step rfl rfl (Exec.store_arr hS122 e105 A3 rfl rfl rfl rfl (encInt_val.2 rfl) q112 ?_)
         intro w110 hS123
         refine WL_nil (at_normal ?_)
         have e106 := Option.some.inj ht100
         subst l115
         have hS124 := (hS123).f1
         have hS125 := (hS124).f1
         exact ⟨s113, (PHeap.le_refl _), hS125, p115, p116, p117, p118, p119, rfl, rfl, p120, p121, x106⟩
        ·refine W_cond_f rfl hc102 ?_
         replace hc102 := not_true hc102
         refine W_skip (at_normal ?_)
         have e107 := Option.some.inj ht100
         subst l115
         have hS126 := (hS122).f1
         have hS127 := (hS126).f1
         exact ⟨s113, (PHeap.le_refl _), hS127, p115, p116, p117, p118, p119, rfl, rfl, p120, p121, x106⟩
       ·intro f104 w111 hM100
        obtain ⟨s115, l117, hS128, p122, p123, p124, p125, p126, p127, p128, p129, p130, p131⟩ := hM100
        refine (at_normal ?_)
        refine W_seq ?_
        refine W_region ?_
        refine WL_step rfl rfl (Exec.move (v := Value.int .i64 (x107)) rfl p128 ?_)
        refine WL_step rfl rfl (Exec.move (v := Value.int .i64 (y106)) rfl p126 ?_)
        refine WL_step rfl rfl (Exec.gtr rfl rfl rfl ?_)
        refine WL_nil (at_normal ?_)
        obtain ⟨l118, ht101, hm102⟩ := bind_some hm102
        refine W_mid (M := fun f' w' => (fun (l118 : (List Int)) => ∃ (s116 : PHeap) , PHeap.le s115 s116 ∧ St w0 s116 (Res.arr (encInt .i64) 3 v104 l118 :: Res.arr encBool 4 v109 l110 :: H) w' ∧ f' 1 = Value.int .i64 (max 1 (min most100 4096)) ∧ f' 6 = v104 ∧ f' 8 = v109 ∧ f' 11 = Value.int .i64 (y105) ∧ f' 12 = Value.int .i64 (y106) ∧ f' 55 = v104 ∧ f' 56 = Value.int .i64 ((l109.length : Int)) ∧ f' 57 = Value.int .i64 ((i101 : Int))) l118) ?_ ?_
        ·rcases ite_some ht101 with ⟨hc103, ht101⟩ | ⟨hc103, ht101⟩
         ·refine W_cond_t rfl hc103 ?_
          refine W_region ?_
          refine WL_step rfl rfl (Exec.move (v := v104) rfl p123 ?_)
          refine WL_step rfl rfl (Exec.move (v := Value.int .i64 ((i101 : Int))) rfl p127 ?_)
          refine WL_step rfl rfl (Exec.move (v := Value.int .i64 (x107)) rfl p128 ?_)
          refine WL_step rfl rfl (Exec.sub rfl rfl rfl ?_)
          obtain ⟨x108, q113, ht101⟩ := bind_some ht101
          obtain ⟨g104, c106, e108⟩ := (hS128).arr_at q113
          refine WL_step rfl rfl (Exec.index_slice S22 rfl e108 rfl (idx_some q113).1 (idx_some q113).2.1 ?_)
          obtain ⟨l119, q114, ht101⟩ := bind_some ht101
          refine WL_step rfl rfl (Exec.store_arr hS128 e108 A3 rfl rfl rfl rfl (encInt_val.2 rfl) q114 ?_)
          intro w112 hS129
          refine WL_nil (at_normal ?_)
          have e109 := Option.some.inj ht101
          subst l118
          have hS130 := (hS129).f1
          have hS131 := (hS130).f1
          exact ⟨s115, (PHeap.le_refl _), hS131, p122, p123, p124, p125, p126, p129, p130, p131⟩
         ·refine W_cond_f rfl hc103 ?_
          replace hc103 := not_true hc103
          refine W_skip (at_normal ?_)
          have e110 := Option.some.inj ht101
          subst l118
          have hS132 := (hS128).f1
          have hS133 := (hS132).f1
          exact ⟨s115, (PHeap.le_refl _), hS133, p122, p123, p124, p125, p126, p129, p130, p131⟩
        ·intro f105 w113 hM101
         obtain ⟨s117, l120, hS134, p132, p133, p134, p135, p136, p137, p138, p139⟩ := hM101
         refine (ib_normal (at_normal ?_))
         refine W_region ?_
         refine WL_step rfl rfl (Exec.add rfl p139 rfl ?_)
         refine WL_step rfl rfl (Exec.move (v := Value.int .i64 (IntKind.i64.wrap ((i101 : Int) + 1))) rfl rfl ?_)
         refine WL_nil (at_normal ?_)
         have e111 := Option.some.inj hm102
         subst s112
         have hS135 := (hS134).f1
         have hS136 := (hS135).f1
         exact ⟨s117, (PHeap.le.trans (PHeap.le.trans l114 l117) l120), hS136, p132, p133, p134, p135, p136, p137, p138, (Eq.trans rfl (wrap_up hi101 ((hS120).f1).arr_le))⟩
      ·intro f106 w114 hI104
       obtain ⟨s118, l121, hS137, p140, p141, p142, p143, p144, p145, p146, x109⟩ := hI104
       refine W_seq ?_
       refine W_region ?_
       refine WL_step rfl rfl (Exec.lss rfl x109 p146 ?_)
       refine WL_nil (at_normal ?_)
       refine W_seq ?_
       refine W_false (congrArg Value.bool (decide_eq_false (by omega))) ?_
       refine W_exit (at_exit (at_exit (ib_here (at_normal ?_))))
       refine W_region ?_
       refine WL_step rfl rfl (Exec.move (v := v109) rfl p142 ?_)
       refine WL_step rfl rfl (Exec.move (v := Value.int .i64 (y106)) rfl p144 ?_)
       refine WL_step rfl rfl (Exec.move (v := Value.int .i64 (y106)) rfl p144 ?_)
       refine WL_step rfl rfl (Exec.add rfl rfl rfl ?_)
       obtain ⟨l122, q115, hm101⟩ := bind_some hm101
       have hS138 := (hS137).f1
       refine WL_step rfl rfl (Exec.call rfl rfl Tryd.func35 rfl N35 (args_cons rfl (args_cons rfl (args_cons rfl args_nil))) ((delB_sim q115 hS138 ).mono ?_))
       rintro _ w115 ⟨v111, rfl, ⟨s119, _, l123, hS139, rfl⟩⟩
       refine ⟨_, rfl, ?_⟩
       refine WL_step rfl rfl (Exec.assign (v := v111) rfl rfl ?_)
       refine WL_nil (ib_normal (at_normal ?_))
       have e112 := Option.some.inj hm101
       subst c103
       have hS140 := (hS139).f1
       refine ⟨_, rfl, ?_⟩; exact ⟨s119, v111, (PHeap.le.trans (PHeap.le.trans (PHeap.le.trans l111 l112) l121) l123), hS140, p140, p141, rfl⟩
     ·refine W_cond_f rfl hc101 ?_
      replace hc101 := not_true hc101
      refine W_exit (at_exit (at_exit (ib_here (at_normal ?_))))
      have e113 := Option.some.inj hm101
      subst c103
      have hS141 := (hS118).f1
      have hS142 := (hS141).f1
      refine ⟨_, .inr (hres100 (by intro _ h; cases h)), ?_⟩; exact ⟨s109, v109, l111, hS142, p112, p113, p114⟩
   ·rintro f107 w116 ⟨t103, hc104, hM102⟩
    have hm := hc104.elim (hn100 _) (hb100 _)
    clear hc104
    obtain ⟨l107, l108⟩ := t103
    replace hm := un2_eq hm
    obtain ⟨s120, v108, l124, hS143, p147, p148, p149⟩ := hM102
    refine (at_normal ?_)
    refine W_seq ?_
    refine W_region ?_
    refine WL_step rfl rfl (Exec.move (v := v104) rfl p148 ?_)
    refine WL_step rfl rfl (Exec.assign (v := v104) rfl rfl ?_)
    refine WL_step rfl rfl (Exec.assign (v := errV 34 (none)) rfl rfl ?_)
    refine WL_nil (at_normal ?_)
    refine W_ret ?_
    have e114 := Option.some.inj hm
    subst r
    refine ⟨_, ret2 rfl, ?_⟩
    have hS144 := ((hS143).f1).drop
    exact ⟨s120, v104, (PHeap.le.trans (PHeap.le.trans (PHeap.le.trans l100 l101) l106) l124), hS144, (tup2 rfl rfl)⟩

theorem N15 : (Tryd.f15.name == "runtime.NumGoroutine") = false := by kernel_rfl

theorem base_Ints_o_sim {w0 w : World} {s : PHeap} {H : List Res} {a100 : (List Int)} {b100 : (List Int)} {v100 : Value} {v101 : Value} {r : Bool} (hm : base_Ints_o_p a100 b100 = some r) (hS : St w0 s (Res.arr (encInt .i64) 3 v100 a100 :: H) w) (a101 : SliceRep (encInt .i64) s v101 b100) :
  Calls Tryd.prog 15 #[v100, v101] w fun e w' => ∃ v, e = .returned v ∧ ((fun (y100 : Bool) => ∃ (s100 : PHeap) , PHeap.le s s100 ∧ St w0 s100 (Res.arr (encInt .i64) 3 v100 a100 :: H) w' ∧ v = Value.bool (y100)) r) := by
 unfold base_Ints_o_p at hm
 refine calls_of_W Tryd.func15 rfl rfl ?_
 refine W_seq ?_
 refine W_region ?_
 refine WL_step rfl rfl (Exec.assign (v := Value.bool (false)) rfl rfl ?_)
 refine WL_nil (at_normal ?_)
 refine W_seq ?_
 refine W_seq ?_
 refine W_region ?_
 refine WL_step rfl rfl (Exec.move (v := v100) rfl rfl ?_)
 refine WL_step rfl rfl (Exec.len_arr (hS) S22 rfl rfl ?_)
 refine WL_step rfl rfl (Exec.move (v := v101) rfl rfl ?_)
 refine WL_step rfl rfl (Exec.len_rep S22 rfl rfl a101 ?_)
 refine WL_step rfl rfl (Exec.neq rfl rfl rfl ?_)
 refine WL_nil (at_normal ?_)
 rcases ite_some hm with ⟨hc100, hm⟩ | ⟨hc100, hm⟩
 ·refine W_cond_t rfl hc100 ?_
  refine W_seq ?_
  refine W_region ?_
  refine WL_step rfl rfl (Exec.assign (v := Value.bool (false)) rfl rfl ?_)
  refine WL_nil (at_normal ?_)
  refine W_ret (at_ret ?_)
  have e100 := Option.some.inj hm
  subst r
  refine ⟨_, ret1 rfl, ?_⟩
  exact ⟨s, (PHeap.le_refl _), hS, rfl⟩
 ·refine W_cond_f rfl hc100 ?_
  replace hc100 := not_true hc100
  refine W_skip (at_normal ?_)
  refine W_seq ?_
  refine W_seq ?_
  refine W_region ?_
  refine WL_step rfl rfl (Exec.move (v := v100) rfl rfl ?_)
  refine WL_step rfl rfl (Exec.len_arr (hS) S22 rfl rfl ?_)
  refine WL_step rfl rfl (Exec.move (v := Value.int .i64 (0)) rfl rfl ?_)
  refine WL_nil (at_normal ?_)
  obtain ⟨c100, hB100, hr100, hn100, hb100⟩ := ctl_some hm
  refine W_mid (M := fun f' w' => ∃ s', (c100 = .next s' ∨ c100 = .brk s') ∧ (fun (_ : Unit) => ∃ (s101 : PHeap) , PHeap.le s s101 ∧ St w0 s101 (Res.arr (encInt .i64) 3 v100 a100 :: H) w' ∧ f' 0 = v100 ∧ f' 1 = v101 ∧ f' 12 = Value.int .i64 ((a100.length : Int))) s') ?_ ?_
  ·refine W_block (W_forC (fun k' s' f' w' => (fun (_ : Unit) => ∃ (s102 : PHeap) , PHeap.le s s102 ∧ St w0 s102 (Res.arr (encInt .i64) 3 v100 a100 :: H) w' ∧ f' 0 = v100 ∧ f' 1 = v101 ∧ f' 12 = Value.int .i64 ((a100.length : Int)) ∧ f' 13 = Value.int .i64 (k' : Int)) s') hB100 ?_ ?_ ?_)
   ·exact ⟨s, (PHeap.le_refl _), hS, rfl, rfl, rfl, rfl⟩
   ·intro i100 t100 c101 f100 w100 hi100 hI100 hm100 hres100
    obtain ⟨s103, l100, hS100, p100, p101, p102, x100⟩ := hI100
    refine W_seq ?_
    refine W_region ?_
    refine WL_step rfl rfl (Exec.lss rfl x100 p102 ?_)
    refine WL_nil (at_normal ?_)
    refine W_seq ?_
    refine W_true (congrArg Value.bool (decide_eq_true (by omega))) ?_
    refine W_skip (at_normal ?_)
    refine W_seq ?_
    refine W_block ?_
    refine W_seq ?_
    refine W_region ?_
    refine WL_step rfl rfl (Exec.move (v := Value.int .i64 ((i100 : Int))) rfl x100 ?_)
    refine WL_step rfl rfl (Exec.assign (v := Value.int .i64 ((i100 : Int))) rfl rfl ?_)
    refine WL_nil (at_normal ?_)
    refine W_seq ?_
    refine W_dl (n0 := 9) (.q 0 (.q 1 (.q 2 (.q 3 (.q 4 (.q 5 (.q 6 (.q 7 (.q 8 .done))))))))) hmix (by kernel_rfl) (by kernel_rfl) ?_
    have hS101 := hS100.drew
    refine DL_q rfl rfl (Exec.move (v := v100) rfl p100 ⟨rfl, ?_⟩)
    refine DL_q rfl rfl (Exec.move (v := Value.int .i64 ((i100 : Int))) rfl rfl ⟨rfl, ?_⟩)
    obtain ⟨x101, q100, hm100⟩ := bind_some hm100
    obtain ⟨g100, c102, e101⟩ := (hS101).arr_at q100
    refine DL_q rfl rfl (Exec.index_slice S22 rfl e101 rfl (idx_some q100).1 (idx_some q100).2.1 ⟨rfl, ?_⟩)
    refine DL_q rfl rfl (Exec.load_arr (F := (encInt .i64)) (hS101) e101 A3 rfl rfl rfl q100 (Sub.refl _) ?_)
    intro v102 q101
    obtain rfl := encInt_val.1 q101
    refine ⟨rfl, ?_⟩
    refine DL_q rfl rfl (Exec.move (v := v101) rfl p101 ⟨rfl, ?_⟩)
    refine DL_q rfl rfl (Exec.move (v := Value.int .i64 ((i100 : Int))) rfl rfl ⟨rfl, ?_⟩)
    obtain ⟨x102, q102, hm100⟩ := bind_some hm100
    refine DL_q rfl rfl (Exec.index_repE S22 rfl rfl rfl (a101.mono l100) q102 ?_)
    intro b101 o100 a102 e102
    refine ⟨rfl, ?_⟩
    refine DL_q rfl rfl (Exec.load_at (E := (encInt .i64)) hS101 A3 rfl rfl rfl a102 ?_)
    intro v103 q103
    obtain rfl := encInt_val.1 q103
    refine ⟨rfl, ?_⟩
    refine DL_q rfl rfl (Exec.neq rfl rfl rfl ⟨rfl, ?_⟩)
    refine DL_done ?_
    refine WL_nil (at_normal ?_)
    rcases ite_some hm100 with ⟨hc101, hm100⟩ | ⟨hc101, hm100⟩
    ·refine W_cond_t rfl hc101 ?_
     refine W_seq ?_
     refine W_region ?_
     refine WL_step rfl rfl (Exec.assign (v := Value.bool (false)) rfl rfl ?_)
     refine WL_nil (at_normal ?_)
     refine W_ret (ib_ret (at_ret (at_ret (ib_ret (at_ret (at_ret ?_))))))
     have e103 := Option.some.inj hm100
     subst c101
     have hq100 := hr100 _ (hres100 (by intro _ h; cases h))
     have e104 := Option.some.inj hq100
     subst r
     refine ⟨_, ret1 rfl, ?_⟩
     exact ⟨s103, l100, hS101, rfl⟩
    ·refine W_cond_f rfl hc101 ?_
     replace hc101 := not_true hc101
     refine W_skip (ib_normal (at_normal ?_))
     refine W_region ?_
     refine WL_step rfl rfl (Exec.add rfl x100 rfl ?_)
     refine WL_step rfl rfl (Exec.move (v := Value.int .i64 (IntKind.i64.wrap ((i100 : Int) + 1))) rfl rfl ?_)
     refine WL_nil (at_normal ?_)
     have e105 := Option.some.inj hm100
     subst c101
     refine ⟨_, rfl, ?_⟩; exact ⟨s103, l100, hS101, p100, p101, p102, (Eq.trans rfl (wrap_up hi100 (hS).arr_le))⟩
   ·intro t101 f101 w101 hI101 hres101
    obtain ⟨s104, l101, hS102, p103, p104, p105, x103⟩ := hI101
    refine W_seq ?_
    refine W_region ?_
    refine WL_step rfl rfl (Exec.lss rfl x103 p105 ?_)
    refine WL_nil (at_normal ?_)
    refine W_seq ?_
    refine W_false (congrArg Value.bool (decide_eq_false (by omega))) ?_
    refine W_exit (at_exit (at_exit (ib_here (at_normal ?_))))
    refine ⟨_, .inl hres101, ?_⟩; exact ⟨s104, l101, hS102, p103, p104, p105⟩
  ·rintro f102 w102 ⟨t102, hc102, hM100⟩
   have hm := hc102.elim (hn100 _) (hb100 _)
   clear hc102
   obtain ⟨s105, l102, hS103, p106, p107, p108⟩ := hM100
   refine (at_normal ?_)
   refine W_seq ?_
   refine W_region ?_
   refine WL_step rfl rfl (Exec.assign (v := Value.bool (true)) rfl rfl ?_)
   refine WL_nil (at_normal ?_)
   refine W_ret ?_
   have e106 := Option.some.inj hm
   subst r
   refine ⟨_, ret1 rfl, ?_⟩
   exact ⟨s105, l102, hS103, rfl⟩

theorem N10 : (Tryd.f10.name == "runtime.NumGoroutine") = false := by kernel_rfl

theorem law45_awake_sim {w0 w : World} {s : PHeap} {H : List Res}   {r : Bool} (hm : law45_awake_p  = some r) (hS : St w0 s (H) w)  (ht : TabS Tryd.prog s) :
  Calls Tryd.prog 10 #[] w fun e w' => ∃ v, e = .returned v ∧ ((fun (y100 : Bool) => ∃ (s100 : PHeap) , PHeap.le s s100 ∧ St w0 s100 (H) w' ∧ v = Value.bool (y100)) r) := by
 unfold law45_awake_p at hm
 refine calls_of_W Tryd.func10 rfl rfl ?_
 refine W_seq ?_
 refine W_region ?_
 refine WL_step rfl rfl (Exec.assign (v := Value.bool (false)) rfl rfl ?_)
 refine WL_nil (at_normal ?_)
 refine W_seq ?_
 refine W_region ?_
 refine WL_step rfl rfl (Exec.buildSlice (Te := 3) (cs := [Value.int .i64 (1), Value.int .i64 (1)]) hS rfl (parts_cons (c := [Value.int .i64 (1)]) (cells_of rfl rfl) (parts_cons (c := [Value.int .i64 (1)]) (cells_of rfl rfl) parts_nil)) (fun _ => by kernel_rfl) ?_)
 intro b100 w100 hS100
 refine WL_step rfl rfl (Exec.buildSlice (Te := 4) (cs := [Value.bool (false), Value.bool (false), Value.bool (false), Value.bool (true)]) hS100 rfl (parts_cons (c := [Value.bool (false)]) (cells_of rfl rfl) (parts_cons (c := [Value.bool (false)]) (cells_of rfl rfl) (parts_cons (c := [Value.bool (false)]) (cells_of rfl rfl) (parts_cons (c := [Value.bool (true)]) (cells_of rfl rfl) parts_nil)))) (fun _ => by kernel_rfl) ?_)
 intro b101 w101 hS101
 refine WL_step rfl rfl (Exec.build rfl (parts_cons (c := [Value.int .i64 (0)]) (cells_of rfl rfl) (parts_cons (c := [Value.int .i64 (0)]) (cells_of rfl rfl) (parts_cons (c := [Value.int .i64 (1)]) (cells_of rfl rfl) parts_nil))) (v := Value.agg #[Value.int .i64 (0), Value.int .i64 (0), Value.int .i64 (1)]) (fun _ => by kernel_rfl) ?_)
 refine WL_step rfl rfl (Exec.build rfl (parts_cons (c := [Value.int .i64 (0)]) (cells_of rfl rfl) (parts_cons (c := [Value.int .i64 (0)]) (cells_of rfl rfl) (parts_cons (c := [Value.int .i64 (2)]) (cells_of rfl rfl) parts_nil))) (v := Value.agg #[Value.int .i64 (0), Value.int .i64 (0), Value.int .i64 (2)]) (fun _ => by kernel_rfl) ?_)
 refine WL_step rfl rfl (Exec.build rfl (parts_cons (c := [Value.int .i64 (1)]) (cells_of rfl rfl) (parts_cons (c := [Value.int .i64 (1)]) (cells_of rfl rfl) (parts_cons (c := [Value.int .i64 (3)]) (cells_of rfl rfl) parts_nil))) (v := Value.agg #[Value.int .i64 (1), Value.int .i64 (1), Value.int .i64 (3)]) (fun _ => by kernel_rfl) ?_)
 refine WL_step rfl rfl (Exec.build rfl (parts_cons (c := [Value.int .i64 (2)]) (cells_of rfl rfl) (parts_cons (c := [Value.int .i64 (1)]) (cells_of rfl rfl) (parts_cons (c := [Value.int .i64 (3)]) (cells_of rfl rfl) parts_nil))) (v := Value.agg #[Value.int .i64 (2), Value.int .i64 (1), Value.int .i64 (3)]) (fun _ => by kernel_rfl) ?_)
 refine WL_step rfl rfl (Exec.buildSlice (Te := 53) (cs := [Value.int .i64 (0), Value.int .i64 (0), Value.int .i64 (1), Value.int .i64 (0), Value.int .i64 (0), Value.int .i64 (2), Value.int .i64 (1), Value.int .i64 (1), Value.int .i64 (3), Value.int .i64 (2), Value.int .i64 (1), Value.int .i64 (3)]) hS101 rfl (parts_cons (c := [Value.int .i64 (0), Value.int .i64 (0), Value.int .i64 (1)]) (cells_of rfl rfl) (parts_cons (c := [Value.int .i64 (0), Value.int .i64 (0), Value.int .i64 (2)]) (cells_of rfl rfl) (parts_cons (c := [Value.int .i64 (1), Value.int .i64 (1), Value.int .i64 (3)]) (cells_of rfl rfl) (parts_cons (c := [Value.int .i64 (2), Value.int .i64 (1), Value.int .i64 (3)]) (cells_of rfl rfl) parts_nil)))) (fun _ => by kernel_rfl) ?_)
 intro b102 w102 hS102
 refine WL_step rfl rfl (Exec.build rfl (parts_cons (c := [Value.int .i64 (4)]) (cells_of rfl rfl) (parts_cons (c := [Value.slice (some ⟨b100, 0, none⟩) 2 2]) (cells_of rfl rfl) (parts_cons (c := [Value.slice (some ⟨b101, 0, none⟩) 4 4]) (cells_of rfl rfl) (parts_cons (c := [Value.slice (some ⟨b102, 0, none⟩) 4 4]) (cells_of rfl rfl) parts_nil)))) (v := Value.agg #[Value.int .i64 (4), Value.int .i64 (0), Value.slice (some ⟨b100, 0, none⟩) 2 2, Value.slice (some ⟨b102, 0, none⟩) 4 4, Value.slice (some ⟨b101, 0, none⟩) 4 4]) (fun _ => by kernel_rfl) ?_)
 refine WL_step rfl rfl (Exec.alloc (cs := [Value.int .i64 (0), Value.int .i64 (0), Value.slice none 0 0, Value.slice none 0 0, Value.slice none 0 0]) hS102 Z26 rfl rfl ?_)
 intro b103 w103 hS103
 refine WL_step rfl rfl (Exec.store_box (ds := [Value.int .i64 (4), Value.int .i64 (0), Value.slice (some ⟨b100, 0, none⟩) 2 2, Value.slice (some ⟨b102, 0, none⟩) 4 4, Value.slice (some ⟨b101, 0, none⟩) 4 4]) (es := [Value.int .i64 (4), Value.int .i64 (0), Value.slice (some ⟨b100, 0, none⟩) 2 2, Value.slice (some ⟨b102, 0, none⟩) 4 4, Value.slice (some ⟨b101, 0, none⟩) 4 4]) hS103 A26 rfl rfl rfl rfl (one_cons rfl (one_cons rfl (one_cons rfl (one_cons rfl (one_cons rfl one_nil))))) (Nat.le_of_ble_eq_true rfl) rfl ?_)
 intro w104 hS104
 refine WL_nil (at_normal ?_)
 refine W_seq ?_
 refine W_region ?_
 refine WL_step rfl rfl (Exec.load_box_agg (ds := [Value.int .i64 (4), Value.int .i64 (0), Value.slice (some ⟨b100, 0, none⟩) 2 2, Value.slice (some ⟨b102, 0, none⟩) 4 4, Value.slice (some ⟨b101, 0, none⟩) 4 4]) (hS104) A26 rfl rfl rfl ?_)
 have hS105 := (hS104).f3
 have hS106 := St.boxArr (E := (encInt .i64)) (xs := [1, 1]) hS105 ⟨[Value.int .i64 (1)], [Value.int .i64 (1)], rfl, rfl, ⟨[Value.int .i64 (1)], [], rfl, rfl, rfl⟩⟩ (by simp [maxLen])
 obtain ⟨s101, l100, hS107, r100⟩ := hS106.freezeArr
 have hS108 := (hS107).f1
 have hS109 := St.boxArr (E := encEdge) (xs := [(⟨0, 0, 1⟩ : Edge), (⟨0, 0, 2⟩ : Edge), (⟨1, 1, 3⟩ : Edge), (⟨2, 1, 3⟩ : Edge)]) hS108 ⟨[Value.int .i64 (0), Value.int .i64 (0), Value.int .i64 (1)], [Value.int .i64 (0), Value.int .i64 (0), Value.int .i64 (2), Value.int .i64 (1), Value.int .i64 (1), Value.int .i64 (3), Value.int .i64 (2), Value.int .i64 (1), Value.int .i64 (3)], rfl, ⟨[Value.int .i64 (0)], [Value.int .i64 (0), Value.int .i64 (1)], rfl, rfl, ⟨[Value.int .i64 (0)], [Value.int .i64 (1)], rfl, rfl, rfl⟩⟩, ⟨[Value.int .i64 (0), Value.int .i64 (0), Value.int .i64 (2)], [Value.int .i64 (1), Value.int .i64 (1), Value.int .i64 (3), Value.int .i64 (2), Value.int .i64 (1), Value.int .i64 (3)], rfl, ⟨[Value.int .i64 (0)], [Value.int .i64 (0), Value.int .i64 (2)], rfl, rfl, ⟨[Value.int .i64 (0)], [Value.int .i64 (2)], rfl, rfl, rfl⟩⟩, ⟨[Value.int .i64 (1), Value.int .i64 (1), Value.int .i64 (3)], [Value.int .i64 (2), Value.int .i64 (1), Value.int .i64 (3)], rfl, ⟨[Value.int .i64 (1)], [Value.int .i64 (1), Value.int .i64 (3)], rfl, rfl, ⟨[Value.int .i64 (1)], [Value.int .i64 (3)], rfl, rfl, rfl⟩⟩, ⟨[Value.int .i64 (2), Value.int .i64 (1), Value.int .i64 (3)], [], rfl, ⟨[Value.int .i64 (2)], [Value.int .i64 (1), Value.int .i64 (3)], rfl, rfl, ⟨[Value.int .i64 (1)], [Value.int .i64 (3)], rfl, rfl, rfl⟩⟩, rfl⟩⟩⟩⟩ (by simp [maxLen])
 obtain ⟨s102, l101, hS110, r101⟩ := hS109.freezeArr
 have hS111 := (hS110).f1
 have hS112 := St.boxArr (E := encBool) (xs := [false, false, false, true]) hS111 ⟨[Value.bool (false)], [Value.bool (false), Value.bool (false), Value.bool (true)], rfl, rfl, ⟨[Value.bool (false)], [Value.bool (false), Value.bool (true)], rfl, rfl, ⟨[Value.bool (false)], [Value.bool (true)], rfl, rfl, ⟨[Value.bool (true)], [], rfl, rfl, rfl⟩⟩⟩⟩ (by simp [maxLen])
 obtain ⟨s103, l102, hS113, r102⟩ := hS112.freezeArr
 obtain ⟨t100, q100, hm⟩ := bind_some hm
 obtain ⟨y101, y102⟩ := t100
 replace hm := un2_eq hm
 refine WL_step rfl rfl (Exec.call rfl rfl Tryd.func12 rfl N12 (args_cons rfl args_nil) ((shrink_Bisimulation_sim q100 hS113 (r100.mono (PHeap.le.trans l101 l102)) (r101.mono l102) r102 (ht.mono (PHeap.le.trans (PHeap.le.trans l100 l101) l102))).mono ?_))
 rintro _ w105 ⟨_, rfl, ⟨s104, v100, l103, hS114, rfl⟩⟩
 refine ⟨_, rfl, ?_⟩
 refine WL_step rfl rfl (Exec.move (v := Value.tuple #[v100, errV 34 (y102)]) rfl rfl ?_)
 refine WL_step rfl rfl (Exec.extract (v := v100) rfl rfl rfl ?_)
 refine WL_step rfl rfl (Exec.extract (v := errV 34 (y102)) rfl rfl rfl ?_)
 refine WL_step rfl rfl (Exec.assign (v := v100) rfl rfl ?_)
 refine WL_step rfl rfl (Exec.assign (v := errV 34 (y102)) rfl rfl ?_)
 refine WL_nil (at_normal ?_)
 refine W_seq ?_
 refine W_region ?_
 refine WL_step rfl rfl (Exec.load_box_agg (ds := [Value.int .i64 (4), Value.int .i64 (0), Value.slice (some ⟨b100, 0, none⟩) 2 2, Value.slice (some ⟨b102, 0, none⟩) 4 4, Value.slice (some ⟨b101, 0, none⟩) 4 4]) ((hS114).f1) A26 rfl rfl rfl ?_)
 obtain ⟨t101, q101, hm⟩ := bind_some hm
 obtain ⟨y103, y104⟩ := t101
 replace hm := un2_eq hm
 refine WL_step rfl rfl (Exec.call rfl rfl Tryd.func17 rfl N17 (args_cons rfl (args_cons rfl args_nil)) ((shrink_Merge_sim q101 hS114 (r100.mono (PHeap.le.trans (PHeap.le.trans l101 l102) l103)) (r101.mono (PHeap.le.trans l102 l103)) (r102.mono l103) (ht.mono (PHeap.le.trans (PHeap.le.trans (PHeap.le.trans l100 l101) l102) l103))).mono ?_))
 rintro _ w106 ⟨_, rfl, ⟨s105, v101, l104, hS115, rfl⟩⟩
 refine ⟨_, rfl, ?_⟩
 refine WL_step rfl rfl (Exec.move (v := Value.tuple #[v101, errV 34 (y104)]) rfl rfl ?_)
 refine WL_step rfl rfl (Exec.extract (v := v101) rfl rfl rfl ?_)
 refine WL_step rfl rfl (Exec.extract (v := errV 34 (y104)) rfl rfl rfl ?_)
 refine WL_step rfl rfl (Exec.assign (v := v101) rfl rfl ?_)
 refine WL_step rfl rfl (Exec.assign (v := errV 34 (y104)) rfl rfl ?_)
 refine WL_nil (at_normal ?_)
 refine W_seq ?_
 obtain ⟨z100, ht100, hm⟩ := bind_some hm
 refine W_mid (M := fun f' w' => (fun (z100 : Bool) => ∃ (s106 : PHeap) , PHeap.le s105 s106 ∧ St w0 s106 (H) w' ∧ f' 0 = Value.bool (z100)) z100) ?_ ?_
 ·refine W_region ?_
  refine WL_step rfl rfl (Exec.move (v := errV 34 (y102)) rfl rfl ?_)
  refine WL_step rfl rfl (Exec.err_eql_nil (T := 34) Tryd.underlying30 rfl rfl rfl ?_)
  refine WL_step rfl rfl (Exec.move (v := Value.bool (y102.isNone)) rfl rfl ?_)
  rcases ite_some ht100 with ⟨hc100, ht100⟩ | ⟨hc100, ht100⟩
  ·refine WL_run rfl (yield_of rfl (congrArg Value.bool hc100)) rfl (Exec.move (v := errV 34 (y104)) rfl rfl ?_)
   refine WL_run rfl (yield_of rfl (congrArg Value.bool hc100)) rfl (Exec.err_eql_nil (T := 34) Tryd.underlying30 rfl rfl rfl ?_)
   refine WL_step rfl rfl (Exec.pick_t (v := Value.bool (y104.isNone)) rfl (congrArg Value.bool hc100) rfl ?_)
   refine WL_step rfl rfl (Exec.move (v := Value.bool (y104.isNone)) rfl rfl ?_)
   rcases ite_some ht100 with ⟨hc101, ht100⟩ | ⟨hc101, ht100⟩
   ·refine WL_run rfl (yield_of rfl (congrArg Value.bool hc101)) rfl (Exec.move (v := v100) rfl rfl ?_)
    refine WL_run rfl (yield_of rfl (congrArg Value.bool hc101)) rfl (Exec.buildSlice (Te := 3) (cs := [Value.int .i64 (0), Value.int .i64 (1), Value.int .i64 (1), Value.int .i64 (2)]) hS115 rfl (parts_cons (c := [Value.int .i64 (0)]) (cells_of rfl rfl) (parts_cons (c := [Value.int .i64 (1)]) (cells_of rfl rfl) (parts_cons (c := [Value.int .i64 (1)]) (cells_of rfl rfl) (parts_cons (c := [Value.int .i64 (2)]) (cells_of rfl rfl) parts_nil)))) (fun _ => by kernel_rfl) ?_)
    intro b104 w107 hS116
    have hS117 := St.boxArr (E := (encInt .i64)) (xs := [0, 1, 1, 2]) hS116 ⟨[Value.int .i64 (0)], [Value.int .i64 (1), Value.int .i64 (1), Value.int .i64 (2)], rfl, rfl, ⟨[Value.int .i64 (1)], [Value.int .i64 (1), Value.int .i64 (2)], rfl, rfl, ⟨[Value.int .i64 (1)], [Value.int .i64 (2)], rfl, rfl, ⟨[Value.int .i64 (2)], [], rfl, rfl, rfl⟩⟩⟩⟩ (by simp [maxLen])
    obtain ⟨s107, l105, hS118, r103⟩ := hS117.freezeArr
    obtain ⟨y105, q102, ht100⟩ := bind_some ht100
    have hS119 := (hS118).f1
    refine WL_run rfl (yield_of rfl (congrArg Value.bool hc101)) rfl (Exec.call rfl rfl Tryd.func15 rfl N15 (args_cons rfl (args_cons rfl args_nil)) ((base_Ints_o_sim q102 hS119 r103).mono ?_))
    rintro _ w108 ⟨_, rfl, ⟨s108, l106, hS120, rfl⟩⟩
    refine ⟨_, rfl, ?_⟩
    refine WL_step rfl rfl (Exec.pick_t (v := Value.bool (y105)) rfl (congrArg Value.bool hc101) rfl ?_)
    refine WL_step rfl rfl (Exec.move (v := Value.bool (y105)) rfl rfl ?_)
    rcases ite_some ht100 with ⟨hc102, ht100⟩ | ⟨hc102, ht100⟩
    ·refine WL_run rfl (yield_of rfl (congrArg Value.bool hc102)) rfl (Exec.move (v := v101) rfl rfl ?_)
     refine WL_run rfl (yield_of rfl (congrArg Value.bool hc102)) rfl (Exec.buildSlice (Te := 3) (cs := [Value.int .i64 (0), Value.int .i64 (0), Value.int .i64 (0), Value.int .i64 (1)]) hS120 rfl (parts_cons (c := [Value.int .i64 (0)]) (cells_of rfl rfl) (parts_cons (c := [Value.int .i64 (0)]) (cells_of rfl rfl) (parts_cons (c := [Value.int .i64 (0)]) (cells_of rfl rfl) (parts_cons (c := [Value.int .i64 (1)]) (cells_of rfl rfl) parts_nil)))) (fun _ => by kernel_rfl) ?_)
     intro b105 w109 hS121
     have hS122 := St.boxArr (E := (encInt .i64)) (xs := [0, 0, 0, 1]) hS121 ⟨[Value.int .i64 (0)], [Value.int .i64 (0), Value.int .i64 (0), Value.int .i64 (1)], rfl, rfl, ⟨[Value.int .i64 (0)], [Value.int .i64 (0), Value.int .i64 (1)], rfl, rfl, ⟨[Value.int .i64 (0)], [Value.int .i64 (1)], rfl, rfl, ⟨[Value.int .i64 (1)], [], rfl, rfl, rfl⟩⟩⟩⟩ (by simp [maxLen])
     obtain ⟨s109, l107, hS123, r104⟩ := hS122.freezeArr
     obtain ⟨y106, q103, ht100⟩ := bind_some ht100
     have hS124 := (hS123).f1
     refine WL_run rfl (yield_of rfl (congrArg Value.bool hc102)) rfl (Exec.call rfl rfl Tryd.func15 rfl N15 (args_cons rfl (args_cons rfl args_nil)) ((base_Ints_o_sim q103 hS124 r104).mono ?_))
     rintro _ w110 ⟨_, rfl, ⟨s110, l108, hS125, rfl⟩⟩
     refine ⟨_, rfl, ?_⟩
     refine WL_step rfl rfl (Exec.pick_t (v := Value.bool (y106)) rfl (congrArg Value.bool hc102) rfl ?_)
     refine WL_step rfl rfl (Exec.assign (v := Value.bool (y106)) rfl rfl ?_)
     refine WL_nil (at_normal ?_)
     have e100 := Option.some.inj ht100
     subst z100
     have hS126 := (hS125).drop
     have hS127 := (hS126).drop
     have hS128 := (hS127).drop
     exact ⟨s110, (PHeap.le.trans (PHeap.le.trans (PHeap.le.trans l105 l106) l107) l108), hS128, rfl⟩
    ·replace hc102 := not_true hc102
     refine WL_pass rfl (yield_of rfl (congrArg Value.bool hc102)) rfl rfl ?_
     refine WL_pass rfl (yield_of rfl (congrArg Value.bool hc102)) rfl rfl ?_
     refine WL_pass rfl (yield_of rfl (congrArg Value.bool hc102)) rfl rfl ?_
     refine WL_step rfl rfl (Exec.pick_f (v := Value.bool (false)) rfl (congrArg Value.bool hc102) rfl ?_)
     refine WL_step rfl rfl (Exec.assign (v := Value.bool (false)) rfl rfl ?_)
     refine WL_nil (at_normal ?_)
     have e101 := Option.some.inj ht100
     subst z100
     have hS129 := (hS120).drop
     have hS130 := (hS129).drop
     have hS131 := (hS130).drop
     exact ⟨s108, (PHeap.le.trans l105 l106), hS131, rfl⟩
   ·replace hc101 := not_true hc101
    refine WL_pass rfl (yield_of rfl (congrArg Value.bool hc101)) rfl rfl ?_
    refine WL_pass rfl (yield_of rfl (congrArg Value.bool hc101)) rfl rfl ?_
    refine WL_pass rfl (yield_of rfl (congrArg Value.bool hc101)) rfl rfl ?_
    refine WL_step rfl rfl (Exec.pick_f (v := Value.bool (false)) rfl (congrArg Value.bool hc101) rfl ?_)
    refine WL_step rfl rfl (Exec.move (v := Value.bool (false)) rfl rfl ?_)
    refine WL_pass rfl (yield_of rfl rfl) rfl rfl ?_
    refine WL_pass rfl (yield_of rfl rfl) rfl rfl ?_
    refine WL_pass rfl (yield_of rfl rfl) rfl rfl ?_
    refine WL_step rfl rfl (Exec.pick_f (v := Value.bool (false)) rfl rfl rfl ?_)
    refine WL_step rfl rfl (Exec.assign (v := Value.bool (false)) rfl rfl ?_)
    refine WL_nil (at_normal ?_)
    have e102 := Option.some.inj ht100
    subst z100
    have hS132 := (hS115).drop
    have hS133 := (hS132).drop
    have hS134 := (hS133).drop
    exact ⟨s105, (PHeap.le_refl _), hS134, rfl⟩
  ·replace hc100 := not_true hc100
   refine WL_pass rfl (yield_of rfl (congrArg Value.bool hc100)) rfl rfl ?_
   refine WL_pass rfl (yield_of rfl (congrArg Value.bool hc100)) rfl rfl ?_
   refine WL_step rfl rfl (Exec.pick_f (v := Value.bool (false)) rfl (congrArg Value.bool hc100) rfl ?_)
   refine WL_step rfl rfl (Exec.move (v := Value.bool (false)) rfl rfl ?_)
   refine WL_pass rfl (yield_of rfl rfl) rfl rfl ?_
   refine WL_pass rfl (yield_of rfl rfl) rfl rfl ?_
   refine WL_pass rfl (yield_of rfl rfl) rfl rfl ?_
   refine WL_step rfl rfl (Exec.pick_f (v := Value.bool (false)) rfl rfl rfl ?_)
   refine WL_step rfl rfl (Exec.move (v := Value.bool (false)) rfl rfl ?_)
   refine WL_pass rfl (yield_of rfl rfl) rfl rfl ?_
   refine WL_pass rfl (yield_of rfl rfl) rfl rfl ?_
   refine WL_pass rfl (yield_of rfl rfl) rfl rfl ?_
   refine WL_step rfl rfl (Exec.pick_f (v := Value.bool (false)) rfl rfl rfl ?_)
   refine WL_step rfl rfl (Exec.assign (v := Value.bool (false)) rfl rfl ?_)
   refine WL_nil (at_normal ?_)
   have e103 := Option.some.inj ht100
   subst z100
   have hS135 := (hS115).drop
   have hS136 := (hS135).drop
   have hS137 := (hS136).drop
   exact ⟨s105, (PHeap.le_refl _), hS137, rfl⟩
 ·intro f100 w111 hM100
  obtain ⟨s111, l109, hS138, p100⟩ := hM100
  refine (at_normal ?_)
  refine W_ret ?_
  have e104 := Option.some.inj hm
  subst r
  refine ⟨_, ret1 rfl, ?_⟩
  exact ⟨s111, (PHeap.le.trans (PHeap.le.trans (PHeap.le.trans (PHeap.le.trans (PHeap.le.trans l100 l101) l102) l103) l104) l109), hS138, p100⟩

theorem S40 : tySlice Tryd.prog 40 = some (26, 5, 88) := by kernel_rfl

theorem N32 : (Tryd.f32.name == "runtime.NumGoroutine") = false := by kernel_rfl

theorem ref44_Before_sim {w0 w : World} {s : PHeap} {H : List Res} {a100 : Edge} {b100 : Edge}  {r : Bool} (hm : ref44_Before_p a100 b100 = some r) (hS : St w0 s (H) w)  :
  Calls Tryd.prog 32 #[Value.agg #[Value.int .i64 (a100.From), Value.int .i64 (a100.Label), Value.int .i64 (a100.To)], Value.agg #[Value.int .i64 (b100.From), Value.int .i64 (b100.Label), Value.int .i64 (b100.To)]] w fun e w' => ∃ v, e = .returned v ∧ ((fun (y100 : Bool) => ∃ (s100 : PHeap) , PHeap.le s s100 ∧ St w0 s100 (H) w' ∧ v = Value.bool (y100)) r) := by
 unfold ref44_Before_p at hm
 refine calls_of_W Tryd.func32 rfl rfl ?_
 refine W_seq ?_
 refine W_region ?_
 refine WL_step rfl rfl (Exec.box (cs := [Value.int .i64 (a100.From), Value.int .i64 (a100.Label), Value.int .i64 (a100.To)]) hS rfl rfl rfl ?_)
 intro b101 w100 hS100
 refine WL_step rfl rfl (Exec.box (cs := [Value.int .i64 (b100.From), Value.int .i64 (b100.Label), Value.int .i64 (b100.To)]) hS100 rfl rfl rfl ?_)
 intro b102 w101 hS101
 refine WL_step rfl rfl (Exec.assign (v := Value.bool (false)) rfl rfl ?_)
 refine WL_nil (at_normal ?_)
 refine W_seq ?_
 refine W_seq ?_
 refine W_region ?_
 refine WL_step rfl rfl (Exec.field F53_0 rfl rfl rfl ?_)
 refine WL_step rfl rfl (Exec.load_box ((hS101).f1) A3 rfl rfl rfl ?_)
 refine WL_step rfl rfl (Exec.field F53_0 rfl rfl rfl ?_)
 refine WL_step rfl rfl (Exec.load_box (hS101) A3 rfl rfl rfl ?_)
 refine WL_step rfl rfl (Exec.neq rfl rfl rfl ?_)
 refine WL_nil (at_normal ?_)
 rcases ite_some hm with ⟨hc100, hm⟩ | ⟨hc100, hm⟩
 ·refine W_cond_t rfl hc100 ?_
  refine W_seq ?_
  refine W_region ?_
  refine WL_step rfl rfl (Exec.field F53_0 rfl rfl rfl ?_)
  refine WL_step rfl rfl (Exec.load_box ((hS101).f1) A3 rfl rfl rfl ?_)
  refine WL_step rfl rfl (Exec.field F53_0 rfl rfl rfl ?_)
  refine WL_step rfl rfl (Exec.load_box (hS101) A3 rfl rfl rfl ?_)
  refine WL_step rfl rfl (Exec.lss rfl rfl rfl ?_)
  refine WL_step rfl rfl (Exec.assign (v := Value.bool (decide (a100.From < b100.From))) rfl rfl ?_)
  refine WL_nil (at_normal ?_)
  refine W_ret (at_ret ?_)
  have e100 := Option.some.inj hm
  subst r
  refine ⟨_, ret1 rfl, ?_⟩
  have hS102 := (hS101).drop
  have hS103 := (hS102).drop
  exact ⟨s, (PHeap.le_refl _), hS103, rfl⟩
 ·refine W_cond_f rfl hc100 ?_
  replace hc100 := not_true hc100
  refine W_skip (at_normal ?_)
  refine W_seq ?_
  refine W_seq ?_
  refine W_region ?_
  refine WL_step rfl rfl (Exec.field F53_1 rfl rfl rfl ?_)
  refine WL_step rfl rfl (Exec.load_box ((hS101).f1) A3 rfl rfl rfl ?_)
  refine WL_step rfl rfl (Exec.field F53_1 rfl rfl rfl ?_)
  refine WL_step rfl rfl (Exec.load_box (hS101) A3 rfl rfl rfl ?_)
  refine WL_step rfl rfl (Exec.neq rfl rfl rfl ?_)
  refine WL_nil (at_normal ?_)
  rcases ite_some hm with ⟨hc101, hm⟩ | ⟨hc101, hm⟩
  ·refine W_cond_t rfl hc101 ?_
   refine W_seq ?_
   refine W_region ?_
   refine WL_step rfl rfl (Exec.field F53_1 rfl rfl rfl ?_)
   refine WL_step rfl rfl (Exec.load_box ((hS101).f1) A3 rfl rfl rfl ?_)
   refine WL_step rfl rfl (Exec.field F53_1 rfl rfl rfl ?_)
   refine WL_step rfl rfl (Exec.load_box (hS101) A3 rfl rfl rfl ?_)
   refine WL_step rfl rfl (Exec.lss rfl rfl rfl ?_)
   refine WL_step rfl rfl (Exec.assign (v := Value.bool (decide (a100.Label < b100.Label))) rfl rfl ?_)
   refine WL_nil (at_normal ?_)
   refine W_ret (at_ret ?_)
   have e101 := Option.some.inj hm
   subst r
   refine ⟨_, ret1 rfl, ?_⟩
   have hS104 := (hS101).drop
   have hS105 := (hS104).drop
   exact ⟨s, (PHeap.le_refl _), hS105, rfl⟩
  ·refine W_cond_f rfl hc101 ?_
   replace hc101 := not_true hc101
   refine W_skip (at_normal ?_)
   refine W_seq ?_
   refine W_region ?_
   refine WL_step rfl rfl (Exec.field F53_2 rfl rfl rfl ?_)
   refine WL_step rfl rfl (Exec.load_box ((hS101).f1) A3 rfl rfl rfl ?_)
   refine WL_step rfl rfl (Exec.field F53_2 rfl rfl rfl ?_)
   refine WL_step rfl rfl (Exec.load_box (hS101) A3 rfl rfl rfl ?_)
   refine WL_step rfl rfl (Exec.lss rfl rfl rfl ?_)
   refine WL_step rfl rfl (Exec.assign (v := Value.bool (decide (a100.To < b100.To))) rfl rfl ?_)
   refine WL_nil (at_normal ?_)
   refine W_ret ?_
   have e102 := Option.some.inj hm
   subst r
   refine ⟨_, ret1 rfl, ?_⟩
   have hS106 := (hS101).drop
   have hS107 := (hS106).drop
   exact ⟨s, (PHeap.le_refl _), hS107, rfl⟩

theorem N13 : (Tryd.f13.name == "runtime.NumGoroutine") = false := by kernel_rfl

theorem ref44_Valid_sim {w0 w : World} {s : PHeap} {H : List Res} {x100 : System} {v100 : Value} {v101 : Value} {v102 : Value} {r : Bool} (hm : ref44_Valid_p x100 = some r) (hS : St w0 s (H) w) (a100 : SliceRep (encInt .i64) s v100 x100.Costs) (a101 : SliceRep encEdge s v101 x100.Edges) (a102 : SliceRep encBool s v102 x100.Goals) :
  Calls Tryd.prog 13 #[Value.agg #[Value.int .i64 (x100.States), Value.int .i64 (x100.Init), v100, v101, v102]] w fun e w' => ∃ v, e = .returned v ∧ ((fun (y100 : Bool) => ∃ (s100 : PHeap) , PHeap.le s s100 ∧ St w0 s100 (H) w' ∧ v = Value.bool (y100)) r) := by
 unfold ref44_Valid_p at hm
 refine calls_of_W Tryd.func13 rfl rfl ?_
 refine W_seq ?_
 refine W_region ?_
 refine WL_step rfl rfl (Exec.box (cs := [Value.int .i64 (x100.States), Value.int .i64 (x100.Init), v100, v101, v102]) hS rfl rfl rfl ?_)
 intro b100 w100 hS100
 refine WL_step rfl rfl (Exec.assign (v := Value.bool (false)) rfl rfl ?_)
 refine WL_nil (at_normal ?_)
 refine W_seq ?_
 refine W_seq ?_
 refine W_mid (M := fun f' w' => ∃ (s101 : PHeap) , PHeap.le s s101 ∧ St w0 s101 (Res.box b100 26 [Value.int .i64 (x100.States), Value.int .i64 (x100.Init), v100, v101, v102] :: H) w' ∧ f' 1 = Value.pointer (some ⟨b100, 0, none⟩) ∧ f' 46 = Value.bool (((decide (x100.States < 1)) || ((decide (4096 < x100.States)) || ((decide (x100.Init < 0)) || ((decide (x100.States ≤ x100.Init)) || ((!decide ((x100.Goals.length : Int) = x100.States)) || ((decide (4096 < (x100.Costs.length : Int))) || decide (65536 < (x100.Edges.length : Int)))))))))) ?_ ?_
 ·refine W_region ?_
  refine WL_step rfl rfl (Exec.field F26_0 rfl rfl rfl ?_)
  refine WL_step rfl rfl (Exec.load_box (hS100) A3 rfl rfl rfl ?_)
  refine WL_step rfl rfl (Exec.lss rfl rfl rfl ?_)
  refine WL_step rfl rfl (Exec.move (v := Value.bool (decide (x100.States < 1))) rfl rfl ?_)
  by_cases hc100 : (decide (x100.States < 1)) = true
  ·refine WL_pass rfl (yield_of rfl (congrArg Value.bool hc100)) rfl rfl ?_
   refine WL_pass rfl (yield_of rfl (congrArg Value.bool hc100)) rfl rfl ?_
   refine WL_pass rfl (yield_of rfl (congrArg Value.bool hc100)) rfl rfl ?_
   refine WL_step rfl rfl (Exec.pick_t (v := Value.bool (true)) rfl (congrArg Value.bool hc100) rfl ?_)
   refine WL_step rfl rfl (Exec.move (v := Value.bool (true)) rfl rfl ?_)
   refine WL_pass rfl (yield_of rfl rfl) rfl rfl ?_
   refine WL_pass rfl (yield_of rfl rfl) rfl rfl ?_
   refine WL_pass rfl (yield_of rfl rfl) rfl rfl ?_
   refine WL_step rfl rfl (Exec.pick_t (v := Value.bool (true)) rfl rfl rfl ?_)
   refine WL_step rfl rfl (Exec.move (v := Value.bool (true)) rfl rfl ?_)
   refine WL_pass rfl (yield_of rfl rfl) rfl rfl ?_
   refine WL_pass rfl (yield_of rfl rfl) rfl rfl ?_
   refine WL_pass rfl (yield_of rfl rfl) rfl rfl ?_
   refine WL_pass rfl (yield_of rfl rfl) rfl rfl ?_
   refine WL_pass rfl (yield_of rfl rfl) rfl rfl ?_
   refine WL_step rfl rfl (Exec.pick_t (v := Value.bool (true)) rfl rfl rfl ?_)
   refine WL_step rfl rfl (Exec.move (v := Value.bool (true)) rfl rfl ?_)
   refine WL_pass rfl (yield_of rfl rfl) rfl rfl ?_
   refine WL_pass rfl (yield_of rfl rfl) rfl rfl ?_
   refine WL_pass rfl (yield_of rfl rfl) rfl rfl ?_
   refine WL_pass rfl (yield_of rfl rfl) rfl rfl ?_
   refine WL_pass rfl (yield_of rfl rfl) rfl rfl ?_
   refine WL_pass rfl (yield_of rfl rfl) rfl rfl ?_
   refine WL_step rfl rfl (Exec.pick_t (v := Value.bool (true)) rfl rfl rfl ?_)
   refine WL_step rfl rfl (Exec.move (v := Value.bool (true)) rfl rfl ?_)
   refine WL_pass rfl (yield_of rfl rfl) rfl rfl ?_
   refine WL_pass rfl (yield_of rfl rfl) rfl rfl ?_
   refine WL_pass rfl (yield_of rfl rfl) rfl rfl ?_
   refine WL_pass rfl (yield_of rfl rfl) rfl rfl ?_
   refine WL_step rfl rfl (Exec.pick_t (v := Value.bool (true)) rfl rfl rfl ?_)
   refine WL_step rfl rfl (Exec.move (v := Value.bool (true)) rfl rfl ?_)
   refine WL_pass rfl (yield_of rfl rfl) rfl rfl ?_
   refine WL_pass rfl (yield_of rfl rfl) rfl rfl ?_
   refine WL_pass rfl (yield_of rfl rfl) rfl rfl ?_
   refine WL_pass rfl (yield_of rfl rfl) rfl rfl ?_
   refine WL_step rfl rfl (Exec.pick_t (v := Value.bool (true)) rfl rfl rfl ?_)
   refine WL_nil (at_normal ?_)
   exact ⟨s, (PHeap.le_refl _), hS100, rfl, (congrArg Value.bool (or_t hc100)).symm⟩
  ·replace hc100 := not_true hc100
   refine WL_run rfl (yield_of rfl (congrArg Value.bool hc100)) rfl (Exec.field F26_0 rfl rfl rfl ?_)
   refine WL_run rfl (yield_of rfl (congrArg Value.bool hc100)) rfl (Exec.load_box (hS100) A3 rfl rfl rfl ?_)
   refine WL_run rfl (yield_of rfl (congrArg Value.bool hc100)) rfl (Exec.gtr rfl rfl rfl ?_)
   refine WL_step rfl rfl (Exec.pick_f (v := Value.bool (decide (4096 < x100.States))) rfl (congrArg Value.bool hc100) rfl ?_)
   refine WL_step rfl rfl (Exec.move (v := Value.bool (decide (4096 < x100.States))) rfl rfl ?_)
   by_cases hc101 : (decide (4096 < x100.States)) = true
   ·refine WL_pass rfl (yield_of rfl (congrArg Value.bool hc101)) rfl rfl ?_
    refine WL_pass rfl (yield_of rfl (congrArg Value.bool hc101)) rfl rfl ?_
    refine WL_pass rfl (yield_of rfl (congrArg Value.bool hc101)) rfl rfl ?_
    refine WL_step rfl rfl (Exec.pick_t (v := Value.bool (true)) rfl (congrArg Value.bool hc101) rfl ?_)
    refine WL_step rfl rfl (Exec.move (v := Value.bool (true)) rfl rfl ?_)
    refine WL_pass rfl (yield_of rfl rfl) rfl rfl ?_
    refine WL_pass rfl (yield_of rfl rfl) rfl rfl ?_
    refine WL_pass rfl (yield_of rfl rfl) rfl rfl ?_
    refine WL_pass rfl (yield_of rfl rfl) rfl rfl ?_
    refine WL_pass rfl (yield_of rfl rfl) rfl rfl ?_
    refine WL_step rfl rfl (Exec.pick_t (v := Value.bool (true)) rfl rfl rfl ?_)
    refine WL_step rfl rfl (Exec.move (v := Value.bool (true)) rfl rfl ?_)
    refine WL_pass rfl (yield_of rfl rfl) rfl rfl ?_
    refine WL_pass rfl (yield_of rfl rfl) rfl rfl ?_
    refine WL_pass rfl (yield_of rfl rfl) rfl rfl ?_
    refine WL_pass rfl (yield_of rfl rfl) rfl rfl ?_
    refine WL_pass rfl (yield_of rfl rfl) rfl rfl ?_
    refine WL_pass rfl (yield_of rfl rfl) rfl rfl ?_
    refine WL_step rfl rfl (Exec.pick_t (v := Value.bool (true)) rfl rfl rfl ?_)
    refine WL_step rfl rfl (Exec.move (v := Value.bool (true)) rfl rfl ?_)
    refine WL_pass rfl (yield_of rfl rfl) rfl rfl ?_
    refine WL_pass rfl (yield_of rfl rfl) rfl rfl ?_
    refine WL_pass rfl (yield_of rfl rfl) rfl rfl ?_
    refine WL_pass rfl (yield_of rfl rfl) rfl rfl ?_
    refine WL_step rfl rfl (Exec.pick_t (v := Value.bool (true)) rfl rfl rfl ?_)
    refine WL_step rfl rfl (Exec.move (v := Value.bool (true)) rfl rfl ?_)
    refine WL_pass rfl (yield_of rfl rfl) rfl rfl ?_
    refine WL_pass rfl (yield_of rfl rfl) rfl rfl ?_
    refine WL_pass rfl (yield_of rfl rfl) rfl rfl ?_
    refine WL_pass rfl (yield_of rfl rfl) rfl rfl ?_
    refine WL_step rfl rfl (Exec.pick_t (v := Value.bool (true)) rfl rfl rfl ?_)
    refine WL_nil (at_normal ?_)
    exact ⟨s, (PHeap.le_refl _), hS100, rfl, (congrArg Value.bool (Eq.trans (or_f hc100) (or_t hc101))).symm⟩
   ·replace hc101 := not_true hc101
    refine WL_run rfl (yield_of rfl (congrArg Value.bool hc101)) rfl (Exec.field F26_1 rfl rfl rfl ?_)
    refine WL_run rfl (yield_of rfl (congrArg Value.bool hc101)) rfl (Exec.load_box (hS100) A3 rfl rfl rfl ?_)
    refine WL_run rfl (yield_of rfl (congrArg Value.bool hc101)) rfl (Exec.lss rfl rfl rfl ?_)
    refine WL_step rfl rfl (Exec.pick_f (v := Value.bool (decide (x100.Init < 0))) rfl (congrArg Value.bool hc101) rfl ?_)
    refine WL_step rfl rfl (Exec.move (v := Value.bool (decide (x100.Init < 0))) rfl rfl ?_)
    by_cases hc102 : (decide (x100.Init < 0)) = true
    ·refine WL_pass rfl (yield_of rfl (congrArg Value.bool hc102)) rfl rfl ?_
     refine WL_pass rfl (yield_of rfl (congrArg Value.bool hc102)) rfl rfl ?_
     refine WL_pass rfl (yield_of rfl (congrArg Value.bool hc102)) rfl rfl ?_
     refine WL_pass rfl (yield_of rfl (congrArg Value.bool hc102)) rfl rfl ?_
     refine WL_pass rfl (yield_of rfl (congrArg Value.bool hc102)) rfl rfl ?_
     refine WL_step rfl rfl (Exec.pick_t (v := Value.bool (true)) rfl (congrArg Value.bool hc102) rfl ?_)
     refine WL_step rfl rfl (Exec.move (v := Value.bool (true)) rfl rfl ?_)
     refine WL_pass rfl (yield_of rfl rfl) rfl rfl ?_
     refine WL_pass rfl (yield_of rfl rfl) rfl rfl ?_
     refine WL_pass rfl (yield_of rfl rfl) rfl rfl ?_
     refine WL_pass rfl (yield_of rfl rfl) rfl rfl ?_
     refine WL_pass rfl (yield_of rfl rfl) rfl rfl ?_
     refine WL_pass rfl (yield_of rfl rfl) rfl rfl ?_
     refine WL_step rfl rfl (Exec.pick_t (v := Value.bool (true)) rfl rfl rfl ?_)
     refine WL_step rfl rfl (Exec.move (v := Value.bool (true)) rfl rfl ?_)
     refine WL_pass rfl (yield_of rfl rfl) rfl rfl ?_
     refine WL_pass rfl (yield_of rfl rfl) rfl rfl ?_
     refine WL_pass rfl (yield_of rfl rfl) rfl rfl ?_
     refine WL_pass rfl (yield_of rfl rfl) rfl rfl ?_
     refine WL_step rfl rfl (Exec.pick_t (v := Value.bool (true)) rfl rfl rfl ?_)
     refine WL_step rfl rfl (Exec.move (v := Value.bool (true)) rfl rfl ?_)
     refine WL_pass rfl (yield_of rfl rfl) rfl rfl ?_
     refine WL_pass rfl (yield_of rfl rfl) rfl rfl ?_
     refine WL_pass rfl (yield_of rfl rfl) rfl rfl ?_
     refine WL_pass rfl (yield_of rfl rfl) rfl rfl ?_
     refine WL_step rfl rfl (Exec.pick_t (v := Value.bool (true)) rfl rfl rfl ?_)
     refine WL_nil (at_normal ?_)
     exact ⟨s, (PHeap.le_refl _), hS100, rfl, (congrArg Value.bool (Eq.trans (or_f hc100) (Eq.trans (or_f hc101) (or_t hc102)))).symm⟩
    ·replace hc102 := not_true hc102
     refine WL_run rfl (yield_of rfl (congrArg Value.bool hc102)) rfl (Exec.field F26_1 rfl rfl rfl ?_)
     refine WL_run rfl (yield_of rfl (congrArg Value.bool hc102)) rfl (Exec.load_box (hS100) A3 rfl rfl rfl ?_)
     refine WL_run rfl (yield_of rfl (congrArg Value.bool hc102)) rfl (Exec.field F26_0 rfl rfl rfl ?_)
     refine WL_run rfl (yield_of rfl (congrArg Value.bool hc102)) rfl (Exec.load_box (hS100) A3 rfl rfl rfl ?_)
     refine WL_run rfl (yield_of rfl (congrArg Value.bool hc102)) rfl (Exec.geq rfl rfl rfl ?_)
     refine WL_step rfl rfl (Exec.pick_f (v := Value.bool (decide (x100.States ≤ x100.Init))) rfl (congrArg Value.bool hc102) rfl ?_)
     refine WL_step rfl rfl (Exec.move (v := Value.bool (decide (x100.States ≤ x100.Init))) rfl rfl ?_)
     by_cases hc103 : (decide (x100.States ≤ x100.Init)) = true
     ·refine WL_pass rfl (yield_of rfl (congrArg Value.bool hc103)) rfl rfl ?_
      refine WL_pass rfl (yield_of rfl (congrArg Value.bool hc103)) rfl rfl ?_
      refine WL_pass rfl (yield_of rfl (congrArg Value.bool hc103)) rfl rfl ?_
      refine WL_pass rfl (yield_of rfl (congrArg Value.bool hc103)) rfl rfl ?_
      refine WL_pass rfl (yield_of rfl (congrArg Value.bool hc103)) rfl rfl ?_
      refine WL_pass rfl (yield_of rfl (congrArg Value.bool hc103)) rfl rfl ?_
      refine WL_step rfl rfl (Exec.pick_t (v := Value.bool (true)) rfl (congrArg Value.bool hc103) rfl ?_)
      refine WL_step rfl rfl (Exec.move (v := Value.bool (true)) rfl rfl ?_)
      refine WL_pass rfl (yield_of rfl rfl) rfl rfl ?_
      refine WL_pass rfl (yield_of rfl rfl) rfl rfl ?_
      refine WL_pass rfl (yield_of rfl rfl) rfl rfl ?_
      refine WL_pass rfl (yield_of rfl rfl) rfl rfl ?_
      refine WL_step rfl rfl (Exec.pick_t (v := Value.bool (true)) rfl rfl rfl ?_)
      refine WL_step rfl rfl (Exec.move (v := Value.bool (true)) rfl rfl ?_)
      refine WL_pass rfl (yield_of rfl rfl) rfl rfl ?_
      refine WL_pass rfl (yield_of rfl rfl) rfl rfl ?_
      refine WL_pass rfl (yield_of rfl rfl) rfl rfl ?_
      refine WL_pass rfl (yield_of rfl rfl) rfl rfl ?_
      refine WL_step rfl rfl (Exec.pick_t (v := Value.bool (true)) rfl rfl rfl ?_)
      refine WL_nil (at_normal ?_)
      exact ⟨s, (PHeap.le_refl _), hS100, rfl, (congrArg Value.bool (Eq.trans (or_f hc100) (Eq.trans (or_f hc101) (Eq.trans (or_f hc102) (or_t hc103))))).symm⟩
     ·replace hc103 := not_true hc103
      refine WL_run rfl (yield_of rfl (congrArg Value.bool hc103)) rfl (Exec.field F26_4 rfl rfl rfl ?_)
      refine WL_run rfl (yield_of rfl (congrArg Value.bool hc103)) rfl (Exec.load_box (hS100) A24 rfl rfl rfl ?_)
      refine WL_run rfl (yield_of rfl (congrArg Value.bool hc103)) rfl (Exec.len_rep S24 rfl rfl a102 ?_)
      refine WL_run rfl (yield_of rfl (congrArg Value.bool hc103)) rfl (Exec.field F26_0 rfl rfl rfl ?_)
      refine WL_run rfl (yield_of rfl (congrArg Value.bool hc103)) rfl (Exec.load_box (hS100) A3 rfl rfl rfl ?_)
      refine WL_run rfl (yield_of rfl (congrArg Value.bool hc103)) rfl (Exec.neq rfl rfl rfl ?_)
      refine WL_step rfl rfl (Exec.pick_f (v := Value.bool (!decide ((x100.Goals.length : Int) = x100.States))) rfl (congrArg Value.bool hc103) rfl ?_)
      refine WL_step rfl rfl (Exec.move (v := Value.bool (!decide ((x100.Goals.length : Int) = x100.States))) rfl rfl ?_)
      by_cases hc104 : (!decide ((x100.Goals.length : Int) = x100.States)) = true
      ·refine WL_pass rfl (yield_of rfl (congrArg Value.bool hc104)) rfl rfl ?_
       refine WL_pass rfl (yield_of rfl (congrArg Value.bool hc104)) rfl rfl ?_
       refine WL_pass rfl (yield_of rfl (congrArg Value.bool hc104)) rfl rfl ?_
       refine WL_pass rfl (yield_of rfl (congrArg Value.bool hc104)) rfl rfl ?_
       refine WL_step rfl rfl (Exec.pick_t (v := Value.bool (true)) rfl (congrArg Value.bool hc104) rfl ?_)
       refine WL_step rfl rfl (Exec.move (v := Value.bool (true)) rfl rfl ?_)
       refine WL_pass rfl (yield_of rfl rfl) rfl rfl ?_
       refine WL_pass rfl (yield_of rfl rfl) rfl rfl ?_
       refine WL_pass rfl (yield_of rfl rfl) rfl rfl ?_
       refine WL_pass rfl (yield_of rfl rfl) rfl rfl ?_
       refine WL_step rfl rfl (Exec.pick_t (v := Value.bool (true)) rfl rfl rfl ?_)
       refine WL_nil (at_normal ?_)
       exact ⟨s, (PHeap.le_refl _), hS100, rfl, (congrArg Value.bool (Eq.trans (or_f hc100) (Eq.trans (or_f hc101) (Eq.trans (or_f hc102) (Eq.trans (or_f hc103) (or_t hc104)))))).symm⟩
      ·replace hc104 := not_true hc104
       refine WL_run rfl (yield_of rfl (congrArg Value.bool hc104)) rfl (Exec.field F26_2 rfl rfl rfl ?_)
       refine WL_run rfl (yield_of rfl (congrArg Value.bool hc104)) rfl (Exec.load_box (hS100) A22 rfl rfl rfl ?_)
       refine WL_run rfl (yield_of rfl (congrArg Value.bool hc104)) rfl (Exec.len_rep S22 rfl rfl a100 ?_)
       refine WL_run rfl (yield_of rfl (congrArg Value.bool hc104)) rfl (Exec.gtr rfl rfl rfl ?_)
       refine WL_step rfl rfl (Exec.pick_f (v := Value.bool (decide (4096 < (x100.Costs.length : Int)))) rfl (congrArg Value.bool hc104) rfl ?_)
       refine WL_step rfl rfl (Exec.move (v := Value.bool (decide (4096 < (x100.Costs.length : Int)))) rfl rfl ?_)
       by_cases hc105 : (decide (4096 < (x100.Costs.length : Int))) = true
       ·refine WL_pass rfl (yield_of rfl (congrArg Value.bool hc105)) rfl rfl ?_
        refine WL_pass rfl (yield_of rfl (congrArg Value.bool hc105)) rfl rfl ?_
        refine WL_pass rfl (yield_of rfl (congrArg Value.bool hc105)) rfl rfl ?_
        refine WL_pass rfl (yield_of rfl (congrArg Value.bool hc105)) rfl rfl ?_
        refine WL_step rfl rfl (Exec.pick_t (v := Value.bool (true)) rfl (congrArg Value.bool hc105) rfl ?_)
        refine WL_nil (at_normal ?_)
        exact ⟨s, (PHeap.le_refl _), hS100, rfl, (congrArg Value.bool (Eq.trans (or_f hc100) (Eq.trans (or_f hc101) (Eq.trans (or_f hc102) (Eq.trans (or_f hc103) (Eq.trans (or_f hc104) (or_t hc105))))))).symm⟩
       ·replace hc105 := not_true hc105
        refine WL_run rfl (yield_of rfl (congrArg Value.bool hc105)) rfl (Exec.field F26_3 rfl rfl rfl ?_)
        refine WL_run rfl (yield_of rfl (congrArg Value.bool hc105)) rfl (Exec.load_box (hS100) A23 rfl rfl rfl ?_)
        refine WL_run rfl (yield_of rfl (congrArg Value.bool hc105)) rfl (Exec.len_rep S23 rfl rfl a101 ?_)
        refine WL_run rfl (yield_of rfl (congrArg Value.bool hc105)) rfl (Exec.gtr rfl rfl rfl ?_)
        refine WL_step rfl rfl (Exec.pick_f (v := Value.bool (decide (65536 < (x100.Edges.length : Int)))) rfl (congrArg Value.bool hc105) rfl ?_)
        refine WL_nil (at_normal ?_)
        exact ⟨s, (PHeap.le_refl _), hS100, rfl, (congrArg Value.bool (Eq.trans (or_f hc100) (Eq.trans (or_f hc101) (Eq.trans (or_f hc102) (Eq.trans (or_f hc103) (Eq.trans (or_f hc104) (or_f hc105))))))).symm⟩
 ·intro f100 w101 hM100
  obtain ⟨s102, l100, hS101, p100, p101⟩ := hM100
  refine (at_normal ?_)
  rcases ite_some hm with ⟨hc106, hm⟩ | ⟨hc106, hm⟩
  ·refine W_cond_t p101 hc106 ?_
   refine W_seq ?_
   refine W_region ?_
   refine WL_step rfl rfl (Exec.assign (v := Value.bool (false)) rfl rfl ?_)
   refine WL_nil (at_normal ?_)
   refine W_ret (at_ret ?_)
   have e100 := Option.some.inj hm
   subst r
   refine ⟨_, ret1 rfl, ?_⟩
   have hS102 := (hS101).drop
   exact ⟨s102, l100, hS102, rfl⟩
  ·refine W_cond_f p101 hc106 ?_
   replace hc106 := not_true hc106
   refine W_skip (at_normal ?_)
   refine W_seq ?_
   refine W_seq ?_
   refine W_region ?_
   refine WL_step rfl rfl (Exec.field F26_2 rfl p100 rfl ?_)
   refine WL_step rfl rfl (Exec.load_box (hS101) A22 rfl rfl rfl ?_)
   refine WL_step rfl rfl (Exec.len_rep S22 rfl rfl (a100.mono l100) ?_)
   refine WL_step rfl rfl (Exec.move (v := Value.int .i64 (0)) rfl rfl ?_)
   refine WL_nil (at_normal ?_)
   obtain ⟨c100, hB100, hr100, hn100, hb100⟩ := ctl_some hm
   refine W_mid (M := fun f' w' => ∃ s', (c100 = .next s' ∨ c100 = .brk s') ∧ (fun (_ : Unit) => ∃ (s103 : PHeap) , PHeap.le s102 s103 ∧ St w0 s103 (Res.box b100 26 [Value.int .i64 (x100.States), Value.int .i64 (x100.Init), v100, v101, v102] :: H) w' ∧ f' 1 = Value.pointer (some ⟨b100, 0, none⟩) ∧ f' 48 = v100 ∧ f' 49 = Value.int .i64 ((x100.Costs.length : Int))) s') ?_ ?_
   ·refine W_block (W_forC (fun k' s' f' w' => (fun (_ : Unit) => ∃ (s104 : PHeap) , PHeap.le s102 s104 ∧ St w0 s104 (Res.box b100 26 [Value.int .i64 (x100.States), Value.int .i64 (x100.Init), v100, v101, v102] :: H) w' ∧ f' 1 = Value.pointer (some ⟨b100, 0, none⟩) ∧ f' 48 = v100 ∧ f' 49 = Value.int .i64 ((x100.Costs.length : Int)) ∧ f' 50 = Value.int .i64 (k' : Int)) s') hB100 ?_ ?_ ?_)
    ·exact ⟨s102, (PHeap.le_refl _), hS101, p100, rfl, rfl, rfl⟩
    ·intro i100 t100 c101 f101 w102 hi100 hI100 hm100 hres100
     obtain ⟨s105, l101, hS103, p102, p103, p104, x101⟩ := hI100
     refine W_seq ?_
     refine W_region ?_
     refine WL_step rfl rfl (Exec.lss rfl x101 p104 ?_)
     refine WL_nil (at_normal ?_)
     refine W_seq ?_
     refine W_true (congrArg Value.bool (decide_eq_true (by omega))) ?_
     refine W_skip (at_normal ?_)
     refine W_seq ?_
     refine W_block ?_
     refine W_seq ?_
     refine W_region ?_
     obtain ⟨x102, q100, hm100⟩ := bind_some hm100
     refine WL_step rfl rfl (Exec.index_rep S22 rfl p103 x101 (a100.mono (PHeap.le.trans l100 l101)) q100 ?_)
     intro b101 o100 a103
     refine WL_step rfl rfl (Exec.load_at (E := (encInt .i64)) hS103 A3 rfl rfl rfl a103 ?_)
     intro v103 q101
     obtain rfl := encInt_val.1 q101
     refine WL_step rfl rfl (Exec.assign (v := Value.int .i64 (x102)) rfl rfl ?_)
     refine WL_nil (at_normal ?_)
     refine W_seq ?_
     refine W_mid (M := fun f' w' => ∃ (s106 : PHeap) , PHeap.le s105 s106 ∧ St w0 s106 (Res.box b100 26 [Value.int .i64 (x100.States), Value.int .i64 (x100.Init), v100, v101, v102] :: H) w' ∧ f' 1 = Value.pointer (some ⟨b100, 0, none⟩) ∧ f' 48 = v100 ∧ f' 49 = Value.int .i64 ((x100.Costs.length : Int)) ∧ f' 50 = Value.int .i64 ((i100 : Int)) ∧ f' 59 = Value.bool (((decide (x102 < 0)) || decide (1048576 < x102)))) ?_ ?_
     ·refine W_region ?_
      refine WL_step rfl rfl (Exec.move (v := Value.int .i64 (x102)) rfl rfl ?_)
      refine WL_step rfl rfl (Exec.lss rfl rfl rfl ?_)
      refine WL_step rfl rfl (Exec.move (v := Value.bool (decide (x102 < 0))) rfl rfl ?_)
      by_cases hc107 : (decide (x102 < 0)) = true
      ·refine WL_pass rfl (yield_of rfl (congrArg Value.bool hc107)) rfl rfl ?_
       refine WL_pass rfl (yield_of rfl (congrArg Value.bool hc107)) rfl rfl ?_
       refine WL_step rfl rfl (Exec.pick_t (v := Value.bool (true)) rfl (congrArg Value.bool hc107) rfl ?_)
       refine WL_nil (at_normal ?_)
       exact ⟨s105, (PHeap.le_refl _), hS103, p102, p103, p104, x101, (congrArg Value.bool (or_t hc107)).symm⟩
      ·replace hc107 := not_true hc107
       refine WL_run rfl (yield_of rfl (congrArg Value.bool hc107)) rfl (Exec.move (v := Value.int .i64 (x102)) rfl rfl ?_)
       refine WL_run rfl (yield_of rfl (congrArg Value.bool hc107)) rfl (Exec.gtr rfl rfl rfl ?_)
       refine WL_step rfl rfl (Exec.pick_f (v := Value.bool (decide (1048576 < x102))) rfl (congrArg Value.bool hc107) rfl ?_)
       refine WL_nil (at_normal ?_)
       exact ⟨s105, (PHeap.le_refl _), hS103, p102, p103, p104, x101, (congrArg Value.bool (or_f hc107)).symm⟩
     ·intro f102 w103 hM101
      obtain ⟨s107, l102, hS104, p105, p106, p107, p108, p109⟩ := hM101
      refine (at_normal ?_)
      rcases ite_some hm100 with ⟨hc108, hm100⟩ | ⟨hc108, hm100⟩
      ·refine W_cond_t p109 hc108 ?_
       refine W_seq ?_
       refine W_region ?_
       refine WL_step rfl rfl (Exec.assign (v := Value.bool (false)) rfl rfl ?_)
       refine WL_nil (at_normal ?_)
       refine W_ret (ib_ret (at_ret (at_ret (ib_ret (at_ret (at_ret ?_))))))
       have e101 := Option.some.inj hm100
       subst c101
       have hq100 := hr100 _ (hres100 (by intro _ h; cases h))
       have e102 := Option.some.inj hq100
       subst r
       refine ⟨_, ret1 rfl, ?_⟩
       have hS105 := (hS104).drop
       exact ⟨s107, (PHeap.le.trans (PHeap.le.trans l100 l101) l102), hS105, rfl⟩
      ·refine W_cond_f p109 hc108 ?_
       replace hc108 := not_true hc108
       refine W_skip (ib_normal (at_normal ?_))
       refine W_region ?_
       refine WL_step rfl rfl (Exec.add rfl p108 rfl ?_)
       refine WL_step rfl rfl (Exec.move (v := Value.int .i64 (IntKind.i64.wrap ((i100 : Int) + 1))) rfl rfl ?_)
       refine WL_nil (at_normal ?_)
       have e103 := Option.some.inj hm100
       subst c101
       refine ⟨_, rfl, ?_⟩; exact ⟨s107, (PHeap.le.trans l101 l102), hS104, p105, p106, p107, (Eq.trans rfl (wrap_up hi100 (SliceRep.le (a100.mono l100))))⟩
    ·intro t101 f103 w104 hI101 hres101
     obtain ⟨s108, l103, hS106, p110, p111, p112, x103⟩ := hI101
     refine W_seq ?_
     refine W_region ?_
     refine WL_step rfl rfl (Exec.lss rfl x103 p112 ?_)
     refine WL_nil (at_normal ?_)
     refine W_seq ?_
     refine W_false (congrArg Value.bool (decide_eq_false (by omega))) ?_
     refine W_exit (at_exit (at_exit (ib_here (at_normal ?_))))
     refine ⟨_, .inl hres101, ?_⟩; exact ⟨s108, l103, hS106, p110, p111, p112⟩
   ·rintro f104 w105 ⟨t102, hc109, hM102⟩
    have hm := hc109.elim (hn100 _) (hb100 _)
    clear hc109
    obtain ⟨s109, l104, hS107, p113, p114, p115⟩ := hM102
    refine (at_normal ?_)
    refine W_seq ?_
    refine W_seq ?_
    refine W_region ?_
    refine WL_step rfl rfl (Exec.field F26_3 rfl p113 rfl ?_)
    refine WL_step rfl rfl (Exec.load_box (hS107) A23 rfl rfl rfl ?_)
    refine WL_step rfl rfl (Exec.len_rep S23 rfl rfl (a101.mono (PHeap.le.trans l100 l104)) ?_)
    refine WL_step rfl rfl (Exec.move (v := Value.int .i64 (0)) rfl rfl ?_)
    refine WL_nil (at_normal ?_)
    obtain ⟨c102, hB101, hr101, hn101, hb101⟩ := ctl_some hm
    refine W_mid (M := fun f' w' => ∃ s', (c102 = .next s' ∨ c102 = .brk s') ∧ (fun (_ : Unit) => ∃ (s110 : PHeap) , PHeap.le s109 s110 ∧ St w0 s110 (Res.box b100 26 [Value.int .i64 (x100.States), Value.int .i64 (x100.Init), v100, v101, v102] :: H) w' ∧ f' 1 = Value.pointer (some ⟨b100, 0, none⟩) ∧ f' 62 = v101 ∧ f' 63 = Value.int .i64 ((x100.Edges.length : Int))) s') ?_ ?_
    ·refine W_block (W_forC (fun k' s' f' w' => (fun (_ : Unit) => ∃ (s111 : PHeap) , PHeap.le s109 s111 ∧ St w0 s111 (Res.box b100 26 [Value.int .i64 (x100.States), Value.int .i64 (x100.Init), v100, v101, v102] :: H) w' ∧ f' 1 = Value.pointer (some ⟨b100, 0, none⟩) ∧ f' 62 = v101 ∧ f' 63 = Value.int .i64 ((x100.Edges.length : Int)) ∧ f' 64 = Value.int .i64 (k' : Int)) s') hB101 ?_ ?_ ?_)
     ·exact ⟨s109, (PHeap.le_refl _), hS107, p113, rfl, rfl, rfl⟩
     ·intro i101 t103 c103 f105 w106 hi101 hI102 hm101 hres102
      obtain ⟨s112, l105, hS108, p116, p117, p118, x104⟩ := hI102
      refine W_seq ?_
      refine W_region ?_
      refine WL_step rfl rfl (Exec.lss rfl x104 p118 ?_)
      refine WL_nil (at_normal ?_)
      refine W_seq ?_
      refine W_true (congrArg Value.bool (decide_eq_true (by omega))) ?_
      refine W_skip (at_normal ?_)
      refine W_seq ?_
      refine W_block ?_
      refine W_seq ?_
      refine W_region ?_
      refine WL_step rfl rfl (Exec.move (v := Value.int .i64 ((i101 : Int))) rfl x104 ?_)
      obtain ⟨x105, q102, hm101⟩ := bind_some hm101
      refine WL_step rfl rfl (Exec.index_rep S23 rfl p117 x104 (a101.mono (PHeap.le.trans (PHeap.le.trans l100 l104) l105)) q102 ?_)
      intro b102 o101 a104
      refine WL_step rfl rfl (Exec.load_at (E := encEdge) hS108 A53 rfl rfl rfl a104 ?_)
      intro v104 q103
      obtain rfl := encEdge_val.1 q103
      refine WL_step rfl rfl (Exec.alloc (cs := [Value.int .i64 (0), Value.int .i64 (0), Value.int .i64 (0)]) hS108 Z53 rfl rfl ?_)
      intro b103 w107 hS109
      refine WL_step rfl rfl (Exec.assign (v := Value.int .i64 ((i101 : Int))) rfl rfl ?_)
      refine WL_step rfl rfl (Exec.store_box (ds := [Value.int .i64 (x105.From), Value.int .i64 (x105.Label), Value.int .i64 (x105.To)]) (es := [Value.int .i64 (x105.From), Value.int .i64 (x105.Label), Value.int .i64 (x105.To)]) hS109 A53 rfl rfl rfl rfl (one_cons rfl (one_cons rfl (one_cons rfl one_nil))) (Nat.le_of_ble_eq_true rfl) rfl ?_)
      intro w108 hS110
      refine WL_nil (at_normal ?_)
      refine W_seq ?_
      obtain ⟨z100, ht100, hm101⟩ := bind_some hm101
      refine W_mid (M := fun f' w' => (fun (z100 : Bool) => ∃ (s113 : PHeap) , PHeap.le s112 s113 ∧ St w0 s113 (Res.box b100 26 [Value.int .i64 (x100.States), Value.int .i64 (x100.Init), v100, v101, v102] :: H) w' ∧ f' 1 = Value.pointer (some ⟨b100, 0, none⟩) ∧ f' 62 = v101 ∧ f' 63 = Value.int .i64 ((x100.Edges.length : Int)) ∧ f' 64 = Value.int .i64 ((i101 : Int)) ∧ f' 118 = Value.bool (z100)) z100) ?_ ?_
      ·refine W_dl (n0 := 50) (.q 0 (.q 1 (.q 2 (.q 3 (.q 4 (.q 5 (.q 6 (.q 7 (.q 8 (.q 9 (.q 10 (.q 11 (.q 12 (.q 13 (.q 14 (.q 15 (.q 16 (.q 17 (.q 18 (.q 19 (.q 20 (.q 21 (.q 22 (.q 23 (.q 24 (.q 25 (.q 26 (.q 27 (.q 28 (.q 29 (.q 30 (.q 31 (.q 32 (.q 33 (.q 34 (.q 35 (.q 36 (.q 37 (.q 38 (.q 39 (.q 40 (.q 41 (.q 42 (.q 43 (.q 44 (.q 45 (.e 46 [] (.q 47 (.q 48 (.q 49 .done)))))))))))))))))))))))))))))))))))))))))))))))))) hmix (by kernel_rfl) (by kernel_rfl) ?_
       have hS111 := hS110.drew
       refine DL_q rfl rfl (Exec.field F53_0 rfl rfl rfl ⟨rfl, ?_⟩)
       refine DL_q rfl rfl (Exec.load_box (hS111) A3 rfl rfl rfl ⟨rfl, ?_⟩)
       refine DL_q rfl rfl (Exec.lss rfl rfl rfl ⟨rfl, ?_⟩)
       refine DL_q rfl rfl (Exec.move (v := Value.bool (decide (x105.From < 0))) rfl rfl ⟨rfl, ?_⟩)
       rcases ite_some ht100 with ⟨hc110, ht100⟩ | ⟨hc110, ht100⟩
       ·refine DL_qp rfl rfl (yield_of rfl (congrArg Value.bool hc110)) rfl ?_
        refine DL_qp rfl rfl (yield_of rfl (congrArg Value.bool hc110)) rfl ?_
        refine DL_qp rfl rfl (yield_of rfl (congrArg Value.bool hc110)) rfl ?_
        refine DL_qp rfl rfl (yield_of rfl (congrArg Value.bool hc110)) rfl ?_
        refine DL_qp rfl rfl (yield_of rfl (congrArg Value.bool hc110)) rfl ?_
        refine DL_q rfl rfl (Exec.pick_t (v := Value.bool (true)) rfl (congrArg Value.bool hc110) rfl ⟨rfl, ?_⟩)
        refine DL_q rfl rfl (Exec.move (v := Value.bool (true)) rfl rfl ⟨rfl, ?_⟩)
        refine DL_qp rfl rfl (yield_of rfl rfl) rfl ?_
        refine DL_qp rfl rfl (yield_of rfl rfl) rfl ?_
        refine DL_qp rfl rfl (yield_of rfl rfl) rfl ?_
        refine DL_q rfl rfl (Exec.pick_t (v := Value.bool (true)) rfl rfl rfl ⟨rfl, ?_⟩)
        refine DL_q rfl rfl (Exec.move (v := Value.bool (true)) rfl rfl ⟨rfl, ?_⟩)
        refine DL_qp rfl rfl (yield_of rfl rfl) rfl ?_
        refine DL_qp rfl rfl (yield_of rfl rfl) rfl ?_
        refine DL_qp rfl rfl (yield_of rfl rfl) rfl ?_
        refine DL_qp rfl rfl (yield_of rfl rfl) rfl ?_
        refine DL_qp rfl rfl (yield_of rfl rfl) rfl ?_
        refine DL_q rfl rfl (Exec.pick_t (v := Value.bool (true)) rfl rfl rfl ⟨rfl, ?_⟩)
        refine DL_q rfl rfl (Exec.move (v := Value.bool (true)) rfl rfl ⟨rfl, ?_⟩)
        refine DL_qp rfl rfl (yield_of rfl rfl) rfl ?_
        refine DL_qp rfl rfl (yield_of rfl rfl) rfl ?_
        refine DL_qp rfl rfl (yield_of rfl rfl) rfl ?_
        refine DL_q rfl rfl (Exec.pick_t (v := Value.bool (true)) rfl rfl rfl ⟨rfl, ?_⟩)
        refine DL_q rfl rfl (Exec.move (v := Value.bool (true)) rfl rfl ⟨rfl, ?_⟩)
        refine DL_qp rfl rfl (yield_of rfl rfl) rfl ?_
        refine DL_qp rfl rfl (yield_of rfl rfl) rfl ?_
        refine DL_qp rfl rfl (yield_of rfl rfl) rfl ?_
        refine DL_qp rfl rfl (yield_of rfl rfl) rfl ?_
        refine DL_qp rfl rfl (yield_of rfl rfl) rfl ?_
        refine DL_qp rfl rfl (yield_of rfl rfl) rfl ?_
        refine DL_q rfl rfl (Exec.pick_t (v := Value.bool (true)) rfl rfl rfl ⟨rfl, ?_⟩)
        refine DL_q rfl rfl (Exec.move (v := Value.bool (true)) rfl rfl ⟨rfl, ?_⟩)
        refine DL_qp rfl rfl (yield_of rfl rfl) rfl ?_
        refine DL_qp rfl rfl (yield_of rfl rfl) rfl ?_
        refine DL_qp rfl rfl (yield_of rfl rfl) rfl ?_
        refine DL_qn rfl rfl (yield_undef rfl rfl) ?_
        refine DL_qn rfl rfl (yield_undef rfl rfl) ?_
        refine DL_qn rfl rfl (yield_undef rfl rfl) ?_
        refine DL_qn rfl rfl (yield_undef rfl rfl) ?_
        refine DL_qn rfl rfl (yield_undef rfl rfl) ?_
        refine DL_qn rfl rfl (yield_undef rfl rfl) ?_
        refine DL_qn rfl rfl (yield_undef rfl rfl) ?_
        refine DL_en rfl rfl (yield_undef rfl rfl) ?_
        refine DL_qn rfl rfl (yield_undef rfl rfl) ?_
        refine DL_qp rfl rfl (yield_of rfl rfl) rfl ?_
        refine DL_q rfl rfl (Exec.pick_t (v := Value.bool (true)) rfl rfl rfl ⟨rfl, ?_⟩)
        refine DL_done ?_
        refine WL_nil (at_normal ?_)
        have e104 := Option.some.inj ht100
        subst z100
        have hS112 := (hS111).drop
        exact ⟨s112, (PHeap.le_refl _), hS112, p116, p117, p118, x104, rfl⟩
       ·replace hc110 := not_true hc110
        refine DL_qg rfl rfl (yield_of rfl (congrArg Value.bool hc110)) (Exec.field F53_0 rfl rfl rfl ⟨rfl, ?_⟩)
        refine DL_qg rfl rfl (yield_of rfl (congrArg Value.bool hc110)) (Exec.load_box (hS111) A3 rfl rfl rfl ⟨rfl, ?_⟩)
        refine DL_qg rfl rfl (yield_of rfl (congrArg Value.bool hc110)) (Exec.field F26_0 rfl p116 rfl ⟨rfl, ?_⟩)
        refine DL_qg rfl rfl (yield_of rfl (congrArg Value.bool hc110)) (Exec.load_box ((hS111).f1) A3 rfl rfl rfl ⟨rfl, ?_⟩)
        refine DL_qg rfl rfl (yield_of rfl (congrArg Value.bool hc110)) (Exec.geq rfl rfl rfl ⟨rfl, ?_⟩)
        refine DL_q rfl rfl (Exec.pick_f (v := Value.bool (decide (x100.States ≤ x105.From))) rfl (congrArg Value.bool hc110) rfl ⟨rfl, ?_⟩)
        refine DL_q rfl rfl (Exec.move (v := Value.bool (decide (x100.States ≤ x105.From))) rfl rfl ⟨rfl, ?_⟩)
        rcases ite_some ht100 with ⟨hc111, ht100⟩ | ⟨hc111, ht100⟩
        ·refine DL_qp rfl rfl (yield_of rfl (congrArg Value.bool hc111)) rfl ?_
         refine DL_qp rfl rfl (yield_of rfl (congrArg Value.bool hc111)) rfl ?_
         refine DL_qp rfl rfl (yield_of rfl (congrArg Value.bool hc111)) rfl ?_
         refine DL_q rfl rfl (Exec.pick_t (v := Value.bool (true)) rfl (congrArg Value.bool hc111) rfl ⟨rfl, ?_⟩)
         refine DL_q rfl rfl (Exec.move (v := Value.bool (true)) rfl rfl ⟨rfl, ?_⟩)
         refine DL_qp rfl rfl (yield_of rfl rfl) rfl ?_
         refine DL_qp rfl rfl (yield_of rfl rfl) rfl ?_
         refine DL_qp rfl rfl (yield_of rfl rfl) rfl ?_
         refine DL_qp rfl rfl (yield_of rfl rfl) rfl ?_
         refine DL_qp rfl rfl (yield_of rfl rfl) rfl ?_
         refine DL_q rfl rfl (Exec.pick_t (v := Value.bool (true)) rfl rfl rfl ⟨rfl, ?_⟩)
         refine DL_q rfl rfl (Exec.move (v := Value.bool (true)) rfl rfl ⟨rfl, ?_⟩)
         refine DL_qp rfl rfl (yield_of rfl rfl) rfl ?_
         refine DL_qp rfl rfl (yield_of rfl rfl) rfl ?_
         refine DL_qp rfl rfl (yield_of rfl rfl) rfl ?_
         refine DL_q rfl rfl (Exec.pick_t (v := Value.bool (true)) rfl rfl rfl ⟨rfl, ?_⟩)
         refine DL_q rfl rfl (Exec.move (v := Value.bool (true)) rfl rfl ⟨rfl, ?_⟩)
         refine DL_qp rfl rfl (yield_of rfl rfl) rfl ?_
         refine DL_qp rfl rfl (yield_of rfl rfl) rfl ?_
         refine DL_qp rfl rfl (yield_of rfl rfl) rfl ?_
         refine DL_qp rfl rfl (yield_of rfl rfl) rfl ?_
         refine DL_qp rfl rfl (yield_of rfl rfl) rfl ?_
         refine DL_qp rfl rfl (yield_of rfl rfl) rfl ?_
         refine DL_q rfl rfl (Exec.pick_t (v := Value.bool (true)) rfl rfl rfl ⟨rfl, ?_⟩)
         refine DL_q rfl rfl (Exec.move (v := Value.bool (true)) rfl rfl ⟨rfl, ?_⟩)
         refine DL_qp rfl rfl (yield_of rfl rfl) rfl ?_
         refine DL_qp rfl rfl (yield_of rfl rfl) rfl ?_
         refine DL_qp rfl rfl (yield_of rfl rfl) rfl ?_
         refine DL_qn rfl rfl (yield_undef rfl rfl) ?_
         refine DL_qn rfl rfl (yield_undef rfl rfl) ?_
         refine DL_qn rfl rfl (yield_undef rfl rfl) ?_
         refine DL_qn rfl rfl (yield_undef rfl rfl) ?_
         refine DL_qn rfl rfl (yield_undef rfl rfl) ?_
         refine DL_qn rfl rfl (yield_undef rfl rfl) ?_
         refine DL_qn rfl rfl (yield_undef rfl rfl) ?_
         refine DL_en rfl rfl (yield_undef rfl rfl) ?_
         refine DL_qn rfl rfl (yield_undef rfl rfl) ?_
         refine DL_qp rfl rfl (yield_of rfl rfl) rfl ?_
         refine DL_q rfl rfl (Exec.pick_t (v := Value.bool (true)) rfl rfl rfl ⟨rfl, ?_⟩)
         refine DL_done ?_
         refine WL_nil (at_normal ?_)
         have e105 := Option.some.inj ht100
         subst z100
         have hS113 := (hS111).drop
         exact ⟨s112, (PHeap.le_refl _), hS113, p116, p117, p118, x104, rfl⟩
        ·replace hc111 := not_true hc111
         refine DL_qg rfl rfl (yield_of rfl (congrArg Value.bool hc111)) (Exec.field F53_2 rfl rfl rfl ⟨rfl, ?_⟩)
         refine DL_qg rfl rfl (yield_of rfl (congrArg Value.bool hc111)) (Exec.load_box (hS111) A3 rfl rfl rfl ⟨rfl, ?_⟩)
         refine DL_qg rfl rfl (yield_of rfl (congrArg Value.bool hc111)) (Exec.lss rfl rfl rfl ⟨rfl, ?_⟩)
         refine DL_q rfl rfl (Exec.pick_f (v := Value.bool (decide (x105.To < 0))) rfl (congrArg Value.bool hc111) rfl ⟨rfl, ?_⟩)
         refine DL_q rfl rfl (Exec.move (v := Value.bool (decide (x105.To < 0))) rfl rfl ⟨rfl, ?_⟩)
         rcases ite_some ht100 with ⟨hc112, ht100⟩ | ⟨hc112, ht100⟩
         ·refine DL_qp rfl rfl (yield_of rfl (congrArg Value.bool hc112)) rfl ?_
          refine DL_qp rfl rfl (yield_of rfl (congrArg Value.bool hc112)) rfl ?_
          refine DL_qp rfl rfl (yield_of rfl (congrArg Value.bool hc112)) rfl ?_
          refine DL_qp rfl rfl (yield_of rfl (congrArg Value.bool hc112)) rfl ?_
          refine DL_qp rfl rfl (yield_of rfl (congrArg Value.bool hc112)) rfl ?_
          refine DL_q rfl rfl (Exec.pick_t (v := Value.bool (true)) rfl (congrArg Value.bool hc112) rfl ⟨rfl, ?_⟩)
          refine DL_q rfl rfl (Exec.move (v := Value.bool (true)) rfl rfl ⟨rfl, ?_⟩)
          refine DL_qp rfl rfl (yield_of rfl rfl) rfl ?_
          refine DL_qp rfl rfl (yield_of rfl rfl) rfl ?_
          refine DL_qp rfl rfl (yield_of rfl rfl) rfl ?_
          refine DL_q rfl rfl (Exec.pick_t (v := Value.bool (true)) rfl rfl rfl ⟨rfl, ?_⟩)
          refine DL_q rfl rfl (Exec.move (v := Value.bool (true)) rfl rfl ⟨rfl, ?_⟩)
          refine DL_qp rfl rfl (yield_of rfl rfl) rfl ?_
          refine DL_qp rfl rfl (yield_of rfl rfl) rfl ?_
          refine DL_qp rfl rfl (yield_of rfl rfl) rfl ?_
          refine DL_qp rfl rfl (yield_of rfl rfl) rfl ?_
          refine DL_qp rfl rfl (yield_of rfl rfl) rfl ?_
          refine DL_qp rfl rfl (yield_of rfl rfl) rfl ?_
          refine DL_q rfl rfl (Exec.pick_t (v := Value.bool (true)) rfl rfl rfl ⟨rfl, ?_⟩)
          refine DL_q rfl rfl (Exec.move (v := Value.bool (true)) rfl rfl ⟨rfl, ?_⟩)
          refine DL_qp rfl rfl (yield_of rfl rfl) rfl ?_
          refine DL_qp rfl rfl (yield_of rfl rfl) rfl ?_
          refine DL_qp rfl rfl (yield_of rfl rfl) rfl ?_
          refine DL_qn rfl rfl (yield_undef rfl rfl) ?_
          refine DL_qn rfl rfl (yield_undef rfl rfl) ?_
          refine DL_qn rfl rfl (yield_undef rfl rfl) ?_
          refine DL_qn rfl rfl (yield_undef rfl rfl) ?_
          refine DL_qn rfl rfl (yield_undef rfl rfl) ?_
          refine DL_qn rfl rfl (yield_undef rfl rfl) ?_
          refine DL_qn rfl rfl (yield_undef rfl rfl) ?_
          refine DL_en rfl rfl (yield_undef rfl rfl) ?_
          refine DL_qn rfl rfl (yield_undef rfl rfl) ?_
          refine DL_qp rfl rfl (yield_of rfl rfl) rfl ?_
          refine DL_q rfl rfl (Exec.pick_t (v := Value.bool (true)) rfl rfl rfl ⟨rfl, ?_⟩)
          refine DL_done ?_
          refine WL_nil (at_normal ?_)
          have e106 := Option.some.inj ht100
          subst z100
          have hS114 := (hS111).drop
          exact ⟨s112, (PHeap.le_refl _), hS114, p116, p117, p118, x104, rfl⟩
         ·replace hc112 := not_true hc112
          refine DL_qg rfl rfl (yield_of rfl (congrArg Value.bool hc112)) (Exec.field F53_2 rfl rfl rfl ⟨rfl, ?_⟩)
          refine DL_qg rfl rfl (yield_of rfl (congrArg Value.bool hc112)) (Exec.load_box (hS111) A3 rfl rfl rfl ⟨rfl, ?_⟩)
          refine DL_qg rfl rfl (yield_of rfl (congrArg Value.bool hc112)) (Exec.field F26_0 rfl p116 rfl ⟨rfl, ?_⟩)
          refine DL_qg rfl rfl (yield_of rfl (congrArg Value.bool hc112)) (Exec.load_box ((hS111).f1) A3 rfl rfl rfl ⟨rfl, ?_⟩)
          refine DL_qg rfl rfl (yield_of rfl (congrArg Value.bool hc112)) (Exec.geq rfl rfl rfl ⟨rfl, ?_⟩)
          refine DL_q rfl rfl (Exec.pick_f (v := Value.bool (decide (x100.States ≤ x105.To))) rfl (congrArg Value.bool hc112) rfl ⟨rfl, ?_⟩)
          refine DL_q rfl rfl (Exec.move (v := Value.bool (decide (x100.States ≤ x105.To))) rfl rfl ⟨rfl, ?_⟩)
          rcases ite_some ht100 with ⟨hc113, ht100⟩ | ⟨hc113, ht100⟩
          ·refine DL_qp rfl rfl (yield_of rfl (congrArg Value.bool hc113)) rfl ?_
           refine DL_qp rfl rfl (yield_of rfl (congrArg Value.bool hc113)) rfl ?_
           refine DL_qp rfl rfl (yield_of rfl (congrArg Value.bool hc113)) rfl ?_
           refine DL_q rfl rfl (Exec.pick_t (v := Value.bool (true)) rfl (congrArg Value.bool hc113) rfl ⟨rfl, ?_⟩)
           refine DL_q rfl rfl (Exec.move (v := Value.bool (true)) rfl rfl ⟨rfl, ?_⟩)
           refine DL_qp rfl rfl (yield_of rfl rfl) rfl ?_
           refine DL_qp rfl rfl (yield_of rfl rfl) rfl ?_
           refine DL_qp rfl rfl (yield_of rfl rfl) rfl ?_
           refine DL_qp rfl rfl (yield_of rfl rfl) rfl ?_
           refine DL_qp rfl rfl (yield_of rfl rfl) rfl ?_
           refine DL_qp rfl rfl (yield_of rfl rfl) rfl ?_
           refine DL_q rfl rfl (Exec.pick_t (v := Value.bool (true)) rfl rfl rfl ⟨rfl, ?_⟩)
           refine DL_q rfl rfl (Exec.move (v := Value.bool (true)) rfl rfl ⟨rfl, ?_⟩)
           refine DL_qp rfl rfl (yield_of rfl rfl) rfl ?_
           refine DL_qp rfl rfl (yield_of rfl rfl) rfl ?_
           refine DL_qp rfl rfl (yield_of rfl rfl) rfl ?_
           refine DL_qn rfl rfl (yield_undef rfl rfl) ?_
           refine DL_qn rfl rfl (yield_undef rfl rfl) ?_
           refine DL_qn rfl rfl (yield_undef rfl rfl) ?_
           refine DL_qn rfl rfl (yield_undef rfl rfl) ?_
           refine DL_qn rfl rfl (yield_undef rfl rfl) ?_
           refine DL_qn rfl rfl (yield_undef rfl rfl) ?_
           refine DL_qn rfl rfl (yield_undef rfl rfl) ?_
           refine DL_en rfl rfl (yield_undef rfl rfl) ?_
           refine DL_qn rfl rfl (yield_undef rfl rfl) ?_
           refine DL_qp rfl rfl (yield_of rfl rfl) rfl ?_
           refine DL_q rfl rfl (Exec.pick_t (v := Value.bool (true)) rfl rfl rfl ⟨rfl, ?_⟩)
           refine DL_done ?_
           refine WL_nil (at_normal ?_)
           have e107 := Option.some.inj ht100
           subst z100
           have hS115 := (hS111).drop
           exact ⟨s112, (PHeap.le_refl _), hS115, p116, p117, p118, x104, rfl⟩
          ·replace hc113 := not_true hc113
           refine DL_qg rfl rfl (yield_of rfl (congrArg Value.bool hc113)) (Exec.field F53_1 rfl rfl rfl ⟨rfl, ?_⟩)
           refine DL_qg rfl rfl (yield_of rfl (congrArg Value.bool hc113)) (Exec.load_box (hS111) A3 rfl rfl rfl ⟨rfl, ?_⟩)
           refine DL_qg rfl rfl (yield_of rfl (congrArg Value.bool hc113)) (Exec.lss rfl rfl rfl ⟨rfl, ?_⟩)
           refine DL_q rfl rfl (Exec.pick_f (v := Value.bool (decide (x105.Label < 0))) rfl (congrArg Value.bool hc113) rfl ⟨rfl, ?_⟩)
           refine DL_q rfl rfl (Exec.move (v := Value.bool (decide (x105.Label < 0))) rfl rfl ⟨rfl, ?_⟩)
           rcases ite_some ht100 with ⟨hc114, ht100⟩ | ⟨hc114, ht100⟩
           ·refine DL_qp rfl rfl (yield_of rfl (congrArg Value.bool hc114)) rfl ?_
            refine DL_qp rfl rfl (yield_of rfl (congrArg Value.bool hc114)) rfl ?_
            refine DL_qp rfl rfl (yield_of rfl (congrArg Value.bool hc114)) rfl ?_
            refine DL_qp rfl rfl (yield_of rfl (congrArg Value.bool hc114)) rfl ?_
            refine DL_qp rfl rfl (yield_of rfl (congrArg Value.bool hc114)) rfl ?_
            refine DL_qp rfl rfl (yield_of rfl (congrArg Value.bool hc114)) rfl ?_
            refine DL_q rfl rfl (Exec.pick_t (v := Value.bool (true)) rfl (congrArg Value.bool hc114) rfl ⟨rfl, ?_⟩)
            refine DL_q rfl rfl (Exec.move (v := Value.bool (true)) rfl rfl ⟨rfl, ?_⟩)
            refine DL_qp rfl rfl (yield_of rfl rfl) rfl ?_
            refine DL_qp rfl rfl (yield_of rfl rfl) rfl ?_
            refine DL_qp rfl rfl (yield_of rfl rfl) rfl ?_
            refine DL_qn rfl rfl (yield_undef rfl rfl) ?_
            refine DL_qn rfl rfl (yield_undef rfl rfl) ?_
            refine DL_qn rfl rfl (yield_undef rfl rfl) ?_
            refine DL_qn rfl rfl (yield_undef rfl rfl) ?_
            refine DL_qn rfl rfl (yield_undef rfl rfl) ?_
            refine DL_qn rfl rfl (yield_undef rfl rfl) ?_
            refine DL_qn rfl rfl (yield_undef rfl rfl) ?_
            refine DL_en rfl rfl (yield_undef rfl rfl) ?_
            refine DL_qn rfl rfl (yield_undef rfl rfl) ?_
            refine DL_qp rfl rfl (yield_of rfl rfl) rfl ?_
            refine DL_q rfl rfl (Exec.pick_t (v := Value.bool (true)) rfl rfl rfl ⟨rfl, ?_⟩)
            refine DL_done ?_
            refine WL_nil (at_normal ?_)
            have e108 := Option.some.inj ht100
            subst z100
            have hS116 := (hS111).drop
            exact ⟨s112, (PHeap.le_refl _), hS116, p116, p117, p118, x104, rfl⟩
           ·replace hc114 := not_true hc114
            refine DL_qg rfl rfl (yield_of rfl (congrArg Value.bool hc114)) (Exec.field F53_1 rfl rfl rfl ⟨rfl, ?_⟩)
            refine DL_qg rfl rfl (yield_of rfl (congrArg Value.bool hc114)) (Exec.load_box (hS111) A3 rfl rfl rfl ⟨rfl, ?_⟩)
            refine DL_qg rfl rfl (yield_of rfl (congrArg Value.bool hc114)) (Exec.field F26_2 rfl p116 rfl ⟨rfl, ?_⟩)
            refine DL_qg rfl rfl (yield_of rfl (congrArg Value.bool hc114)) (Exec.load_box ((hS111).f1) A22 rfl rfl rfl ⟨rfl, ?_⟩)
            refine DL_qg rfl rfl (yield_of rfl (congrArg Value.bool hc114)) (Exec.len_rep S22 rfl rfl (a100.mono (PHeap.le.trans (PHeap.le.trans l100 l104) l105)) ⟨rfl, ?_⟩)
            refine DL_qg rfl rfl (yield_of rfl (congrArg Value.bool hc114)) (Exec.geq rfl rfl rfl ⟨rfl, ?_⟩)
            refine DL_q rfl rfl (Exec.pick_f (v := Value.bool (decide ((x100.Costs.length : Int) ≤ x105.Label))) rfl (congrArg Value.bool hc114) rfl ⟨rfl, ?_⟩)
            refine DL_q rfl rfl (Exec.move (v := Value.bool (decide ((x100.Costs.length : Int) ≤ x105.Label))) rfl rfl ⟨rfl, ?_⟩)
            rcases ite_some ht100 with ⟨hc115, ht100⟩ | ⟨hc115, ht100⟩
            ·refine DL_qp rfl rfl (yield_of rfl (congrArg Value.bool hc115)) rfl ?_
             refine DL_qp rfl rfl (yield_of rfl (congrArg Value.bool hc115)) rfl ?_
             refine DL_qp rfl rfl (yield_of rfl (congrArg Value.bool hc115)) rfl ?_
             refine DL_qn rfl rfl (yield_undef rfl rfl) ?_
             refine DL_qn rfl rfl (yield_undef rfl rfl) ?_
             refine DL_qn rfl rfl (yield_undef rfl rfl) ?_
             refine DL_qn rfl rfl (yield_undef rfl rfl) ?_
             refine DL_qn rfl rfl (yield_undef rfl rfl) ?_
             refine DL_qn rfl rfl (yield_undef rfl rfl) ?_
             refine DL_qn rfl rfl (yield_undef rfl rfl) ?_
             refine DL_en rfl rfl (yield_undef rfl rfl) ?_
             refine DL_qn rfl rfl (yield_undef rfl rfl) ?_
             refine DL_qp rfl rfl (yield_of rfl (congrArg Value.bool hc115)) rfl ?_
             refine DL_q rfl rfl (Exec.pick_t (v := Value.bool (true)) rfl (congrArg Value.bool hc115) rfl ⟨rfl, ?_⟩)
             refine DL_done ?_
             refine WL_nil (at_normal ?_)
             have e109 := Option.some.inj ht100
             subst z100
             have hS117 := (hS111).drop
             exact ⟨s112, (PHeap.le_refl _), hS117, p116, p117, p118, x104, rfl⟩
            ·replace hc115 := not_true hc115
             refine DL_qg rfl rfl (yield_of rfl (congrArg Value.bool hc115)) (Exec.move (v := Value.int .i64 ((i101 : Int))) rfl rfl ⟨rfl, ?_⟩)
             refine DL_qg rfl rfl (yield_of rfl (congrArg Value.bool hc115)) (Exec.gtr rfl rfl rfl ⟨rfl, ?_⟩)
             refine DL_qg rfl rfl (yield_of rfl (congrArg Value.bool hc115)) (Exec.move (v := Value.bool (decide (0 < (i101 : Int)))) rfl rfl ⟨rfl, ?_⟩)
             rcases ite_some ht100 with ⟨hc116, ht100⟩ | ⟨hc116, ht100⟩
             ·refine DL_qg rfl rfl (yield_of rfl (congrArg Value.bool hc116)) (Exec.field F26_3 rfl p116 rfl ⟨rfl, ?_⟩)
              refine DL_qg rfl rfl (yield_of rfl (congrArg Value.bool hc116)) (Exec.load_box ((hS111).f1) A23 rfl rfl rfl ⟨rfl, ?_⟩)
              refine DL_qg rfl rfl (yield_of rfl (congrArg Value.bool hc116)) (Exec.move (v := Value.int .i64 ((i101 : Int))) rfl rfl ⟨rfl, ?_⟩)
              refine DL_qg rfl rfl (yield_of rfl (congrArg Value.bool hc116)) (Exec.sub rfl rfl rfl ⟨rfl, ?_⟩)
              obtain ⟨x106, q104, ht100⟩ := bind_some ht100
              refine DL_qg rfl rfl (yield_of rfl (congrArg Value.bool hc116)) (Exec.index_repE S23 rfl rfl rfl (a101.mono (PHeap.le.trans (PHeap.le.trans l100 l104) l105)) q104 ?_)
              intro b104 o102 a105 e110
              refine ⟨rfl, ?_⟩
              refine DL_qg rfl rfl (yield_of rfl (congrArg Value.bool hc116)) (Exec.load_at (E := encEdge) hS111 A53 rfl rfl rfl a105 ?_)
              intro v105 q105
              obtain rfl := encEdge_val.1 q105
              refine ⟨rfl, ?_⟩
              refine DL_qg rfl rfl (yield_of rfl (congrArg Value.bool hc116)) (Exec.load_box_agg (ds := [Value.int .i64 (x105.From), Value.int .i64 (x105.Label), Value.int .i64 (x105.To)]) (hS111) A53 rfl rfl rfl ⟨rfl, ?_⟩)
              refine DL_eg rfl rfl (yield_of rfl (congrArg Value.bool hc116)) (Exec.call rfl rfl Tryd.func32 rfl N32 (args_cons rfl (args_cons rfl args_nil)) ((ref44_Before_sim (ref44_Before_tot x106 x105) hS111 ).mono ?_))
              rintro _ w109 ⟨_, rfl, ⟨s114, l106, hS118, rfl⟩⟩
              refine ⟨_, rfl, ?_⟩
              refine ⟨ag_nil, ?_⟩
              refine DL_qg rfl rfl (yield_of rfl (congrArg Value.bool hc116)) (Exec.not rfl rfl ⟨rfl, ?_⟩)
              refine DL_qg rfl rfl (yield_of rfl (congrArg Value.bool hc115)) (Exec.pick_t (v := Value.bool (!(ref44_Before_t x106 x105))) rfl (congrArg Value.bool hc116) rfl ⟨rfl, ?_⟩)
              refine DL_q rfl rfl (Exec.pick_f (v := Value.bool (!(ref44_Before_t x106 x105))) rfl (congrArg Value.bool hc115) rfl ⟨rfl, ?_⟩)
              refine DL_done ?_
              refine WL_nil (at_normal ?_)
              have e111 := Option.some.inj ht100
              subst z100
              have hS119 := (hS118).drop
              exact ⟨s114, l106, hS119, p116, p117, p118, x104, rfl⟩
             ·replace hc116 := not_true hc116
              refine DL_qp rfl rfl (yield_of rfl (congrArg Value.bool hc116)) rfl ?_
              refine DL_qp rfl rfl (yield_of rfl (congrArg Value.bool hc116)) rfl ?_
              refine DL_qp rfl rfl (yield_of rfl (congrArg Value.bool hc116)) rfl ?_
              refine DL_qp rfl rfl (yield_of rfl (congrArg Value.bool hc116)) rfl ?_
              refine DL_qp rfl rfl (yield_of rfl (congrArg Value.bool hc116)) rfl ?_
              refine DL_qp rfl rfl (yield_of rfl (congrArg Value.bool hc116)) rfl ?_
              refine DL_qp rfl rfl (yield_of rfl (congrArg Value.bool hc116)) rfl ?_
              refine DL_ep rfl rfl (yield_of rfl (congrArg Value.bool hc116)) rfl ?_
              refine DL_qp rfl rfl (yield_of rfl (congrArg Value.bool hc116)) rfl ?_
              refine DL_qg rfl rfl (yield_of rfl (congrArg Value.bool hc115)) (Exec.pick_f (v := Value.bool (false)) rfl (congrArg Value.bool hc116) rfl ⟨rfl, ?_⟩)
              refine DL_q rfl rfl (Exec.pick_f (v := Value.bool (false)) rfl (congrArg Value.bool hc115) rfl ⟨rfl, ?_⟩)
              refine DL_done ?_
              refine WL_nil (at_normal ?_)
              have e112 := Option.some.inj ht100
              subst z100
              have hS120 := (hS111).drop
              exact ⟨s112, (PHeap.le_refl _), hS120, p116, p117, p118, x104, rfl⟩
      ·intro f106 w110 hM103
       obtain ⟨s115, l107, hS121, p119, p120, p121, p122, p123⟩ := hM103
       refine (at_normal ?_)
       rcases ite_some hm101 with ⟨hc117, hm101⟩ | ⟨hc117, hm101⟩
       ·refine W_cond_t p123 hc117 ?_
        refine W_seq ?_
        refine W_region ?_
        refine WL_step rfl rfl (Exec.assign (v := Value.bool (false)) rfl rfl ?_)
        refine WL_nil (at_normal ?_)
        refine W_ret (ib_ret (at_ret (at_ret (ib_ret (at_ret (at_ret ?_))))))
        have e113 := Option.some.inj hm101
        subst c103
        have hq101 := hr101 _ (hres102 (by intro _ h; cases h))
        have e114 := Option.some.inj hq101
        subst r
        refine ⟨_, ret1 rfl, ?_⟩
        have hS122 := (hS121).drop
        exact ⟨s115, (PHeap.le.trans (PHeap.le.trans (PHeap.le.trans l100 l104) l105) l107), hS122, rfl⟩
       ·refine W_cond_f p123 hc117 ?_
        replace hc117 := not_true hc117
        refine W_skip (ib_normal (at_normal ?_))
        refine W_region ?_
        refine WL_step rfl rfl (Exec.add rfl p122 rfl ?_)
        refine WL_step rfl rfl (Exec.move (v := Value.int .i64 (IntKind.i64.wrap ((i101 : Int) + 1))) rfl rfl ?_)
        refine WL_nil (at_normal ?_)
        have e115 := Option.some.inj hm101
        subst c103
        refine ⟨_, rfl, ?_⟩; exact ⟨s115, (PHeap.le.trans l105 l107), hS121, p119, p120, p121, (Eq.trans rfl (wrap_up hi101 (SliceRep.le (a101.mono (PHeap.le.trans l100 l104)))))⟩
     ·intro t104 f107 w111 hI103 hres103
      obtain ⟨s116, l108, hS123, p124, p125, p126, x107⟩ := hI103
      refine W_seq ?_
      refine W_region ?_
      refine WL_step rfl rfl (Exec.lss rfl x107 p126 ?_)
      refine WL_nil (at_normal ?_)
      refine W_seq ?_
      refine W_false (congrArg Value.bool (decide_eq_false (by omega))) ?_
      refine W_exit (at_exit (at_exit (ib_here (at_normal ?_))))
      refine ⟨_, .inl hres103, ?_⟩; exact ⟨s116, l108, hS123, p124, p125, p126⟩
    ·rintro f108 w112 ⟨t105, hc118, hM104⟩
     have hm := hc118.elim (hn101 _) (hb101 _)
     clear hc118
     obtain ⟨s117, l109, hS124, p127, p128, p129⟩ := hM104
     refine (at_normal ?_)
     refine W_seq ?_
     refine W_region ?_
     refine WL_step rfl rfl (Exec.assign (v := Value.bool (true)) rfl rfl ?_)
     refine WL_nil (at_normal ?_)
     refine W_ret ?_
     have e116 := Option.some.inj hm
     subst r
     refine ⟨_, ret1 rfl, ?_⟩
     have hS125 := (hS124).drop
     exact ⟨s117, (PHeap.le.trans (PHeap.le.trans l100 l104) l109), hS125, rfl⟩

theorem N11 : (Tryd.f11.name == "runtime.NumGoroutine") = false := by kernel_rfl

theorem law45_large_sim {w0 w : World} {s : PHeap} {H : List Res} {x100 : System} {v100 : Value} {v101 : Value} {v102 : Value} {r : Bool} (hm : law45_large_p x100 = some r) (hS : St w0 s (H) w) (a100 : SliceRep (encInt .i64) s v100 x100.Costs) (a101 : SliceRep encEdge s v101 x100.Edges) (a102 : SliceRep encBool s v102 x100.Goals) :
  Calls Tryd.prog 11 #[Value.agg #[Value.int .i64 (x100.States), Value.int .i64 (x100.Init), v100, v101, v102]] w fun e w' => ∃ v, e = .returned v ∧ ((fun (y100 : Bool) => ∃ (s100 : PHeap) , PHeap.le s s100 ∧ St w0 s100 (H) w' ∧ v = Value.bool (y100)) r) := by
 unfold law45_large_p at hm
 refine calls_of_W Tryd.func11 rfl rfl ?_
 refine W_seq ?_
 refine W_region ?_
 refine WL_step rfl rfl (Exec.box (cs := [Value.int .i64 (x100.States), Value.int .i64 (x100.Init), v100, v101, v102]) hS rfl rfl rfl ?_)
 intro b100 w100 hS100
 refine WL_step rfl rfl (Exec.assign (v := Value.bool (false)) rfl rfl ?_)
 refine WL_nil (at_normal ?_)
 refine W_seq ?_
 obtain ⟨z100, ht100, hm⟩ := bind_some hm
 refine W_mid (M := fun f' w' => (fun (z100 : Bool) => ∃ (s101 : PHeap) , PHeap.le s s101 ∧ St w0 s101 (H) w' ∧ f' 2 = Value.bool (z100)) z100) ?_ ?_
 ·refine W_region ?_
  refine WL_step rfl rfl (Exec.field F26_0 rfl rfl rfl ?_)
  refine WL_step rfl rfl (Exec.load_box (hS100) A3 rfl rfl rfl ?_)
  refine WL_step rfl rfl (Exec.gtr rfl rfl rfl ?_)
  refine WL_step rfl rfl (Exec.move (v := Value.bool (decide (20 < x100.States))) rfl rfl ?_)
  rcases ite_some ht100 with ⟨hc100, ht100⟩ | ⟨hc100, ht100⟩
  ·refine WL_run rfl (yield_of rfl (congrArg Value.bool hc100)) rfl (Exec.load_box_agg (ds := [Value.int .i64 (x100.States), Value.int .i64 (x100.Init), v100, v101, v102]) (hS100) A26 rfl rfl rfl ?_)
   obtain ⟨y101, q100, ht100⟩ := bind_some ht100
   refine WL_run rfl (yield_of rfl (congrArg Value.bool hc100)) rfl (Exec.call rfl rfl Tryd.func13 rfl N13 (args_cons rfl args_nil) ((ref44_Valid_sim q100 hS100 a100 a101 a102).mono ?_))
   rintro _ w101 ⟨_, rfl, ⟨s102, l100, hS101, rfl⟩⟩
   refine ⟨_, rfl, ?_⟩
   refine WL_step rfl rfl (Exec.pick_t (v := Value.bool (y101)) rfl (congrArg Value.bool hc100) rfl ?_)
   refine WL_step rfl rfl (Exec.move (v := Value.bool (y101)) rfl rfl ?_)
   rcases ite_some ht100 with ⟨hc101, ht100⟩ | ⟨hc101, ht100⟩
   ·refine WL_pass rfl (yield_of rfl (congrArg Value.bool hc101)) rfl rfl ?_
    refine WL_pass rfl (yield_of rfl (congrArg Value.bool hc101)) rfl rfl ?_
    refine WL_pass rfl (yield_of rfl (congrArg Value.bool hc101)) rfl rfl ?_
    refine WL_pass rfl (yield_of rfl (congrArg Value.bool hc101)) rfl rfl ?_
    refine WL_step rfl rfl (Exec.pick_t (v := Value.bool (true)) rfl (congrArg Value.bool hc101) rfl ?_)
    refine WL_step rfl rfl (Exec.move (v := Value.bool (true)) rfl rfl ?_)
    refine WL_pass rfl (yield_of rfl rfl) rfl rfl ?_
    refine WL_pass rfl (yield_of rfl rfl) rfl rfl ?_
    refine WL_pass rfl (yield_of rfl rfl) rfl rfl ?_
    refine WL_pass rfl (yield_of rfl rfl) rfl rfl ?_
    refine WL_step rfl rfl (Exec.pick_t (v := Value.bool (true)) rfl rfl rfl ?_)
    refine WL_step rfl rfl (Exec.move (v := Value.bool (true)) rfl rfl ?_)
    refine WL_pass rfl (yield_of rfl rfl) rfl rfl ?_
    refine WL_pass rfl (yield_of rfl rfl) rfl rfl ?_
    refine WL_pass rfl (yield_of rfl rfl) rfl rfl ?_
    refine WL_pass rfl (yield_of rfl rfl) rfl rfl ?_
    refine WL_step rfl rfl (Exec.pick_t (v := Value.bool (true)) rfl rfl rfl ?_)
    refine WL_step rfl rfl (Exec.assign (v := Value.bool (true)) rfl rfl ?_)
    refine WL_nil (at_normal ?_)
    have e100 := Option.some.inj ht100
    subst z100
    have hS102 := (hS101).drop
    exact ⟨s102, l100, hS102, rfl⟩
   ·replace hc101 := not_true hc101
    refine WL_run rfl (yield_of rfl (congrArg Value.bool hc101)) rfl (Exec.field F26_4 rfl rfl rfl ?_)
    refine WL_run rfl (yield_of rfl (congrArg Value.bool hc101)) rfl (Exec.load_box (hS101) A24 rfl rfl rfl ?_)
    refine WL_run rfl (yield_of rfl (congrArg Value.bool hc101)) rfl (Exec.len_rep S24 rfl rfl (a102.mono l100) ?_)
    refine WL_run rfl (yield_of rfl (congrArg Value.bool hc101)) rfl (Exec.gtr rfl rfl rfl ?_)
    refine WL_step rfl rfl (Exec.pick_f (v := Value.bool (decide (5000 < (x100.Goals.length : Int)))) rfl (congrArg Value.bool hc101) rfl ?_)
    refine WL_step rfl rfl (Exec.move (v := Value.bool (decide (5000 < (x100.Goals.length : Int)))) rfl rfl ?_)
    rcases ite_some ht100 with ⟨hc102, ht100⟩ | ⟨hc102, ht100⟩
    ·refine WL_pass rfl (yield_of rfl (congrArg Value.bool hc102)) rfl rfl ?_
     refine WL_pass rfl (yield_of rfl (congrArg Value.bool hc102)) rfl rfl ?_
     refine WL_pass rfl (yield_of rfl (congrArg Value.bool hc102)) rfl rfl ?_
     refine WL_pass rfl (yield_of rfl (congrArg Value.bool hc102)) rfl rfl ?_
     refine WL_step rfl rfl (Exec.pick_t (v := Value.bool (true)) rfl (congrArg Value.bool hc102) rfl ?_)
     refine WL_step rfl rfl (Exec.move (v := Value.bool (true)) rfl rfl ?_)
     refine WL_pass rfl (yield_of rfl rfl) rfl rfl ?_
     refine WL_pass rfl (yield_of rfl rfl) rfl rfl ?_
     refine WL_pass rfl (yield_of rfl rfl) rfl rfl ?_
     refine WL_pass rfl (yield_of rfl rfl) rfl rfl ?_
     refine WL_step rfl rfl (Exec.pick_t (v := Value.bool (true)) rfl rfl rfl ?_)
     refine WL_step rfl rfl (Exec.assign (v := Value.bool (true)) rfl rfl ?_)
     refine WL_nil (at_normal ?_)
     have e101 := Option.some.inj ht100
     subst z100
     have hS103 := (hS101).drop
     exact ⟨s102, l100, hS103, rfl⟩
    ·replace hc102 := not_true hc102
     refine WL_run rfl (yield_of rfl (congrArg Value.bool hc102)) rfl (Exec.field F26_3 rfl rfl rfl ?_)
     refine WL_run rfl (yield_of rfl (congrArg Value.bool hc102)) rfl (Exec.load_box (hS101) A23 rfl rfl rfl ?_)
     refine WL_run rfl (yield_of rfl (congrArg Value.bool hc102)) rfl (Exec.len_rep S23 rfl rfl (a101.mono l100) ?_)
     refine WL_run rfl (yield_of rfl (congrArg Value.bool hc102)) rfl (Exec.gtr rfl rfl rfl ?_)
     refine WL_step rfl rfl (Exec.pick_f (v := Value.bool (decide (80 < (x100.Edges.length : Int)))) rfl (congrArg Value.bool hc102) rfl ?_)
     refine WL_step rfl rfl (Exec.move (v := Value.bool (decide (80 < (x100.Edges.length : Int)))) rfl rfl ?_)
     rcases ite_some ht100 with ⟨hc103, ht100⟩ | ⟨hc103, ht100⟩
     ·refine WL_pass rfl (yield_of rfl (congrArg Value.bool hc103)) rfl rfl ?_
      refine WL_pass rfl (yield_of rfl (congrArg Value.bool hc103)) rfl rfl ?_
      refine WL_pass rfl (yield_of rfl (congrArg Value.bool hc103)) rfl rfl ?_
      refine WL_pass rfl (yield_of rfl (congrArg Value.bool hc103)) rfl rfl ?_
      refine WL_step rfl rfl (Exec.pick_t (v := Value.bool (true)) rfl (congrArg Value.bool hc103) rfl ?_)
      refine WL_step rfl rfl (Exec.assign (v := Value.bool (true)) rfl rfl ?_)
      refine WL_nil (at_normal ?_)
      have e102 := Option.some.inj ht100
      subst z100
      have hS104 := (hS101).drop
      exact ⟨s102, l100, hS104, rfl⟩
     ·replace hc103 := not_true hc103
      refine WL_run rfl (yield_of rfl (congrArg Value.bool hc103)) rfl (Exec.field F26_2 rfl rfl rfl ?_)
      refine WL_run rfl (yield_of rfl (congrArg Value.bool hc103)) rfl (Exec.load_box (hS101) A22 rfl rfl rfl ?_)
      refine WL_run rfl (yield_of rfl (congrArg Value.bool hc103)) rfl (Exec.len_rep S22 rfl rfl (a100.mono l100) ?_)
      refine WL_run rfl (yield_of rfl (congrArg Value.bool hc103)) rfl (Exec.gtr rfl rfl rfl ?_)
      refine WL_step rfl rfl (Exec.pick_f (v := Value.bool (decide (20 < (x100.Costs.length : Int)))) rfl (congrArg Value.bool hc103) rfl ?_)
      refine WL_step rfl rfl (Exec.assign (v := Value.bool (decide (20 < (x100.Costs.length : Int)))) rfl rfl ?_)
      refine WL_nil (at_normal ?_)
      have e103 := Option.some.inj ht100
      subst z100
      have hS105 := (hS101).drop
      exact ⟨s102, l100, hS105, rfl⟩
  ·replace hc100 := not_true hc100
   refine WL_pass rfl (yield_of rfl (congrArg Value.bool hc100)) rfl rfl ?_
   refine WL_pass rfl (yield_of rfl (congrArg Value.bool hc100)) rfl rfl ?_
   refine WL_step rfl rfl (Exec.pick_f (v := Value.bool (false)) rfl (congrArg Value.bool hc100) rfl ?_)
   refine WL_step rfl rfl (Exec.move (v := Value.bool (false)) rfl rfl ?_)
   refine WL_run rfl (yield_of rfl rfl) rfl (Exec.field F26_4 rfl rfl rfl ?_)
   refine WL_run rfl (yield_of rfl rfl) rfl (Exec.load_box (hS100) A24 rfl rfl rfl ?_)
   refine WL_run rfl (yield_of rfl rfl) rfl (Exec.len_rep S24 rfl rfl a102 ?_)
   refine WL_run rfl (yield_of rfl rfl) rfl (Exec.gtr rfl rfl rfl ?_)
   refine WL_step rfl rfl (Exec.pick_f (v := Value.bool (decide (5000 < (x100.Goals.length : Int)))) rfl rfl rfl ?_)
   refine WL_step rfl rfl (Exec.move (v := Value.bool (decide (5000 < (x100.Goals.length : Int)))) rfl rfl ?_)
   rcases ite_some ht100 with ⟨hc104, ht100⟩ | ⟨hc104, ht100⟩
   ·refine WL_pass rfl (yield_of rfl (congrArg Value.bool hc104)) rfl rfl ?_
    refine WL_pass rfl (yield_of rfl (congrArg Value.bool hc104)) rfl rfl ?_
    refine WL_pass rfl (yield_of rfl (congrArg Value.bool hc104)) rfl rfl ?_
    refine WL_pass rfl (yield_of rfl (congrArg Value.bool hc104)) rfl rfl ?_
    refine WL_step rfl rfl (Exec.pick_t (v := Value.bool (true)) rfl (congrArg Value.bool hc104) rfl ?_)
    refine WL_step rfl rfl (Exec.move (v := Value.bool (true)) rfl rfl ?_)
    refine WL_pass rfl (yield_of rfl rfl) rfl rfl ?_
    refine WL_pass rfl (yield_of rfl rfl) rfl rfl ?_
    refine WL_pass rfl (yield_of rfl rfl) rfl rfl ?_
    refine WL_pass rfl (yield_of rfl rfl) rfl rfl ?_
    refine WL_step rfl rfl (Exec.pick_t (v := Value.bool (true)) rfl rfl rfl ?_)
    refine WL_step rfl rfl (Exec.assign (v := Value.bool (true)) rfl rfl ?_)
    refine WL_nil (at_normal ?_)
    have e104 := Option.some.inj ht100
    subst z100
    have hS106 := (hS100).drop
    exact ⟨s, (PHeap.le_refl _), hS106, rfl⟩
   ·replace hc104 := not_true hc104
    refine WL_run rfl (yield_of rfl (congrArg Value.bool hc104)) rfl (Exec.field F26_3 rfl rfl rfl ?_)
    refine WL_run rfl (yield_of rfl (congrArg Value.bool hc104)) rfl (Exec.load_box (hS100) A23 rfl rfl rfl ?_)
    refine WL_run rfl (yield_of rfl (congrArg Value.bool hc104)) rfl (Exec.len_rep S23 rfl rfl a101 ?_)
    refine WL_run rfl (yield_of rfl (congrArg Value.bool hc104)) rfl (Exec.gtr rfl rfl rfl ?_)
    refine WL_step rfl rfl (Exec.pick_f (v := Value.bool (decide (80 < (x100.Edges.length : Int)))) rfl (congrArg Value.bool hc104) rfl ?_)
    refine WL_step rfl rfl (Exec.move (v := Value.bool (decide (80 < (x100.Edges.length : Int)))) rfl rfl ?_)
    rcases ite_some ht100 with ⟨hc105, ht100⟩ | ⟨hc105, ht100⟩
    ·refine WL_pass rfl (yield_of rfl (congrArg Value.bool hc105)) rfl rfl ?_
     refine WL_pass rfl (yield_of rfl (congrArg Value.bool hc105)) rfl rfl ?_
     refine WL_pass rfl (yield_of rfl (congrArg Value.bool hc105)) rfl rfl ?_
     refine WL_pass rfl (yield_of rfl (congrArg Value.bool hc105)) rfl rfl ?_
     refine WL_step rfl rfl (Exec.pick_t (v := Value.bool (true)) rfl (congrArg Value.bool hc105) rfl ?_)
     refine WL_step rfl rfl (Exec.assign (v := Value.bool (true)) rfl rfl ?_)
     refine WL_nil (at_normal ?_)
     have e105 := Option.some.inj ht100
     subst z100
     have hS107 := (hS100).drop
     exact ⟨s, (PHeap.le_refl _), hS107, rfl⟩
    ·replace hc105 := not_true hc105
     refine WL_run rfl (yield_of rfl (congrArg Value.bool hc105)) rfl (Exec.field F26_2 rfl rfl rfl ?_)
     refine WL_run rfl (yield_of rfl (congrArg Value.bool hc105)) rfl (Exec.load_box (hS100) A22 rfl rfl rfl ?_)
     refine WL_run rfl (yield_of rfl (congrArg Value.bool hc105)) rfl (Exec.len_rep S22 rfl rfl a100 ?_)
     refine WL_run rfl (yield_of rfl (congrArg Value.bool hc105)) rfl (Exec.gtr rfl rfl rfl ?_)
     refine WL_step rfl rfl (Exec.pick_f (v := Value.bool (decide (20 < (x100.Costs.length : Int)))) rfl (congrArg Value.bool hc105) rfl ?_)
     refine WL_step rfl rfl (Exec.assign (v := Value.bool (decide (20 < (x100.Costs.length : Int)))) rfl rfl ?_)
     refine WL_nil (at_normal ?_)
     have e106 := Option.some.inj ht100
     subst z100
     have hS108 := (hS100).drop
     exact ⟨s, (PHeap.le_refl _), hS108, rfl⟩
 ·intro f100 w102 hM100
  obtain ⟨s103, l101, hS109, p100⟩ := hM100
  refine (at_normal ?_)
  refine W_ret ?_
  have e107 := Option.some.inj hm
  subst r
  refine ⟨_, ret1 rfl, ?_⟩
  exact ⟨s103, l101, hS109, p100⟩

theorem N39 : (Tryd.f39.name == "runtime.NumGoroutine") = false := by kernel_rfl

theorem slices_Equal___int_int__sim {w0 w : World} {s : PHeap} {H : List Res} {s100 : (List Int)} {s101 : (List Int)} {v100 : Value} {v101 : Value} {r : Bool} (hm : slices_Equal___int_int__p s100 s101 = some r) (hS : St w0 s (H) w) (a100 : SliceRep (encInt .i64) s v100 s100) (a101 : SliceRep (encInt .i64) s v101 s101) :
  Calls Tryd.prog 39 #[v100, v101] w fun e w' => ∃ v, e = .returned v ∧ ((fun (y100 : Bool) => ∃ (s102 : PHeap) , PHeap.le s s102 ∧ St w0 s102 (H) w' ∧ v = Value.bool (y100)) r) := by
 unfold slices_Equal___int_int__p at hm
 refine calls_of_W Tryd.func39 rfl rfl ?_
 refine W_seq ?_
 refine W_region ?_
 refine WL_step rfl rfl (Exec.assign (v := Value.bool (false)) rfl rfl ?_)
 refine WL_nil (at_normal ?_)
 refine W_seq ?_
 refine W_seq ?_
 refine W_region ?_
 refine WL_step rfl rfl (Exec.move (v := v100) rfl rfl ?_)
 refine WL_step rfl rfl (Exec.len_rep S22 rfl rfl a100 ?_)
 refine WL_step rfl rfl (Exec.move (v := v101) rfl rfl ?_)
 refine WL_step rfl rfl (Exec.len_rep S22 rfl rfl a101 ?_)
 refine WL_step rfl rfl (Exec.neq rfl rfl rfl ?_)
 refine WL_nil (at_normal ?_)
 rcases ite_some hm with ⟨hc100, hm⟩ | ⟨hc100, hm⟩
 ·refine W_cond_t rfl hc100 ?_
  refine W_seq ?_
  refine W_region ?_
  refine WL_step rfl rfl (Exec.assign (v := Value.bool (false)) rfl rfl ?_)
  refine WL_nil (at_normal ?_)
  refine W_ret (at_ret ?_)
  have e100 := Option.some.inj hm
  subst r
  refine ⟨_, ret1 rfl, ?_⟩
  exact ⟨s, (PHeap.le_refl _), hS, rfl⟩
 ·refine W_cond_f rfl hc100 ?_
  replace hc100 := not_true hc100
  refine W_skip (at_normal ?_)
  refine W_seq ?_
  refine W_seq ?_
  refine W_region ?_
  refine WL_step rfl rfl (Exec.move (v := v100) rfl rfl ?_)
  refine WL_step rfl rfl (Exec.len_rep S22 rfl rfl a100 ?_)
  refine WL_step rfl rfl (Exec.move (v := Value.int .i64 (0)) rfl rfl ?_)
  refine WL_nil (at_normal ?_)
  obtain ⟨c100, hB100, hr100, hn100, hb100⟩ := ctl_some hm
  refine W_mid (M := fun f' w' => ∃ s', (c100 = .next s' ∨ c100 = .brk s') ∧ (fun (_ : Unit) => ∃ (s103 : PHeap) , PHeap.le s s103 ∧ St w0 s103 (H) w' ∧ f' 0 = v100 ∧ f' 1 = v101 ∧ f' 12 = Value.int .i64 ((s100.length : Int))) s') ?_ ?_
  ·refine W_block (W_forC (fun k' s' f' w' => (fun (_ : Unit) => ∃ (s104 : PHeap) , PHeap.le s s104 ∧ St w0 s104 (H) w' ∧ f' 0 = v100 ∧ f' 1 = v101 ∧ f' 12 = Value.int .i64 ((s100.length : Int)) ∧ f' 13 = Value.int .i64 (k' : Int)) s') hB100 ?_ ?_ ?_)
   ·exact ⟨s, (PHeap.le_refl _), hS, rfl, rfl, rfl, rfl⟩
   ·intro i100 t100 c101 f100 w100 hi100 hI100 hm100 hres100
    obtain ⟨s105, l100, hS100, p100, p101, p102, x100⟩ := hI100
    refine W_seq ?_
    refine W_region ?_
    refine WL_step rfl rfl (Exec.lss rfl x100 p102 ?_)
    refine WL_nil (at_normal ?_)
    refine W_seq ?_
    refine W_true (congrArg Value.bool (decide_eq_true (by omega))) ?_
    refine W_skip (at_normal ?_)
    refine W_seq ?_
    refine W_block ?_
    refine W_seq ?_
    refine W_region ?_
    refine WL_step rfl rfl (Exec.move (v := Value.int .i64 ((i100 : Int))) rfl x100 ?_)
    refine WL_step rfl rfl (Exec.assign (v := Value.int .i64 ((i100 : Int))) rfl rfl ?_)
    refine WL_nil (at_normal ?_)
    refine W_seq ?_
    refine W_dl (n0 := 9) (.q 0 (.q 1 (.q 2 (.q 3 (.q 4 (.q 5 (.q 6 (.q 7 (.q 8 .done))))))))) hmix (by kernel_rfl) (by kernel_rfl) ?_
    have hS101 := hS100.drew
    refine DL_q rfl rfl (Exec.move (v := v100) rfl p100 ⟨rfl, ?_⟩)
    refine DL_q rfl rfl (Exec.move (v := Value.int .i64 ((i100 : Int))) rfl rfl ⟨rfl, ?_⟩)
    obtain ⟨x101, q100, hm100⟩ := bind_some hm100
    refine DL_q rfl rfl (Exec.index_repE S22 rfl rfl rfl (a100.mono l100) q100 ?_)
    intro b100 o100 a102 e101
    refine ⟨rfl, ?_⟩
    refine DL_q rfl rfl (Exec.load_at (E := (encInt .i64)) hS101 A3 rfl rfl rfl a102 ?_)
    intro v102 q101
    obtain rfl := encInt_val.1 q101
    refine ⟨rfl, ?_⟩
    refine DL_q rfl rfl (Exec.move (v := v101) rfl p101 ⟨rfl, ?_⟩)
    refine DL_q rfl rfl (Exec.move (v := Value.int .i64 ((i100 : Int))) rfl rfl ⟨rfl, ?_⟩)
    obtain ⟨x102, q102, hm100⟩ := bind_some hm100
    refine DL_q rfl rfl (Exec.index_repE S22 rfl rfl rfl (a101.mono l100) q102 ?_)
    intro b101 o101 a103 e102
    refine ⟨rfl, ?_⟩
    refine DL_q rfl rfl (Exec.load_at (E := (encInt .i64)) hS101 A3 rfl rfl rfl a103 ?_)
    intro v103 q103
    obtain rfl := encInt_val.1 q103
    refine ⟨rfl, ?_⟩
    refine DL_q rfl rfl (Exec.neq rfl rfl rfl ⟨rfl, ?_⟩)
    refine DL_done ?_
    refine WL_nil (at_normal ?_)
    rcases ite_some hm100 with ⟨hc101, hm100⟩ | ⟨hc101, hm100⟩
    ·refine W_cond_t rfl hc101 ?_
     refine W_seq ?_
     refine W_region ?_
     refine WL_step rfl rfl (Exec.assign (v := Value.bool (false)) rfl rfl ?_)
     refine WL_nil (at_normal ?_)
     refine W_ret (ib_ret (at_ret (at_ret (ib_ret (at_ret (at_ret ?_))))))
     have e103 := Option.some.inj hm100
     subst c101
     have hq100 := hr100 _ (hres100 (by intro _ h; cases h))
     have e104 := Option.some.inj hq100
     subst r
     refine ⟨_, ret1 rfl, ?_⟩
     exact ⟨s105, l100, hS101, rfl⟩
    ·refine W_cond_f rfl hc101 ?_
     replace hc101 := not_true hc101
     refine W_skip (ib_normal (at_normal ?_))
     refine W_region ?_
     refine WL_step rfl rfl (Exec.add rfl x100 rfl ?_)
     refine WL_step rfl rfl (Exec.move (v := Value.int .i64 (IntKind.i64.wrap ((i100 : Int) + 1))) rfl rfl ?_)
     refine WL_nil (at_normal ?_)
     have e105 := Option.some.inj hm100
     subst c101
     refine ⟨_, rfl, ?_⟩; exact ⟨s105, l100, hS101, p100, p101, p102, (Eq.trans rfl (wrap_up hi100 (SliceRep.le a100)))⟩
   ·intro t101 f101 w101 hI101 hres101
    obtain ⟨s106, l101, hS102, p103, p104, p105, x103⟩ := hI101
    refine W_seq ?_
    refine W_region ?_
    refine WL_step rfl rfl (Exec.lss rfl x103 p105 ?_)
    refine WL_nil (at_normal ?_)
    refine W_seq ?_
    refine W_false (congrArg Value.bool (decide_eq_false (by omega))) ?_
    refine W_exit (at_exit (at_exit (ib_here (at_normal ?_))))
    refine ⟨_, .inl hres101, ?_⟩; exact ⟨s106, l101, hS102, p103, p104, p105⟩
  ·rintro f102 w102 ⟨t102, hc102, hM100⟩
   have hm := hc102.elim (hn100 _) (hb100 _)
   clear hc102
   obtain ⟨s107, l102, hS103, p106, p107, p108⟩ := hM100
   refine (at_normal ?_)
   refine W_seq ?_
   refine W_region ?_
   refine WL_step rfl rfl (Exec.assign (v := Value.bool (true)) rfl rfl ?_)
   refine WL_nil (at_normal ?_)
   refine W_ret ?_
   have e106 := Option.some.inj hm
   subst r
   refine ⟨_, ret1 rfl, ?_⟩
   exact ⟨s107, l102, hS103, rfl⟩

end Go.Pw
