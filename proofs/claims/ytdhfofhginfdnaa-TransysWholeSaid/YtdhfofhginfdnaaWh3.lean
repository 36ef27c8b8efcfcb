/-
  The walks (printed by my generator).
-/
import Derived.Test.YtdhfofhginfdnaaWh2
import Derived.Test.YtdhfofhginfdnaaWhSo
set_option maxRecDepth 100000
set_option maxHeartbeats 4000000
set_option linter.unusedVariables false
namespace Go.Pw
open Go.Proofs
theorem N60 : (Try.f60.name == "runtime.NumGoroutine") = false := by kernel_rfl
theorem project_outside_sim {w0 w : World} {s : PHeap} {H : List Res} {o100 : Op} {pattern100 : (List Int)} {v100 : Value} {v101 : Value} {v102 : Value} {r : (List Int)} (hm : project_outside_p o100 pattern100 = some r) (hS : St w0 s (H) w) (a100 : SliceRep encFact s v100 o100.Pre) (a101 : SliceRep encEffect s v101 o100.Effs) (a102 : SliceRep (encInt .i64) s v102 pattern100) :
  Calls Try.prog 60 #[Value.agg #[Value.string (o100.Name), Value.int .i64 (o100.Cost), v100, v101], v102] w fun e w' => ∃ v, e = .returned v ∧ ((fun (y100 : (List Int)) => ∃ (s100 : PHeap) (v103 : Value), PHeap.le s s100 ∧ St w0 s100 (H) w' ∧ v = v103 ∧ SliceRep (encInt .i64) s100 v103 y100) r) := by
 unfold project_outside_p at hm
 refine calls_of_W Try.func60 rfl rfl (Zc (Zd (Za rfl rfl (Exec.box (cs := [Value.string (o100.Name), Value.int .i64 (o100.Cost), v100, v101]) hS rfl rfl rfl ?_))))
 intro b100 w100 hS100
 refine Za rfl rfl (Zo (v := Value.slice none 0 0) rfl rfl (Zb (Ze (Zc (Zd (Za rfl rfl (Zo (v := Value.slice none 0 0) rfl rfl (Zb (Ze (Zc (Zc ?_)))))))))))
 refine Zd (Za rfl rfl (Zp F79_3 rfl rfl rfl (Za rfl rfl (Zn (hS100) A77 rfl rfl rfl (Za rfl rfl (Zr S77 rfl rfl a101 (Za rfl rfl (Zm (v := Value.int .i64 (0)) rfl rfl (Zb (Ze ?_))))))))))
 obtain ⟨out100, hB100, hm⟩ := Zg hm
 refine W_block (W_forS (fun k' s' f' w' => (fun (out100 : (List Int)) => ∃ (s101 : PHeap) (v104 : Value), PHeap.le s s101 ∧ St w0 s101 (Res.box b100 79 [Value.string (o100.Name), Value.int .i64 (o100.Cost), v100, v101] :: Res.arr (encInt .i64) 3 v104 out100 :: H) w' ∧ f' 1 = v102 ∧ f' 2 = Value.pointer (some ⟨b100, 0, none⟩) ∧ f' 5 = v104 ∧ f' 11 = v101 ∧ f' 12 = Value.int .i64 ((o100.Effs.length : Int)) ∧ f' 13 = Value.int .i64 (k' : Int)) s') hB100 ?_ ?_ ?_)
 ·have hS101 := hS100.nilArr (encInt .i64) 3
  have hS102 := (hS101).f1
  exact ⟨s, (Value.slice none 0 0), (Zv _), hS102, rfl, rfl, rfl, rfl, rfl, rfl⟩
 ·intro i100 out100 s102 f100 w101 hi100 hI100 hm100
  obtain ⟨s103, v104, l100, hS103, p100, p101, p102, p103, p104, x100⟩ := hI100
  refine Zc (Zd (Za rfl rfl (Zq rfl x100 p104 (Zb (Ze (Zc (W_true (congrArg Value.bool (decide_eq_true (by omega))) (W_skip (Ze (Zc ?_))))))))))
  refine W_block (Zc (Zd ?_))
  obtain ⟨x101, q100, hm100⟩ := Zg hm100
  refine Za rfl rfl (Exec.index_rep S77 rfl p103 x100 (a101.mono l100) q100 ?_)
  intro b101 o101 a103
  refine Za rfl rfl (Zw (E := encEffect) hS103 A93 rfl rfl rfl a103 ?_)
  intro v105 q101
  obtain ⟨u100, rfl, r100⟩ := encEffect_val.1 q101
  refine Za rfl rfl (Exec.alloc (cs := [Value.slice none 0 0, Value.int .i64 (0), Value.int .i64 (0)]) hS103 Z93 rfl rfl ?_)
  intro b102 w102 hS104
  refine Za rfl rfl (Exec.store_box (ds := [u100, Value.int .i64 (x101.Var), Value.int .i64 (x101.Val)]) (es := [u100, Value.int .i64 (x101.Var), Value.int .i64 (x101.Val)]) hS104 A93 rfl rfl rfl rfl (Zj (r100).one (Zj rfl (Zj rfl one_nil))) (Nat.le_of_ble_eq_true rfl) rfl ?_)
  intro w103 hS105
  refine Zb (Ze (Zc (Zc (Zd (Za rfl rfl (Zm (v := v102) rfl p100 (Za rfl rfl (Zp F93_1 rfl rfl rfl (Za rfl rfl (Zn (hS105) A3 rfl rfl rfl ?_))))))))))
  obtain ⟨y101, q102, hm100⟩ := Zg hm100
  refine Za rfl rfl (Exec.call rfl rfl Try.func62 rfl N62 (Zi rfl (Zi rfl args_nil)) ((slices_Contains___int_int__sim q102 hS105 (a102.mono l100)).mono ?_))
  rintro _ w104 ⟨_, rfl, ⟨s104, l101, hS106, rfl⟩⟩
  refine ⟨_, rfl, ?_⟩
  refine Za rfl rfl (Exec.not rfl rfl (Zb (Ze ?_)))
  rcases ite_some hm100 with ⟨hc100, hm100⟩ | ⟨hc100, hm100⟩
  ·refine W_cond_t rfl hc100 (W_exit (at_exit (ib_here (Ze (Zd (Za rfl rfl (Exec.add rfl x100 rfl (Za rfl rfl (Zm (v := Value.int .i64 (IntKind.i64.wrap ((i100 : Int) + 1))) rfl rfl (Zb (Ze ?_)))))))))))
   have e100 := Zu hm100
   subst s102
   have hS107 := (hS106).drop
   have hS108 := (hS107).f1
   have hS109 := (hS108).f1
   exact ⟨s104, v104, (Zt l100 l101), hS109, p100, p101, p102, p103, p104, (Eq.trans rfl (wrap_up hi100 (SliceRep.le a101)))⟩
  refine W_cond_f rfl hc100 ?_
  replace hc100 := Zk hc100
  refine W_skip (Ze (Zc (Zd (Za rfl rfl (Zp F93_0 rfl rfl rfl (Za rfl rfl (Zn (hS106) A52 rfl rfl rfl (Za rfl rfl (Zr S52 rfl rfl (r100.mono l101) (Za rfl rfl (Zm (v := Value.int .i64 (0)) rfl rfl (Zb (Ze ?_)))))))))))))
  obtain ⟨l102, hB101, hm100⟩ := Zg hm100
  refine W_block (W_forS (fun k' s' f' w' => (fun (l102 : (List Int)) => ∃ (s105 : PHeap) (v106 : Value), PHeap.le s104 s105 ∧ St w0 s105 (Res.box b100 79 [Value.string (o100.Name), Value.int .i64 (o100.Cost), v100, v101] :: Res.arr (encInt .i64) 3 v106 l102 :: H) w' ∧ f' 1 = v102 ∧ f' 2 = Value.pointer (some ⟨b100, 0, none⟩) ∧ f' 5 = v106 ∧ f' 11 = v101 ∧ f' 12 = Value.int .i64 ((o100.Effs.length : Int)) ∧ f' 13 = Value.int .i64 ((i100 : Int)) ∧ f' 23 = u100 ∧ f' 24 = Value.int .i64 ((x101.When.length : Int)) ∧ f' 25 = Value.int .i64 (k' : Int)) s') hB101 ?_ ?_ ?_)
  ·have hS110 := (hS106).drop
   have hS111 := (hS110).f1
   have hS112 := (hS111).f1
   exact ⟨s104, v104, (Zv _), hS112, p100, p101, p102, p103, p104, x100, rfl, rfl, rfl⟩
  ·intro i101 l102 s106 f101 w105 hi101 hI101 hm101
   obtain ⟨s107, v106, l103, hS113, p105, p106, p107, p108, p109, p110, p111, p112, x102⟩ := hI101
   refine Zc (Zd (Za rfl rfl (Zq rfl x102 p112 (Zb (Ze (Zc (W_true (congrArg Value.bool (decide_eq_true (by omega))) (W_skip (Ze (Zc ?_))))))))))
   refine W_block (Zc (Zd ?_))
   obtain ⟨x103, q103, hm101⟩ := Zg hm101
   refine Za rfl rfl (Exec.index_rep S52 rfl p111 x102 (r100.mono (Zt l101 l103)) q103 ?_)
   intro b103 o102 a104
   refine Za rfl rfl (Zw (E := encFact) hS113 A82 rfl rfl rfl a104 ?_)
   intro v107 q104
   obtain rfl := encFact_val.1 q104
   refine Za rfl rfl (Exec.alloc (cs := [Value.int .i64 (0), Value.int .i64 (0)]) hS113 Z82 rfl rfl ?_)
   intro b104 w106 hS114
   refine Za rfl rfl (Exec.store_box (ds := [Value.int .i64 (x103.Var), Value.int .i64 (x103.Val)]) (es := [Value.int .i64 (x103.Var), Value.int .i64 (x103.Val)]) hS114 A82 rfl rfl rfl rfl (Zj rfl (Zj rfl one_nil)) (Nat.le_of_ble_eq_true rfl) rfl ?_)
   intro w107 hS115
   refine Zb (Ze (Zc ?_))
   obtain ⟨z100, ht100, hm101⟩ := Zg hm101
   refine W_mid (M := fun f' w' => (fun (z100 : Bool) => ∃ (s108 : PHeap) , PHeap.le s107 s108 ∧ St w0 s108 (Res.box b100 79 [Value.string (o100.Name), Value.int .i64 (o100.Cost), v100, v101] :: Res.arr (encInt .i64) 3 v106 l102 :: Res.box b104 82 [Value.int .i64 (x103.Var), Value.int .i64 (x103.Val)] :: H) w' ∧ f' 1 = v102 ∧ f' 2 = Value.pointer (some ⟨b100, 0, none⟩) ∧ f' 5 = v106 ∧ f' 9 = Value.pointer (some ⟨b104, 0, none⟩) ∧ f' 11 = v101 ∧ f' 12 = Value.int .i64 ((o100.Effs.length : Int)) ∧ f' 13 = Value.int .i64 ((i100 : Int)) ∧ f' 23 = u100 ∧ f' 24 = Value.int .i64 ((x101.When.length : Int)) ∧ f' 25 = Value.int .i64 ((i101 : Int)) ∧ f' 48 = Value.bool (z100)) z100) ?_ ?_
   ·refine Zd (Za rfl rfl (Zm (v := v102) rfl p105 (Za rfl rfl (Zp F82_0 rfl rfl rfl (Za rfl rfl (Zn (hS115) A3 rfl rfl rfl ?_))))))
    obtain ⟨y102, q105, ht100⟩ := Zg ht100
    refine Za rfl rfl (Exec.call rfl rfl Try.func62 rfl N62 (Zi rfl (Zi rfl args_nil)) ((slices_Contains___int_int__sim q105 hS115 (a102.mono (Zt (Zt l100 l101) l103))).mono ?_))
    rintro _ w108 ⟨_, rfl, ⟨s109, l104, hS116, rfl⟩⟩
    refine ⟨_, rfl, ?_⟩
    refine Za rfl rfl (Exec.not rfl rfl (Za rfl rfl (Zm (v := Value.bool (!y102)) rfl rfl ?_)))
    rcases ite_some ht100 with ⟨hc101, ht100⟩ | ⟨hc101, ht100⟩
    ·refine WL_run rfl (Zf rfl (congrArg Value.bool hc101)) rfl (Zp F79_2 rfl p106 rfl (WL_run rfl (Zf rfl (congrArg Value.bool hc101)) rfl (Zn ((hS116).f1) A52 rfl rfl rfl (WL_run rfl (Zf rfl (congrArg Value.bool hc101)) rfl (Zp F82_0 rfl rfl rfl (WL_run rfl (Zf rfl (congrArg Value.bool hc101)) rfl (Zn (hS116) A3 rfl rfl rfl ?_)))))))
     obtain ⟨y103, q106, ht100⟩ := Zg ht100
     refine WL_run rfl (Zf rfl (congrArg Value.bool hc101)) rfl (Exec.call rfl rfl Try.func77 rfl N77 (Zi rfl (Zi rfl args_nil)) ((project_has_sim q106 hS116 (a100.mono (Zt (Zt (Zt l100 l101) l103) l104))).mono ?_))
     rintro _ w109 ⟨_, rfl, ⟨s110, l105, hS117, rfl⟩⟩
     refine ⟨_, rfl, ?_⟩
     refine WL_run rfl (Zf rfl (congrArg Value.bool hc101)) rfl (Exec.not rfl rfl (Za rfl rfl (Zs (v := Value.bool (!y103)) rfl (congrArg Value.bool hc101) rfl (Za rfl rfl (Zm (v := Value.bool (!y103)) rfl rfl ?_)))))
     rcases ite_some ht100 with ⟨hc102, ht100⟩ | ⟨hc102, ht100⟩
     ·refine WL_run rfl (Zf rfl (congrArg Value.bool hc102)) rfl (Zm (v := v106) rfl p107 (WL_run rfl (Zf rfl (congrArg Value.bool hc102)) rfl (Zp F82_0 rfl rfl rfl (WL_run rfl (Zf rfl (congrArg Value.bool hc102)) rfl (Zn (hS117) A3 rfl rfl rfl ?_)))))
      obtain ⟨y104, q107, ht100⟩ := Zg ht100
      have hS118 := (hS117).f2
      refine WL_run rfl (Zf rfl (congrArg Value.bool hc102)) rfl (Exec.call rfl rfl Try.func62 rfl N62 (Zi rfl (Zi rfl args_nil)) ((slices_Contains___int_int__o_sim q107 hS118 ).mono ?_))
      rintro _ w110 ⟨_, rfl, ⟨s111, l106, hS119, rfl⟩⟩
      refine ⟨_, rfl, ?_⟩
      refine WL_run rfl (Zf rfl (congrArg Value.bool hc102)) rfl (Exec.not rfl rfl (Za rfl rfl (Zs (v := Value.bool (!y104)) rfl (congrArg Value.bool hc102) rfl (Zb (Ze ?_)))))
      have e101 := Zu ht100
      subst z100
      have hS120 := (hS119).f1
      have hS121 := (hS120).f1
      have hS122 := (hS121).f2
      exact ⟨s111, (Zt (Zt l104 l105) l106), hS122, p105, p106, p107, rfl, p108, p109, p110, p111, p112, x102, rfl⟩
     replace hc102 := Zk hc102
     refine Zl rfl (Zf rfl (congrArg Value.bool hc102)) rfl rfl (Zl rfl (Zf rfl (congrArg Value.bool hc102)) rfl rfl (Zl rfl (Zf rfl (congrArg Value.bool hc102)) rfl rfl (Zl rfl (Zf rfl (congrArg Value.bool hc102)) rfl rfl (Zl rfl (Zf rfl (congrArg Value.bool hc102)) rfl rfl (Za rfl rfl (Exec.pick_f (v := Value.bool (false)) rfl (congrArg Value.bool hc102) rfl (Zb (Ze ?_))))))))
     have e102 := Zu ht100
     subst z100
     have hS123 := (hS117).f2
     have hS124 := (hS123).f2
     exact ⟨s110, (Zt l104 l105), hS124, p105, p106, p107, rfl, p108, p109, p110, p111, p112, x102, rfl⟩
    replace hc101 := Zk hc101
    refine Zl rfl (Zf rfl (congrArg Value.bool hc101)) rfl rfl (Zl rfl (Zf rfl (congrArg Value.bool hc101)) rfl rfl (Zl rfl (Zf rfl (congrArg Value.bool hc101)) rfl rfl (Zl rfl (Zf rfl (congrArg Value.bool hc101)) rfl rfl (Zl rfl (Zf rfl (congrArg Value.bool hc101)) rfl rfl (Zl rfl (Zf rfl (congrArg Value.bool hc101)) rfl rfl (Za rfl rfl (Exec.pick_f (v := Value.bool (false)) rfl (congrArg Value.bool hc101) rfl (Za rfl rfl (Zm (v := Value.bool (false)) rfl rfl ?_)))))))))
    refine Zl rfl (Zf rfl rfl) rfl rfl (Zl rfl (Zf rfl rfl) rfl rfl (Zl rfl (Zf rfl rfl) rfl rfl (Zl rfl (Zf rfl rfl) rfl rfl (Zl rfl (Zf rfl rfl) rfl rfl (Za rfl rfl (Exec.pick_f (v := Value.bool (false)) rfl rfl rfl (Zb (Ze ?_))))))))
    have e103 := Zu ht100
    subst z100
    have hS125 := (hS116).f2
    have hS126 := (hS125).f2
    exact ⟨s109, l104, hS126, p105, p106, p107, rfl, p108, p109, p110, p111, p112, x102, rfl⟩
   intro f102 w111 hM100
   obtain ⟨s112, l107, hS127, p113, p114, p115, p116, p117, p118, p119, p120, p121, p122, p123⟩ := hM100
   refine (Ze ?_)
   obtain ⟨l108, ht101, hm101⟩ := Zg hm101
   refine W_mid (M := fun f' w' => (fun (l108 : (List Int)) => ∃ (s113 : PHeap) (v108 : Value), PHeap.le s112 s113 ∧ St w0 s113 (Res.box b100 79 [Value.string (o100.Name), Value.int .i64 (o100.Cost), v100, v101] :: Res.arr (encInt .i64) 3 v108 l108 :: H) w' ∧ f' 1 = v102 ∧ f' 2 = Value.pointer (some ⟨b100, 0, none⟩) ∧ f' 5 = v108 ∧ f' 11 = v101 ∧ f' 12 = Value.int .i64 ((o100.Effs.length : Int)) ∧ f' 13 = Value.int .i64 ((i100 : Int)) ∧ f' 23 = u100 ∧ f' 24 = Value.int .i64 ((x101.When.length : Int)) ∧ f' 25 = Value.int .i64 ((i101 : Int))) l108) ?_ ?_
   ·rcases ite_some ht101 with ⟨hc103, ht101⟩ | ⟨hc103, ht101⟩
    ·refine W_cond_t p123 hc103 (Zd (Za rfl rfl (Zm (v := v106) rfl p115 (Za rfl rfl (Zp F82_0 rfl p116 rfl (Za rfl rfl (Zn ((hS127).f2) A3 rfl rfl rfl (Za rfl rfl (Exec.buildSlice (Te := 3) (cs := [Value.int .i64 (x103.Var)]) hS127 rfl (parts_cons (c := [Value.int .i64 (x103.Var)]) (cells_of rfl rfl) parts_nil) (fun _ => by kernel_rfl) ?_)))))))))
     intro b105 w112 hS128
     obtain ⟨l109, q108, ht101⟩ := Zg ht101
     have hS129 := (hS128).f2
     refine Za rfl rfl (Exec.append_box (E := (encInt .i64)) (ys := [x103.Var]) hS129 S22 Z3 rfl (by decide) rfl rfl rfl rfl ⟨[Value.int .i64 (x103.Var)], [], rfl, rfl, rfl⟩ rfl q108 ?_)
     intro v109 w113 hS130
     refine Za rfl rfl (Zo (v := v109) rfl rfl (Zb (Ze ?_)))
     have e104 := Zu ht101
     subst l108
     have hS131 := ((hS130).f2).drop
     have hS132 := (hS131).f1
     exact ⟨s112, v109, (Zv _), hS132, p113, p114, rfl, p117, p118, p119, p120, p121, p122⟩
    refine W_cond_f p123 hc103 ?_
    replace hc103 := Zk hc103
    refine W_skip (Ze ?_)
    have e105 := Zu ht101
    subst l108
    have hS133 := ((hS127).f2).drop
    have hS134 := (hS133).f1
    have hS135 := (hS134).f1
    exact ⟨s112, v106, (Zv _), hS135, p113, p114, p115, p117, p118, p119, p120, p121, p122⟩
   intro f103 w114 hM101
   obtain ⟨s114, v108, l110, hS136, p124, p125, p126, p127, p128, p129, p130, p131, p132⟩ := hM101
   refine (ib_normal (Ze (Zd (Za rfl rfl (Exec.add rfl p132 rfl (Za rfl rfl (Zm (v := Value.int .i64 (IntKind.i64.wrap ((i101 : Int) + 1))) rfl rfl (Zb (Ze ?_)))))))))
   have e106 := Zu hm101
   subst s106
   have hS137 := (hS136).f1
   have hS138 := (hS137).f1
   exact ⟨s114, v108, (Zt (Zt l103 l107) l110), hS138, p124, p125, p126, p127, p128, p129, p130, p131, (Eq.trans rfl (wrap_up hi101 (SliceRep.le (r100.mono l101))))⟩
  intro f104 w115 hI102
  obtain ⟨s115, v106, l111, hS139, p133, p134, p135, p136, p137, p138, p139, p140, x104⟩ := hI102
  refine Zc (Zd (Za rfl rfl (Zq rfl x104 p140 (Zb (Ze (Zc (W_false (congrArg Value.bool (decide_eq_false (by omega))) (W_exit (at_exit (at_exit (ib_here (ib_normal (Ze (Zd ?_))))))))))))))
  refine Za rfl rfl (Exec.add rfl p138 rfl (Za rfl rfl (Zm (v := Value.int .i64 (IntKind.i64.wrap ((i100 : Int) + 1))) rfl rfl (Zb (Ze ?_)))))
  have e107 := Zu hm100
  subst s102
  have hS140 := (hS139).f1
  have hS141 := (hS140).f1
  exact ⟨s115, v106, (Zt (Zt l100 l101) l111), hS141, p133, p134, p135, p136, p137, (Eq.trans rfl (wrap_up hi100 (SliceRep.le a101)))⟩
 intro f105 w116 hI103
 obtain ⟨s116, v104, l112, hS142, p141, p142, p143, p144, p145, x105⟩ := hI103
 refine Zc (Zd (Za rfl rfl (Zq rfl x105 p145 (Zb (Ze (Zc (W_false (congrArg Value.bool (decide_eq_false (by omega))) (W_exit (at_exit (at_exit (ib_here (Ze (Zc ?_)))))))))))))
 refine Zd (Za rfl rfl (Zm (v := v104) rfl p143 ?_))
 obtain ⟨l113, q109, hm⟩ := Zg hm
 have hS143 := (hS142).f1
 refine Za rfl rfl (Exec.call rfl rfl Try.func78 rfl N78 (Zi rfl args_nil) ((sortInts_sim q109 hS143 ).mono ?_))
 rintro _ w117 ⟨_, rfl, ⟨s117, l114, hS144, rfl⟩⟩
 refine ⟨_, rfl, ?_⟩
 refine Zb (Ze (Zc (Zd (Za rfl rfl (Zm (v := v104) rfl p143 (Za rfl rfl (Zo (v := v104) rfl rfl (Zb (Ze (W_ret ?_))))))))))
 have e108 := Zu hm
 subst r
 refine ⟨_, ret1 rfl, ?_⟩
 obtain ⟨s118, l115, hS145, r101⟩ := hS144.freezeArr
 have hS146 := (hS145).drop
 exact ⟨s118, v104, (Zt (Zt l112 l114) l115), hS146, rfl, r101⟩
theorem N61 : (Try.f61.name == "runtime.NumGoroutine") = false := by kernel_rfl
end Go.Pw
