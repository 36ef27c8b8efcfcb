/-
  The walks (printed by my generator).
-/
import Derived.Test.YtdhfofhginfdnaaWh4
set_option maxRecDepth 100000
set_option maxHeartbeats 4000000
set_option linter.unusedVariables false
namespace Go.Pw
open Go.Proofs
theorem law44_Own_sim {w0 w : World} {s : PHeap} {H : List Res} {t100 : Task} {v100 : Value} {v101 : Value} {v102 : Value} {v103 : Value} {r : Bool} (hm : law44_Own_p t100 = some r) (hS : St w0 s (H) w) (a100 : SliceRep (encInt .i64) s v100 t100.Vars) (a101 : SliceRep (encInt .i64) s v101 t100.Init) (a102 : SliceRep encFact s v102 t100.Goal) (a103 : SliceRep encOp s v103 t100.Ops) :
  Calls Try.prog 34 #[Value.agg #[v100, v101, v102, v103]] w fun e w' => ∃ v, e = .returned v ∧ ((fun (y100 : Bool) => ∃ (s100 : PHeap) , PHeap.le s s100 ∧ St w0 s100 (H) w' ∧ v = Value.bool (y100)) r) := by
 unfold law44_Own_p at hm
 refine calls_of_W Try.func34 rfl rfl (Zc (Zd (Za rfl rfl (Exec.box (cs := [v100, v101, v102, v103]) hS rfl rfl rfl ?_))))
 intro b100 w100 hS100
 refine Za rfl rfl (Zo (v := Value.bool (false)) rfl rfl (Zb (Ze (Zc (Zc (Zd (Za rfl rfl (Zp F55_3 rfl rfl rfl (Za rfl rfl (Zn (hS100) A53 rfl rfl rfl (Za rfl rfl (Zr S53 rfl rfl a103 ?_))))))))))))
 refine Za rfl rfl (Zm (v := Value.int .i64 (0)) rfl rfl (Zb (Ze ?_)))
 obtain ⟨c100, hB100, hr100, hn100, hb100⟩ := ctl_some hm
 refine W_mid (M := fun f' w' => ∃ s', (c100 = .next s' ∨ c100 = .brk s') ∧ (fun (_ : Unit) => ∃ (s101 : PHeap) , PHeap.le s s101 ∧ St w0 s101 (H) w' ∧ f' 10 = v103 ∧ f' 11 = Value.int .i64 ((t100.Ops.length : Int))) s') ?_ ?_
 ·refine W_block (W_forC (fun k' s' f' w' => (fun (_ : Unit) => ∃ (s102 : PHeap) , PHeap.le s s102 ∧ St w0 s102 (H) w' ∧ f' 10 = v103 ∧ f' 11 = Value.int .i64 ((t100.Ops.length : Int)) ∧ f' 12 = Value.int .i64 (k' : Int)) s') hB100 ?_ ?_ ?_)
  ·have hS101 := (hS100).drop
   exact ⟨s, (Zv _), hS101, rfl, rfl, rfl⟩
  ·intro i100 t101 c101 f100 w101 hi100 hI100 hm100 hres100
   obtain ⟨s103, l100, hS102, p100, p101, x100⟩ := hI100
   refine Zc (Zd (Za rfl rfl (Zq rfl x100 p101 (Zb (Ze (Zc (W_true (congrArg Value.bool (decide_eq_true (by omega))) (W_skip (Ze (Zc ?_))))))))))
   refine W_block (Zc (Zd ?_))
   obtain ⟨x101, q100, hm100⟩ := Zg hm100
   refine Za rfl rfl (Exec.index_rep S53 rfl p100 x100 (a103.mono l100) q100 ?_)
   intro b101 o100 a104
   refine Za rfl rfl (Zw (E := encOp) hS102 A79 rfl rfl rfl a104 ?_)
   intro v104 q101
   obtain ⟨u100, u101, rfl, r100, r101⟩ := encOp_val.1 q101
   refine Za rfl rfl (Exec.alloc (cs := [Value.string (⟨#[]⟩), Value.int .i64 (0), Value.slice none 0 0, Value.slice none 0 0]) hS102 Z79 rfl rfl ?_)
   intro b102 w102 hS103
   refine Za rfl rfl (Exec.store_box (ds := [Value.string (x101.Name), Value.int .i64 (x101.Cost), u100, u101]) (es := [Value.string (x101.Name), Value.int .i64 (x101.Cost), u100, u101]) hS103 A79 rfl rfl rfl rfl (Zj rfl (Zj rfl (Zj (r100).one (Zj (r101).one one_nil)))) (Nat.le_of_ble_eq_true rfl) rfl ?_)
   intro w103 hS104
   refine Zb (Ze (Zc (Zd (Za rfl rfl (Zp F79_3 rfl rfl rfl (Za rfl rfl (Zn (hS104) A77 rfl rfl rfl (Za rfl rfl (Zr S77 rfl rfl r101 (Za rfl rfl (Zm (v := Value.int .i64 (0)) rfl rfl (Zb (Ze ?_)))))))))))))
   obtain ⟨c102, hB101, hr101, hn101, hb101⟩ := ctl_some hm100
   refine W_mid (M := fun f' w' => ∃ s', (c102 = .next s' ∨ c102 = .brk s') ∧ (fun (_ : Unit) => ∃ (s104 : PHeap) , PHeap.le s103 s104 ∧ St w0 s104 (H) w' ∧ f' 10 = v103 ∧ f' 11 = Value.int .i64 ((t100.Ops.length : Int)) ∧ f' 12 = Value.int .i64 ((i100 : Int)) ∧ f' 17 = u101 ∧ f' 18 = Value.int .i64 ((x101.Effs.length : Int))) s') ?_ ?_
   ·refine W_block (W_forC (fun k' s' f' w' => (fun (_ : Unit) => ∃ (s105 : PHeap) , PHeap.le s103 s105 ∧ St w0 s105 (H) w' ∧ f' 10 = v103 ∧ f' 11 = Value.int .i64 ((t100.Ops.length : Int)) ∧ f' 12 = Value.int .i64 ((i100 : Int)) ∧ f' 17 = u101 ∧ f' 18 = Value.int .i64 ((x101.Effs.length : Int)) ∧ f' 19 = Value.int .i64 (k' : Int)) s') hB101 ?_ ?_ ?_)
    ·have hS105 := (hS104).drop
     exact ⟨s103, (Zv _), hS105, p100, p101, x100, rfl, rfl, rfl⟩
    ·intro i101 t102 c103 f101 w104 hi101 hI101 hm101 hres101
     obtain ⟨s106, l101, hS106, p102, p103, p104, p105, p106, x102⟩ := hI101
     refine Zc (Zd (Za rfl rfl (Zq rfl x102 p106 (Zb (Ze (Zc (W_true (congrArg Value.bool (decide_eq_true (by omega))) (W_skip (Ze (Zc ?_))))))))))
     refine W_block (Zc (Zd ?_))
     obtain ⟨x103, q102, hm101⟩ := Zg hm101
     refine Za rfl rfl (Exec.index_rep S77 rfl p105 x102 (r101.mono l101) q102 ?_)
     intro b103 o101 a105
     refine Za rfl rfl (Zw (E := encEffect) hS106 A93 rfl rfl rfl a105 ?_)
     intro v105 q103
     obtain ⟨u102, rfl, r102⟩ := encEffect_val.1 q103
     refine Za rfl rfl (Exec.alloc (cs := [Value.slice none 0 0, Value.int .i64 (0), Value.int .i64 (0)]) hS106 Z93 rfl rfl ?_)
     intro b104 w105 hS107
     refine Za rfl rfl (Exec.store_box (ds := [u102, Value.int .i64 (x103.Var), Value.int .i64 (x103.Val)]) (es := [u102, Value.int .i64 (x103.Var), Value.int .i64 (x103.Val)]) hS107 A93 rfl rfl rfl rfl (Zj (r102).one (Zj rfl (Zj rfl one_nil))) (Nat.le_of_ble_eq_true rfl) rfl ?_)
     intro w106 hS108
     refine Zb (Ze (Zc (Zd (Za rfl rfl (Zp F93_0 rfl rfl rfl (Za rfl rfl (Zn (hS108) A52 rfl rfl rfl (Za rfl rfl (Zr S52 rfl rfl r102 (Za rfl rfl (Zm (v := Value.int .i64 (0)) rfl rfl (Zb (Ze ?_)))))))))))))
     obtain ⟨c104, hB102, hr102, hn102, hb102⟩ := ctl_some hm101
     refine W_mid (M := fun f' w' => ∃ s', (c104 = .next s' ∨ c104 = .brk s') ∧ (fun (_ : Unit) => ∃ (s107 : PHeap) , PHeap.le s106 s107 ∧ St w0 s107 (Res.box b104 93 [u102, Value.int .i64 (x103.Var), Value.int .i64 (x103.Val)] :: H) w' ∧ f' 6 = Value.pointer (some ⟨b104, 0, none⟩) ∧ f' 10 = v103 ∧ f' 11 = Value.int .i64 ((t100.Ops.length : Int)) ∧ f' 12 = Value.int .i64 ((i100 : Int)) ∧ f' 17 = u101 ∧ f' 18 = Value.int .i64 ((x101.Effs.length : Int)) ∧ f' 19 = Value.int .i64 ((i101 : Int)) ∧ f' 24 = u102 ∧ f' 25 = Value.int .i64 ((x103.When.length : Int))) s') ?_ ?_
     ·refine W_block (W_forC (fun k' s' f' w' => (fun (_ : Unit) => ∃ (s108 : PHeap) , PHeap.le s106 s108 ∧ St w0 s108 (Res.box b104 93 [u102, Value.int .i64 (x103.Var), Value.int .i64 (x103.Val)] :: H) w' ∧ f' 6 = Value.pointer (some ⟨b104, 0, none⟩) ∧ f' 10 = v103 ∧ f' 11 = Value.int .i64 ((t100.Ops.length : Int)) ∧ f' 12 = Value.int .i64 ((i100 : Int)) ∧ f' 17 = u101 ∧ f' 18 = Value.int .i64 ((x101.Effs.length : Int)) ∧ f' 19 = Value.int .i64 ((i101 : Int)) ∧ f' 24 = u102 ∧ f' 25 = Value.int .i64 ((x103.When.length : Int)) ∧ f' 26 = Value.int .i64 (k' : Int)) s') hB102 ?_ ?_ ?_)
      ·exact ⟨s106, (Zv _), hS108, rfl, p102, p103, p104, p105, p106, x102, rfl, rfl, rfl⟩
      ·intro i102 t103 c105 f102 w107 hi102 hI102 hm102 hres102
       obtain ⟨s109, l102, hS109, p107, p108, p109, p110, p111, p112, p113, p114, p115, x104⟩ := hI102
       refine Zc (Zd (Za rfl rfl (Zq rfl x104 p115 (Zb (Ze (Zc (W_true (congrArg Value.bool (decide_eq_true (by omega))) (W_skip (Ze (Zc ?_))))))))))
       refine W_block (Zc (Zd ?_))
       obtain ⟨x105, q104, hm102⟩ := Zg hm102
       refine Za rfl rfl (Exec.index_rep S52 rfl p114 x104 (r102.mono l102) q104 ?_)
       intro b105 o102 a106
       refine Za rfl rfl (Zw (E := encFact) hS109 A82 rfl rfl rfl a106 ?_)
       intro v106 q105
       obtain rfl := encFact_val.1 q105
       refine Za rfl rfl (Exec.alloc (cs := [Value.int .i64 (0), Value.int .i64 (0)]) hS109 Z82 rfl rfl ?_)
       intro b106 w108 hS110
       refine Za rfl rfl (Exec.store_box (ds := [Value.int .i64 (x105.Var), Value.int .i64 (x105.Val)]) (es := [Value.int .i64 (x105.Var), Value.int .i64 (x105.Val)]) hS110 A82 rfl rfl rfl rfl (Zj rfl (Zj rfl one_nil)) (Nat.le_of_ble_eq_true rfl) rfl ?_)
       intro w109 hS111
       refine Zb (Ze (Zc (Zd (Za rfl rfl (Zp F82_0 rfl rfl rfl (Za rfl rfl (Zn (hS111) A3 rfl rfl rfl (Za rfl rfl (Zp F93_1 rfl p107 rfl (Za rfl rfl (Zn ((hS111).f1) A3 rfl rfl rfl (Za rfl rfl (Exec.neq rfl rfl rfl ?_)))))))))))))
       refine Zb (Ze ?_)
       rcases ite_some hm102 with ⟨hc100, hm102⟩ | ⟨hc100, hm102⟩
       ·refine W_cond_t rfl hc100 (Zc (Zd (Za rfl rfl (Zo (v := Value.bool (false)) rfl rfl (Zb (Ze (W_ret (ib_ret (at_ret (at_ret (ib_ret (at_ret (ib_ret (at_ret (at_ret (ib_ret (at_ret (ib_ret (at_ret (at_ret (ib_ret (at_ret (at_ret ?_)))))))))))))))))))))))
        have e100 := Zu hm102
        subst c105
        have hq100 := hr102 _ (hres102 (by intro _ h; cases h))
        have e101 := Zu hq100
        subst c103
        have hq101 := hr101 _ (hres101 (by intro _ h; cases h))
        have e102 := Zu hq101
        subst c101
        have hq102 := hr100 _ (hres100 (by intro _ h; cases h))
        have e103 := Zu hq102
        subst r
        refine ⟨_, ret1 rfl, ?_⟩
        have hS112 := (hS111).drop
        have hS113 := (hS112).drop
        exact ⟨s109, (Zt (Zt l100 l101) l102), hS113, rfl⟩
       refine W_cond_f rfl hc100 ?_
       replace hc100 := Zk hc100
       refine W_skip (ib_normal (Ze (Zd (Za rfl rfl (Exec.add rfl x104 rfl (Za rfl rfl (Zm (v := Value.int .i64 (IntKind.i64.wrap ((i102 : Int) + 1))) rfl rfl (Zb (Ze ?_)))))))))
       have e104 := Zu hm102
       subst c105
       have hS114 := (hS111).drop
       refine ⟨_, rfl, ?_⟩; exact ⟨s109, l102, hS114, p107, p108, p109, p110, p111, p112, p113, p114, p115, (Eq.trans rfl (wrap_up hi102 (SliceRep.le r102)))⟩
      intro t104 f103 w110 hI103 hres103
      obtain ⟨s110, l103, hS115, p116, p117, p118, p119, p120, p121, p122, p123, p124, x106⟩ := hI103
      refine Zc (Zd (Za rfl rfl (Zq rfl x106 p124 (Zb (Ze (Zc (W_false (congrArg Value.bool (decide_eq_false (by omega))) (W_exit (at_exit (at_exit (ib_here (Ze ?_))))))))))))
      refine ⟨_, .inl hres103, ?_⟩; exact ⟨s110, l103, hS115, p116, p117, p118, p119, p120, p121, p122, p123, p124⟩
     rintro f104 w111 ⟨t105, hc101, hM100⟩
     have hm101 := hc101.elim (hn102 _) (hb102 _)
     clear hc101
     obtain ⟨s111, l104, hS116, p125, p126, p127, p128, p129, p130, p131, p132, p133⟩ := hM100
     refine (ib_normal (Ze (Zd (Za rfl rfl (Exec.add rfl p131 rfl (Za rfl rfl (Zm (v := Value.int .i64 (IntKind.i64.wrap ((i101 : Int) + 1))) rfl rfl (Zb (Ze ?_)))))))))
     have e105 := Zu hm101
     subst c103
     have hS117 := (hS116).drop
     refine ⟨_, rfl, ?_⟩; exact ⟨s111, (Zt l101 l104), hS117, p126, p127, p128, p129, p130, (Eq.trans rfl (wrap_up hi101 (SliceRep.le r101)))⟩
    intro t106 f105 w112 hI104 hres104
    obtain ⟨s112, l105, hS118, p134, p135, p136, p137, p138, x107⟩ := hI104
    refine Zc (Zd (Za rfl rfl (Zq rfl x107 p138 (Zb (Ze (Zc (W_false (congrArg Value.bool (decide_eq_false (by omega))) (W_exit (at_exit (at_exit (ib_here (Ze ?_))))))))))))
    refine ⟨_, .inl hres104, ?_⟩; exact ⟨s112, l105, hS118, p134, p135, p136, p137, p138⟩
   rintro f106 w113 ⟨t107, hc102, hM101⟩
   have hm100 := hc102.elim (hn101 _) (hb101 _)
   clear hc102
   obtain ⟨s113, l106, hS119, p139, p140, p141, p142, p143⟩ := hM101
   refine (ib_normal (Ze (Zd (Za rfl rfl (Exec.add rfl p141 rfl (Za rfl rfl (Zm (v := Value.int .i64 (IntKind.i64.wrap ((i100 : Int) + 1))) rfl rfl (Zb (Ze ?_)))))))))
   have e106 := Zu hm100
   subst c101
   refine ⟨_, rfl, ?_⟩; exact ⟨s113, (Zt l100 l106), hS119, p139, p140, (Eq.trans rfl (wrap_up hi100 (SliceRep.le a103)))⟩
  intro t108 f107 w114 hI105 hres105
  obtain ⟨s114, l107, hS120, p144, p145, x108⟩ := hI105
  refine Zc (Zd (Za rfl rfl (Zq rfl x108 p145 (Zb (Ze (Zc (W_false (congrArg Value.bool (decide_eq_false (by omega))) (W_exit (at_exit (at_exit (ib_here (Ze ?_))))))))))))
  refine ⟨_, .inl hres105, ?_⟩; exact ⟨s114, l107, hS120, p144, p145⟩
 rintro f108 w115 ⟨t109, hc103, hM102⟩
 have hm := hc103.elim (hn100 _) (hb100 _)
 clear hc103
 obtain ⟨s115, l108, hS121, p146, p147⟩ := hM102
 refine (Ze (Zc (Zd (Za rfl rfl (Zo (v := Value.bool (true)) rfl rfl (Zb (Ze (W_ret ?_))))))))
 have e107 := Zu hm
 subst r
 refine ⟨_, ret1 rfl, ?_⟩
 exact ⟨s115, l108, hS121, rfl⟩
theorem law44_TransysWhole_sim {w0 w : World} {s : PHeap} {H : List Res} {t1 : Task} {v2 : Value} {v4 : Value} {v6 : Value} {v8 : Value} {r : Bool} (hm : law44_TransysWhole_p t1 = some r) (hS : St w0 s (H) w) (a3 : SliceRep (encInt .i64) s v2 t1.Vars) (a5 : SliceRep (encInt .i64) s v4 t1.Init) (a7 : SliceRep encFact s v6 t1.Goal) (a9 : SliceRep encOp s v8 t1.Ops) :
  Calls Try.prog 9 #[Value.agg #[v2, v4, v6, v8]] w fun e w' => ∃ v, e = .returned v ∧ ((fun (y100 : Bool) => ∃ (s100 : PHeap) , PHeap.le s s100 ∧ St w0 s100 (H) w' ∧ v = Value.bool (y100)) r) := by
 unfold law44_TransysWhole_p at hm
 refine calls_of_W Try.func9 rfl rfl (Zc (Zd (Za rfl rfl (Exec.box (cs := [v2, v4, v6, v8]) hS rfl rfl rfl ?_))))
 intro b100 w100 hS100
 refine Za rfl rfl (Zo (v := Value.bool (false)) rfl rfl (Zb (Ze (Zc (Zc ?_)))))
 obtain ⟨z100, ht100, hm⟩ := Zg hm
 refine W_mid (M := fun f' w' => (fun (z100 : Bool) => ∃ (s101 : PHeap) , PHeap.le s s101 ∧ St w0 s101 (Res.box b100 55 [v2, v4, v6, v8] :: H) w' ∧ f' 1 = Value.pointer (some ⟨b100, 0, none⟩) ∧ f' 34 = Value.bool (z100)) z100) ?_ ?_
 ·refine Zd ?_
  obtain ⟨y101, q100, ht100⟩ := Zg ht100
  refine Za rfl rfl (Exec.call rfl rfl Try.func10 rfl N10 args_nil ((law44_awake_sim q100 hS100 ).mono ?_))
  rintro _ w101 ⟨_, rfl, ⟨s102, l100, hS101, rfl⟩⟩
  refine ⟨_, rfl, ?_⟩
  refine Za rfl rfl (Exec.not rfl rfl (Za rfl rfl (Zm (v := Value.bool (!y101)) rfl rfl ?_)))
  rcases ite_some ht100 with ⟨hc100, ht100⟩ | ⟨hc100, ht100⟩
  ·refine Zl rfl (Zf rfl (congrArg Value.bool hc100)) rfl rfl (Zl rfl (Zf rfl (congrArg Value.bool hc100)) rfl rfl (Zl rfl (Zf rfl (congrArg Value.bool hc100)) rfl rfl (Za rfl rfl (Zs (v := Value.bool (true)) rfl (congrArg Value.bool hc100) rfl (Za rfl rfl (Zm (v := Value.bool (true)) rfl rfl (Zl rfl (Zf rfl rfl) rfl rfl (Zl rfl (Zf rfl rfl) rfl rfl (Zl rfl (Zf rfl rfl) rfl rfl ?_)))))))))
   refine Zl rfl (Zf rfl rfl) rfl rfl (Za rfl rfl (Zs (v := Value.bool (true)) rfl rfl rfl (Za rfl rfl (Zm (v := Value.bool (true)) rfl rfl (Zl rfl (Zf rfl rfl) rfl rfl (Zl rfl (Zf rfl rfl) rfl rfl (Zl rfl (Zf rfl rfl) rfl rfl (Zl rfl (Zf rfl rfl) rfl rfl (Za rfl rfl (Zs (v := Value.bool (true)) rfl rfl rfl ?_))))))))))
   refine Za rfl rfl (Zm (v := Value.bool (true)) rfl rfl (Zl rfl (Zf rfl rfl) rfl rfl (Zl rfl (Zf rfl rfl) rfl rfl (Zl rfl (Zf rfl rfl) rfl rfl (Zl rfl (Zf rfl rfl) rfl rfl (Za rfl rfl (Zs (v := Value.bool (true)) rfl rfl rfl (Zb (Ze ?_)))))))))
   have e100 := Zu ht100
   subst z100
   exact ⟨s102, l100, hS101, rfl, rfl⟩
  replace hc100 := Zk hc100
  refine WL_run rfl (Zf rfl (congrArg Value.bool hc100)) rfl (Exec.load_box_agg (ds := [v2, v4, v6, v8]) (hS101) A55 rfl rfl rfl ?_)
  obtain ⟨y102, q101, ht100⟩ := Zg ht100
  refine WL_run rfl (Zf rfl (congrArg Value.bool hc100)) rfl (Exec.call rfl rfl Try.func30 rfl N30 (Zi rfl args_nil) ((base_Small_sim q101 hS101 (a3.mono l100) (a5.mono l100) (a7.mono l100) (a9.mono l100)).mono ?_))
  rintro _ w102 ⟨_, rfl, ⟨s103, l101, hS102, rfl⟩⟩
  refine ⟨_, rfl, ?_⟩
  refine WL_run rfl (Zf rfl (congrArg Value.bool hc100)) rfl (Exec.not rfl rfl (Za rfl rfl (Exec.pick_f (v := Value.bool (!y102)) rfl (congrArg Value.bool hc100) rfl (Za rfl rfl (Zm (v := Value.bool (!y102)) rfl rfl ?_)))))
  rcases ite_some ht100 with ⟨hc101, ht100⟩ | ⟨hc101, ht100⟩
  ·refine Zl rfl (Zf rfl (congrArg Value.bool hc101)) rfl rfl (Zl rfl (Zf rfl (congrArg Value.bool hc101)) rfl rfl (Zl rfl (Zf rfl (congrArg Value.bool hc101)) rfl rfl (Zl rfl (Zf rfl (congrArg Value.bool hc101)) rfl rfl (Za rfl rfl (Zs (v := Value.bool (true)) rfl (congrArg Value.bool hc101) rfl (Za rfl rfl (Zm (v := Value.bool (true)) rfl rfl (Zl rfl (Zf rfl rfl) rfl rfl (Zl rfl (Zf rfl rfl) rfl rfl ?_)))))))))
   refine Zl rfl (Zf rfl rfl) rfl rfl (Zl rfl (Zf rfl rfl) rfl rfl (Za rfl rfl (Zs (v := Value.bool (true)) rfl rfl rfl (Za rfl rfl (Zm (v := Value.bool (true)) rfl rfl (Zl rfl (Zf rfl rfl) rfl rfl (Zl rfl (Zf rfl rfl) rfl rfl (Zl rfl (Zf rfl rfl) rfl rfl (Zl rfl (Zf rfl rfl) rfl rfl ?_)))))))))
   refine Za rfl rfl (Zs (v := Value.bool (true)) rfl rfl rfl (Zb (Ze ?_)))
   have e101 := Zu ht100
   subst z100
   exact ⟨s103, (Zt l100 l101), hS102, rfl, rfl⟩
  replace hc101 := Zk hc101
  refine WL_run rfl (Zf rfl (congrArg Value.bool hc101)) rfl (Zp F55_0 rfl rfl rfl (WL_run rfl (Zf rfl (congrArg Value.bool hc101)) rfl (Zn (hS102) A22 rfl rfl rfl (WL_run rfl (Zf rfl (congrArg Value.bool hc101)) rfl (Zr S22 rfl rfl (a3.mono (Zt l100 l101)) (WL_run rfl (Zf rfl (congrArg Value.bool hc101)) rfl (Exec.eql rfl rfl rfl (Za rfl rfl (Exec.pick_f (v := Value.bool (decide ((t1.Vars.length : Int) = 0))) rfl (congrArg Value.bool hc101) rfl (Za rfl rfl (Zm (v := Value.bool (decide ((t1.Vars.length : Int) = 0))) rfl rfl ?_)))))))))))
  rcases ite_some ht100 with ⟨hc102, ht100⟩ | ⟨hc102, ht100⟩
  ·refine Zl rfl (Zf rfl (congrArg Value.bool hc102)) rfl rfl (Zl rfl (Zf rfl (congrArg Value.bool hc102)) rfl rfl (Zl rfl (Zf rfl (congrArg Value.bool hc102)) rfl rfl (Zl rfl (Zf rfl (congrArg Value.bool hc102)) rfl rfl (Za rfl rfl (Zs (v := Value.bool (true)) rfl (congrArg Value.bool hc102) rfl (Za rfl rfl (Zm (v := Value.bool (true)) rfl rfl (Zl rfl (Zf rfl rfl) rfl rfl (Zl rfl (Zf rfl rfl) rfl rfl ?_)))))))))
   refine Zl rfl (Zf rfl rfl) rfl rfl (Zl rfl (Zf rfl rfl) rfl rfl (Za rfl rfl (Zs (v := Value.bool (true)) rfl rfl rfl (Zb (Ze ?_)))))
   have e102 := Zu ht100
   subst z100
   exact ⟨s103, (Zt l100 l101), hS102, rfl, rfl⟩
  replace hc102 := Zk hc102
  refine WL_run rfl (Zf rfl (congrArg Value.bool hc102)) rfl (Zp F55_0 rfl rfl rfl (WL_run rfl (Zf rfl (congrArg Value.bool hc102)) rfl (Zn (hS102) A22 rfl rfl rfl ?_)))
  obtain ⟨y103, q102, ht100⟩ := Zg ht100
  refine WL_run rfl (Zf rfl (congrArg Value.bool hc102)) rfl (Exec.call rfl rfl Try.func32 rfl N32 (Zi rfl (Zi rfl args_nil)) ((base_Many_sim q102 hS102 (a3.mono (Zt l100 l101))).mono ?_))
  rintro _ w103 ⟨_, rfl, ⟨s104, l102, hS103, rfl⟩⟩
  refine ⟨_, rfl, ?_⟩
  refine WL_run rfl (Zf rfl (congrArg Value.bool hc102)) rfl (Exec.gtr rfl rfl rfl (Za rfl rfl (Exec.pick_f (v := Value.bool (decide (100 < y103))) rfl (congrArg Value.bool hc102) rfl (Za rfl rfl (Zm (v := Value.bool (decide (100 < y103))) rfl rfl ?_)))))
  rcases ite_some ht100 with ⟨hc103, ht100⟩ | ⟨hc103, ht100⟩
  ·refine Zl rfl (Zf rfl (congrArg Value.bool hc103)) rfl rfl (Zl rfl (Zf rfl (congrArg Value.bool hc103)) rfl rfl (Zl rfl (Zf rfl (congrArg Value.bool hc103)) rfl rfl (Zl rfl (Zf rfl (congrArg Value.bool hc103)) rfl rfl (Za rfl rfl (Zs (v := Value.bool (true)) rfl (congrArg Value.bool hc103) rfl (Zb (Ze ?_)))))))
   have e103 := Zu ht100
   subst z100
   exact ⟨s104, (Zt (Zt l100 l101) l102), hS103, rfl, rfl⟩
  replace hc103 := Zk hc103
  refine WL_run rfl (Zf rfl (congrArg Value.bool hc103)) rfl (Zp F55_3 rfl rfl rfl (WL_run rfl (Zf rfl (congrArg Value.bool hc103)) rfl (Zn (hS103) A53 rfl rfl rfl (WL_run rfl (Zf rfl (congrArg Value.bool hc103)) rfl (Zr S53 rfl rfl (a9.mono (Zt (Zt l100 l101) l102)) (WL_run rfl (Zf rfl (congrArg Value.bool hc103)) rfl (Exec.gtr rfl rfl rfl (Za rfl rfl (Exec.pick_f (v := Value.bool (decide (8 < (t1.Ops.length : Int)))) rfl (congrArg Value.bool hc103) rfl (Zb (Ze ?_)))))))))))
  have e104 := Zu ht100
  subst z100
  exact ⟨s104, (Zt (Zt l100 l101) l102), hS103, rfl, rfl⟩
 intro f100 w104 hM100
 obtain ⟨s105, l103, hS104, p100, p101⟩ := hM100
 refine (Ze ?_)
 rcases ite_some hm with ⟨hc104, hm⟩ | ⟨hc104, hm⟩
 ·refine W_cond_t p101 hc104 (Zc (Zd ?_))
  obtain ⟨y104, q103, hm⟩ := Zg hm
  refine Za rfl rfl (Exec.call rfl rfl Try.func10 rfl N10 args_nil ((law44_awake_sim q103 hS104 ).mono ?_))
  rintro _ w105 ⟨_, rfl, ⟨s106, l104, hS105, rfl⟩⟩
  refine ⟨_, rfl, ?_⟩
  refine Za rfl rfl (Zo (v := Value.bool (y104)) rfl rfl (Zb (Ze (W_ret (at_ret ?_)))))
  have e105 := Zu hm
  subst r
  refine ⟨_, ret1 rfl, ?_⟩
  have hS106 := (hS105).drop
  exact ⟨s106, (Zt l103 l104), hS106, rfl⟩
 refine W_cond_f p101 hc104 ?_
 replace hc104 := Zk hc104
 refine W_skip (Ze (Zc (Zd (Za rfl rfl (Exec.load_box_agg (ds := [v2, v4, v6, v8]) (hS104) A55 rfl p100 rfl ?_)))))
 obtain ⟨t100, q104, hm⟩ := Zg hm
 obtain ⟨y105, y106⟩ := t100
 replace hm := un2_eq hm
 refine Za rfl rfl (Exec.call rfl rfl Try.func28 rfl N28 (Zi rfl (Zi rfl args_nil)) ((transys_Atomic_sim q104 hS104 (a3.mono l103) (a5.mono l103) (a7.mono l103) (a9.mono l103)).mono ?_))
 rintro _ w106 ⟨_, rfl, ⟨s107, v100, v101, v102, l105, hS107, rfl, r100, r101, r102⟩⟩
 refine ⟨_, rfl, ?_⟩
 refine Za rfl rfl (Zm (v := Value.tuple #[Value.agg #[Value.int .i64 (y106.States), Value.int .i64 (y106.Init), v100, v101, v102], errV 39 (y105)]) rfl rfl (Za rfl rfl (Exec.extract (v := Value.agg #[Value.int .i64 (y106.States), Value.int .i64 (y106.Init), v100, v101, v102]) rfl rfl rfl (Za rfl rfl (Exec.extract (v := errV 39 (y105)) rfl rfl rfl (Za rfl rfl (Exec.alloc (cs := [Value.int .i64 (0), Value.int .i64 (0), Value.slice none 0 0, Value.slice none 0 0, Value.slice none 0 0]) hS107 Z26 rfl rfl ?_)))))))
 intro b101 w107 hS108
 refine Za rfl rfl (Exec.store_box (ds := [Value.int .i64 (y106.States), Value.int .i64 (y106.Init), v100, v101, v102]) (es := [Value.int .i64 (y106.States), Value.int .i64 (y106.Init), v100, v101, v102]) hS108 A26 rfl rfl rfl rfl (Zj rfl (Zj rfl (Zj (r100).one (Zj (r101).one (Zj (r102).one one_nil))))) (Nat.le_of_ble_eq_true rfl) rfl ?_)
 intro w108 hS109
 refine Za rfl rfl (Zo (v := errV 39 (y105)) rfl rfl (Zb (Ze (Zc (Zc (Zd (Za rfl rfl (Zo (v := Value.int .i64 (1)) rfl rfl (Zb (Ze ?_))))))))))
 obtain ⟨c100, hB100, hr100, hn100, hb100⟩ := ctl_some hm
 refine W_mid (M := fun f' w' => ∃ s', (c100 = .next s' ∨ c100 = .brk s') ∧ (un7 fun (e106 : (Option Int)) (v103 : Int) (z101 : Int) (z102 : Int) (z103 : (List Int)) (z104 : (List Edge)) (z105 : (List Bool)) => ∃ (s108 : PHeap) (v104 : Value) (v105 : Value) (v106 : Value), PHeap.le s107 s108 ∧ St w0 s108 (Res.box b100 55 [v2, v4, v6, v8] :: Res.box b101 26 [Value.int .i64 (z101), Value.int .i64 (z102), v104, v105, v106] :: H) w' ∧ f' 1 = Value.pointer (some ⟨b100, 0, none⟩) ∧ f' 3 = Value.pointer (some ⟨b101, 0, none⟩) ∧ f' 4 = errV 39 (e106) ∧ f' 5 = Value.int .i64 (v103) ∧ SliceRep (encInt .i64) s108 v104 z103 ∧ SliceRep encEdge s108 v105 z104 ∧ SliceRep encBool s108 v106 z105) s') ?_ ?_
 ·refine W_block (W_while (fun s' f' w' => (un7 fun (e107 : (Option Int)) (v107 : Int) (z106 : Int) (z107 : Int) (z108 : (List Int)) (z109 : (List Edge)) (z110 : (List Bool)) => ∃ (s109 : PHeap) (v108 : Value) (v109 : Value) (v110 : Value), PHeap.le s107 s109 ∧ St w0 s109 (Res.box b100 55 [v2, v4, v6, v8] :: Res.box b101 26 [Value.int .i64 (z106), Value.int .i64 (z107), v108, v109, v110] :: H) w' ∧ f' 1 = Value.pointer (some ⟨b100, 0, none⟩) ∧ f' 3 = Value.pointer (some ⟨b101, 0, none⟩) ∧ f' 4 = errV 39 (e107) ∧ f' 5 = Value.int .i64 (v107) ∧ SliceRep (encInt .i64) s109 v108 z108 ∧ SliceRep encEdge s109 v109 z109 ∧ SliceRep encBool s109 v110 z110) s') hB100 ?_ ?_)
  ·have hS110 := (hS109).f1
   exact ⟨s107, v100, v101, v102, (Zv _), hS110, p100, rfl, rfl, rfl, r100, r101, r102⟩
  intro t101 c101 f101 w109 hI100 hm100 hres100
  obtain ⟨e107, v107, z106, z107, z108, z109, z110⟩ := t101
  replace hm100 := un7_eq hm100
  obtain ⟨s110, v108, v109, v110, l106, hS111, p102, p103, p104, p105, hr_v100, hr_v101, hr_v102⟩ := hI100
  refine Zc (Zc (W_mid (M := fun f' w' => ∃ (s111 : PHeap) , PHeap.le s110 s111 ∧ St w0 s111 (Res.box b100 55 [v2, v4, v6, v8] :: Res.box b101 26 [Value.int .i64 (z106), Value.int .i64 (z107), v108, v109, v110] :: H) w' ∧ f' 1 = Value.pointer (some ⟨b100, 0, none⟩) ∧ f' 3 = Value.pointer (some ⟨b101, 0, none⟩) ∧ f' 4 = errV 39 (e107) ∧ f' 5 = Value.int .i64 (v107) ∧ f' 49 = Value.bool (((decide (v107 < (t1.Vars.length : Int))) && e107.isNone))) ?_ ?_))
  ·refine Zd (Za rfl rfl (Zm (v := Value.int .i64 (v107)) rfl p105 (Za rfl rfl (Zp F55_0 rfl p102 rfl (Za rfl rfl (Zn (hS111) A22 rfl rfl rfl (Za rfl rfl (Zr S22 rfl rfl (a3.mono (Zt (Zt l103 l105) l106)) (Za rfl rfl (Zq rfl rfl rfl (Za rfl rfl (Zm (v := Value.bool (decide (v107 < (t1.Vars.length : Int)))) rfl rfl ?_))))))))))))
   by_cases hc105 : (decide (v107 < (t1.Vars.length : Int))) = true
   ·refine WL_run rfl (Zf rfl (congrArg Value.bool hc105)) rfl (Zm (v := errV 39 (e107)) rfl p104 (WL_run rfl (Zf rfl (congrArg Value.bool hc105)) rfl (Exec.err_eql_nil (T := 39) Try.underlying30 rfl rfl rfl (Za rfl rfl (Zs (v := Value.bool (e107.isNone)) rfl (congrArg Value.bool hc105) rfl (Zb (Ze ?_)))))))
    have hS112 := (hS111).f1
    have hS113 := (hS112).f1
    exact ⟨s110, (Zv _), hS113, p102, p103, p104, p105, (congrArg Value.bool (and_t hc105)).symm⟩
   replace hc105 := Zk hc105
   refine Zl rfl (Zf rfl (congrArg Value.bool hc105)) rfl rfl (Zl rfl (Zf rfl (congrArg Value.bool hc105)) rfl rfl (Za rfl rfl (Exec.pick_f (v := Value.bool (false)) rfl (congrArg Value.bool hc105) rfl (Zb (Ze ?_)))))
   have hS114 := (hS111).f1
   have hS115 := (hS114).f1
   exact ⟨s110, (Zv _), hS115, p102, p103, p104, p105, (congrArg Value.bool (and_f hc105)).symm⟩
  intro f102 w110 hM101
  obtain ⟨s112, l107, hS116, p106, p107, p108, p109, p110⟩ := hM101
  refine (Ze ?_)
  rcases ite_some hm100 with ⟨hc106, hm100⟩ | ⟨hc106, hm100⟩
  ·refine W_cond_t p110 hc106 (W_skip (Ze (Zc (W_block (Zc (Zd (Za rfl rfl (Exec.alloc (cs := [Value.int .i64 (0), Value.int .i64 (0), Value.slice none 0 0, Value.slice none 0 0, Value.slice none 0 0]) hS116 Z26 rfl rfl ?_))))))))
   intro b102 w111 hS117
   refine Zb (Ze (Zc (Zd (Za rfl rfl (Exec.load_box_agg (ds := [v2, v4, v6, v8]) ((hS117).f1) A55 rfl p106 rfl (Za rfl rfl (Zm (v := Value.int .i64 (v107)) rfl p109 ?_)))))))
   obtain ⟨t102, q105, hm100⟩ := Zg hm100
   obtain ⟨y107, y108⟩ := t102
   replace hm100 := un2_eq hm100
   refine Za rfl rfl (Exec.call rfl rfl Try.func28 rfl N28 (Zi rfl (Zi rfl args_nil)) ((transys_Atomic_sim q105 hS117 (a3.mono (Zt (Zt (Zt l103 l105) l106) l107)) (a5.mono (Zt (Zt (Zt l103 l105) l106) l107)) (a7.mono (Zt (Zt (Zt l103 l105) l106) l107)) (a9.mono (Zt (Zt (Zt l103 l105) l106) l107))).mono ?_))
   rintro _ w112 ⟨_, rfl, ⟨s113, v111, v112, v113, l108, hS118, rfl, r103, r104, r105⟩⟩
   refine ⟨_, rfl, ?_⟩
   refine Za rfl rfl (Zm (v := Value.tuple #[Value.agg #[Value.int .i64 (y108.States), Value.int .i64 (y108.Init), v111, v112, v113], errV 39 (y107)]) rfl rfl (Za rfl rfl (Exec.extract (v := Value.agg #[Value.int .i64 (y108.States), Value.int .i64 (y108.Init), v111, v112, v113]) rfl rfl rfl (Za rfl rfl (Exec.extract (v := errV 39 (y107)) rfl rfl rfl (Za rfl rfl (Exec.store_box (ds := [Value.int .i64 (y108.States), Value.int .i64 (y108.Init), v111, v112, v113]) (es := [Value.int .i64 (y108.States), Value.int .i64 (y108.Init), v111, v112, v113]) hS118 A26 rfl rfl rfl rfl (Zj rfl (Zj rfl (Zj (r103).one (Zj (r104).one (Zj (r105).one one_nil))))) (Nat.le_of_ble_eq_true rfl) rfl ?_)))))))
   intro w113 hS119
   refine Za rfl rfl (Zo (v := errV 39 (y107)) rfl rfl (Zb (Ze (Zc (Zd (Za rfl rfl (Zm (v := errV 39 (y107)) rfl rfl (Za rfl rfl (Exec.err_eql_nil (T := 39) Try.underlying30 rfl rfl rfl (Zb (Ze ?_)))))))))))
   obtain ⟨t103, ht101, hm100⟩ := Zg hm100
   refine W_mid (M := fun f' w' => (un6 fun (e108 : (Option Int)) (z111 : Int) (z112 : Int) (z113 : (List Int)) (z114 : (List Edge)) (z115 : (List Bool)) => ∃ (s114 : PHeap) (v114 : Value) (v115 : Value) (v116 : Value), PHeap.le s113 s114 ∧ St w0 s114 (Res.box b100 55 [v2, v4, v6, v8] :: Res.box b101 26 [Value.int .i64 (z111), Value.int .i64 (z112), v114, v115, v116] :: H) w' ∧ f' 1 = Value.pointer (some ⟨b100, 0, none⟩) ∧ f' 3 = Value.pointer (some ⟨b101, 0, none⟩) ∧ f' 4 = errV 39 (e108) ∧ f' 5 = Value.int .i64 (v107) ∧ SliceRep (encInt .i64) s114 v114 z113 ∧ SliceRep encEdge s114 v115 z114 ∧ SliceRep encBool s114 v116 z115) t103) ?_ ?_
   ·rcases ite_some ht101 with ⟨hc107, ht101⟩ | ⟨hc107, ht101⟩
    ·refine W_cond_t rfl hc107 (Zd (Za rfl rfl (Exec.load_box_agg (ds := [Value.int .i64 (z106), Value.int .i64 (z107), v108, v109, v110]) ((hS119).f2) A26 rfl p107 rfl (Za rfl rfl (Exec.load_box_agg (ds := [Value.int .i64 (y108.States), Value.int .i64 (y108.Init), v111, v112, v113]) (hS119) A26 rfl rfl rfl ?_)))))
     obtain ⟨t104, q106, ht101⟩ := Zg ht101
     obtain ⟨y109, y110⟩ := t104
     replace ht101 := un2_eq ht101
     refine Za rfl rfl (Exec.call rfl rfl Try.func12 rfl N12 (Zi rfl (Zi rfl args_nil)) ((transys_Product_sim q106 hS119 (hr_v100.mono (Zt l107 l108)) (hr_v101.mono (Zt l107 l108)) (hr_v102.mono (Zt l107 l108)) r103 r104 r105).mono ?_))
     rintro _ w114 ⟨_, rfl, ⟨s115, v117, v118, v119, l109, hS120, rfl, r106, r107, r108⟩⟩
     refine ⟨_, rfl, ?_⟩
     refine Za rfl rfl (Zm (v := Value.tuple #[Value.agg #[Value.int .i64 (y110.States), Value.int .i64 (y110.Init), v117, v118, v119], errV 39 (y109)]) rfl rfl (Za rfl rfl (Exec.extract (v := Value.agg #[Value.int .i64 (y110.States), Value.int .i64 (y110.Init), v117, v118, v119]) rfl rfl rfl (Za rfl rfl (Exec.extract (v := errV 39 (y109)) rfl rfl rfl ?_)))))
     have hS121 := (hS120).f2
     refine Za rfl rfl (Exec.store_box (ds := [Value.int .i64 (y110.States), Value.int .i64 (y110.Init), v117, v118, v119]) (es := [Value.int .i64 (y110.States), Value.int .i64 (y110.Init), v117, v118, v119]) hS121 A26 rfl p107 rfl rfl (Zj rfl (Zj rfl (Zj (r106).one (Zj (r107).one (Zj (r108).one one_nil))))) (Nat.le_of_ble_eq_true rfl) rfl ?_)
     intro w115 hS122
     refine Za rfl rfl (Zo (v := errV 39 (y109)) rfl rfl (Zb (Ze ?_)))
     have e109 := Zu ht101
     subst t103
     have hS123 := ((hS122).f1).drop
     have hS124 := (hS123).f1
     exact ⟨s115, v117, v118, v119, l109, hS124, p106, p107, rfl, p109, r106, r107, r108⟩
    refine W_cond_f rfl hc107 ?_
    replace hc107 := Zk hc107
    refine W_skip (Ze ?_)
    have e110 := Zu ht101
    subst t103
    have hS125 := (hS119).drop
    have hS126 := (hS125).f1
    have hS127 := (hS126).f1
    exact ⟨s113, v108, v109, v110, (Zv _), hS127, p106, p107, rfl, p109, (hr_v100.mono (Zt l107 l108)), (hr_v101.mono (Zt l107 l108)), (hr_v102.mono (Zt l107 l108))⟩
   intro f103 w116 hM102
   obtain ⟨e108, z111, z112, z113, z114, z115⟩ := t103
   replace hm100 := un6_eq hm100
   obtain ⟨s116, v114, v115, v116, l110, hS128, p111, p112, p113, p114, hr_v103, hr_v104, hr_v105⟩ := hM102
   refine (ib_normal (Ze (Zd (Za rfl rfl (Zm (v := Value.int .i64 (v107)) rfl p114 (Za rfl rfl (Exec.add rfl rfl rfl (Za rfl rfl (Zo (v := Value.int .i64 (IntKind.i64.wrap (v107 + 1))) rfl rfl (Zb (Ze ?_)))))))))))
   have e111 := Zu hm100
   subst c101
   have hS129 := (hS128).f1
   have hS130 := (hS129).f1
   refine ⟨_, rfl, ?_⟩; exact ⟨s116, v114, v115, v116, (Zt (Zt (Zt l106 l107) l108) l110), hS130, p111, p112, p113, rfl, hr_v103, hr_v104, hr_v105⟩
  refine W_cond_f p110 hc106 ?_
  replace hc106 := Zk hc106
  refine W_exit (at_exit (at_exit (ib_here (Ze ?_))))
  have e112 := Zu hm100
  subst c101
  have hS131 := (hS116).f1
  have hS132 := (hS131).f1
  refine ⟨_, .inr (hres100 (by intro _ h; cases h)), ?_⟩; exact ⟨s112, v108, v109, v110, (Zt l106 l107), hS132, p106, p107, p108, p109, (hr_v100.mono l107), (hr_v101.mono l107), (hr_v102.mono l107)⟩
 rintro f104 w117 ⟨t105, hc108, hM103⟩
 have hm := hc108.elim (hn100 _) (hb100 _)
 clear hc108
 obtain ⟨e106, v103, z101, z102, z103, z104, z105⟩ := t105
 replace hm := un7_eq hm
 obtain ⟨s117, v104, v105, v106, l111, hS133, p115, p116, p117, p118, hr_v106, hr_v107, hr_v108⟩ := hM103
 refine (Ze (Zc (Zc (Zd (Za rfl rfl (Zm (v := errV 39 (e106)) rfl p117 (Za rfl rfl (Exec.err_neq_nil (T := 39) Try.underlying30 rfl rfl rfl (Zb (Ze ?_))))))))))
 rcases ite_some hm with ⟨hc109, hm⟩ | ⟨hc109, hm⟩
 ·refine W_cond_t rfl hc109 (Zc (Zd (Za rfl rfl (Zo (v := Value.bool (false)) rfl rfl (Zb (Ze (W_ret (at_ret ?_))))))))
  have e113 := Zu hm
  subst r
  refine ⟨_, ret1 rfl, ?_⟩
  have hS134 := (hS133).drop
  have hS135 := (hS134).drop
  exact ⟨s117, (Zt (Zt l103 l105) l111), hS135, rfl⟩
 refine W_cond_f rfl hc109 ?_
 replace hc109 := Zk hc109
 refine W_skip (Ze (Zc (Zd (Za rfl rfl (Exec.load_box_agg (ds := [Value.int .i64 (z101), Value.int .i64 (z102), v104, v105, v106]) ((hS133).f1) A26 rfl p116 rfl ?_)))))
 obtain ⟨t106, q107, hm⟩ := Zg hm
 obtain ⟨y111, y112⟩ := t106
 replace hm := un2_eq hm
 refine Za rfl rfl (Exec.call rfl rfl Try.func18 rfl N18 (Zi rfl args_nil) ((transys_Distances_sim q107 hS133 hr_v106 hr_v107 hr_v108).mono ?_))
 rintro _ w118 ⟨_, rfl, ⟨s118, v120, l112, hS136, rfl, r109⟩⟩
 refine ⟨_, rfl, ?_⟩
 refine Za rfl rfl (Zm (v := Value.tuple #[v120, errV 39 (y112)]) rfl rfl (Za rfl rfl (Exec.extract (v := v120) rfl rfl rfl (Za rfl rfl (Exec.extract (v := errV 39 (y112)) rfl rfl rfl (Za rfl rfl (Zo (v := v120) rfl rfl (Za rfl rfl (Zo (v := errV 39 (y112)) rfl rfl (Zb (Ze (Zc (Zd ?_)))))))))))))
 refine Za rfl rfl (Exec.load_box_agg (ds := [v2, v4, v6, v8]) (hS136) A55 rfl p115 rfl ?_)
 obtain ⟨y113, q108, hm⟩ := Zg hm
 refine Za rfl rfl (Exec.call rfl rfl Try.func33 rfl N33 (Zi rfl (Zi rfl args_nil)) ((base_Distances_nil_sim q108 hS136 (a3.mono (Zt (Zt (Zt l103 l105) l111) l112)) (a5.mono (Zt (Zt (Zt l103 l105) l111) l112)) (a7.mono (Zt (Zt (Zt l103 l105) l111) l112)) (a9.mono (Zt (Zt (Zt l103 l105) l111) l112))).mono ?_))
 rintro _ w119 ⟨v121, rfl, ⟨s119, _, l113, hS137, rfl, r110⟩⟩
 refine ⟨_, rfl, ?_⟩
 refine Za rfl rfl (Zo (v := v121) rfl rfl (Zb (Ze (Zc (Zc (W_mid (M := fun f' w' => ∃ (s120 : PHeap) , PHeap.le s119 s120 ∧ St w0 s120 (Res.box b100 55 [v2, v4, v6, v8] :: H) w' ∧ f' 1 = Value.pointer (some ⟨b100, 0, none⟩) ∧ f' 7 = v120 ∧ f' 8 = v121 ∧ f' 83 = Value.bool ((y112.isSome || !decide ((y111.length : Int) = (y113.length : Int))))) ?_ ?_))))))
 ·refine Zd (Za rfl rfl (Zm (v := errV 39 (y112)) rfl rfl (Za rfl rfl (Exec.err_neq_nil (T := 39) Try.underlying30 rfl rfl rfl (Za rfl rfl (Zm (v := Value.bool (y112.isSome)) rfl rfl ?_))))))
  by_cases hc110 : y112.isSome = true
  ·refine Zl rfl (Zf rfl (congrArg Value.bool hc110)) rfl rfl (Zl rfl (Zf rfl (congrArg Value.bool hc110)) rfl rfl (Zl rfl (Zf rfl (congrArg Value.bool hc110)) rfl rfl (Zl rfl (Zf rfl (congrArg Value.bool hc110)) rfl rfl (Zl rfl (Zf rfl (congrArg Value.bool hc110)) rfl rfl (Za rfl rfl (Zs (v := Value.bool (true)) rfl (congrArg Value.bool hc110) rfl (Zb (Ze ?_))))))))
   have hS138 := ((hS137).f1).drop
   exact ⟨s119, (Zv _), hS138, p115, rfl, rfl, (congrArg Value.bool (or_t hc110)).symm⟩
  replace hc110 := Zk hc110
  refine WL_run rfl (Zf rfl (congrArg Value.bool hc110)) rfl (Zm (v := v120) rfl rfl (WL_run rfl (Zf rfl (congrArg Value.bool hc110)) rfl (Zr S22 rfl rfl (r109.mono l113) (WL_run rfl (Zf rfl (congrArg Value.bool hc110)) rfl (Zm (v := v121) rfl rfl (WL_run rfl (Zf rfl (congrArg Value.bool hc110)) rfl (Zr S22 rfl rfl r110 (WL_run rfl (Zf rfl (congrArg Value.bool hc110)) rfl (Exec.neq rfl rfl rfl (Za rfl rfl (Exec.pick_f (v := Value.bool (!decide ((y111.length : Int) = (y113.length : Int)))) rfl (congrArg Value.bool hc110) rfl (Zb (Ze ?_)))))))))))))
  have hS139 := ((hS137).f1).drop
  exact ⟨s119, (Zv _), hS139, p115, rfl, rfl, (congrArg Value.bool (or_f hc110)).symm⟩
 intro f105 w120 hM104
 obtain ⟨s121, l114, hS140, p119, p120, p121, p122⟩ := hM104
 refine (Ze ?_)
 rcases ite_some hm with ⟨hc111, hm⟩ | ⟨hc111, hm⟩
 ·refine W_cond_t p122 hc111 (Zc (Zd (Za rfl rfl (Zo (v := Value.bool (false)) rfl rfl (Zb (Ze (W_ret (at_ret ?_))))))))
  have e114 := Zu hm
  subst r
  refine ⟨_, ret1 rfl, ?_⟩
  have hS141 := (hS140).drop
  exact ⟨s121, (Zt (Zt (Zt (Zt (Zt l103 l105) l111) l112) l113) l114), hS141, rfl⟩
 refine W_cond_f p122 hc111 ?_
 replace hc111 := Zk hc111
 refine W_skip (Ze (Zc (Zc (Zd (Za rfl rfl (Zm (v := v120) rfl p120 (Za rfl rfl (Zr S22 rfl rfl (r109.mono (Zt l113 l114)) (Za rfl rfl (Zm (v := Value.int .i64 (0)) rfl rfl (Zb (Ze ?_))))))))))))
 obtain ⟨c102, hB101, hr101, hn101, hb101⟩ := ctl_some hm
 refine W_mid (M := fun f' w' => ∃ s', (c102 = .next s' ∨ c102 = .brk s') ∧ (fun (_ : Unit) => ∃ (s122 : PHeap) , PHeap.le s121 s122 ∧ St w0 s122 (Res.box b100 55 [v2, v4, v6, v8] :: H) w' ∧ f' 1 = Value.pointer (some ⟨b100, 0, none⟩) ∧ f' 7 = v120 ∧ f' 8 = v121 ∧ f' 85 = Value.int .i64 ((y111.length : Int))) s') ?_ ?_
 ·refine W_block (W_forC (fun k' s' f' w' => (fun (_ : Unit) => ∃ (s123 : PHeap) , PHeap.le s121 s123 ∧ St w0 s123 (Res.box b100 55 [v2, v4, v6, v8] :: H) w' ∧ f' 1 = Value.pointer (some ⟨b100, 0, none⟩) ∧ f' 7 = v120 ∧ f' 8 = v121 ∧ f' 85 = Value.int .i64 ((y111.length : Int)) ∧ f' 86 = Value.int .i64 (k' : Int)) s') hB101 ?_ ?_ ?_)
  ·exact ⟨s121, (Zv _), hS140, p119, p120, p121, rfl, rfl⟩
  ·intro i100 t107 c103 f106 w121 hi100 hI101 hm101 hres101
   obtain ⟨s124, l115, hS142, p123, p124, p125, p126, x100⟩ := hI101
   refine Zc (Zd (Za rfl rfl (Zq rfl x100 p126 (Zb (Ze (Zc (W_true (congrArg Value.bool (decide_eq_true (by omega))) (W_skip (Ze (Zc ?_))))))))))
   refine W_block (Zc (Zd (Za rfl rfl (Zm (v := Value.int .i64 ((i100 : Int))) rfl x100 (Za rfl rfl (Zo (v := Value.int .i64 ((i100 : Int))) rfl rfl (Zb (Ze (Zc ?_)))))))))
   obtain ⟨z116, ht102, hm101⟩ := Zg hm101
   refine W_mid (M := fun f' w' => (fun (z116 : Bool) => ∃ (s125 : PHeap) , PHeap.le s124 s125 ∧ St w0 s125 (Res.box b100 55 [v2, v4, v6, v8] :: H) w' ∧ f' 1 = Value.pointer (some ⟨b100, 0, none⟩) ∧ f' 7 = v120 ∧ f' 8 = v121 ∧ f' 85 = Value.int .i64 ((y111.length : Int)) ∧ f' 86 = Value.int .i64 ((i100 : Int)) ∧ f' 112 = Value.bool (z116)) z116) ?_ ?_
   ·refine W_dl (n0 := 24) (.q 0 (.q 1 (.q 2 (.q 3 (.q 4 (.q 5 (.q 6 (.q 7 (.q 8 (.q 9 (.q 10 (.e 11 [] (.q 12 (.q 13 (.q 14 (.q 15 (.q 16 (.q 17 (.q 18 (.q 19 (.q 20 (.q 21 (.q 22 (.q 23 .done)))))))))))))))))))))))) hmix (by kernel_rfl) (by kernel_rfl) ?_
    have hS143 := hS142.drew
    refine DL_q rfl rfl (Zm (v := v120) rfl p124 ⟨rfl, ?_⟩)
    refine DL_q rfl rfl (Zm (v := Value.int .i64 ((i100 : Int))) rfl rfl ⟨rfl, ?_⟩)
    obtain ⟨x101, q109, ht102⟩ := Zg ht102
    refine DL_q rfl rfl (Exec.index_repE S22 rfl rfl rfl (r109.mono (Zt (Zt l113 l114) l115)) q109 ?_)
    intro b103 o100 a100 e115
    refine ⟨rfl, ?_⟩
    refine DL_q rfl rfl (Zw (E := (encInt .i64)) hS143 A3 rfl rfl rfl a100 ?_)
    intro v122 q110
    obtain rfl := encInt_val.1 q110
    refine ⟨rfl, ?_⟩
    refine DL_q rfl rfl (Zm (v := v121) rfl p125 ⟨rfl, ?_⟩)
    refine DL_q rfl rfl (Zm (v := Value.int .i64 ((i100 : Int))) rfl rfl ⟨rfl, ?_⟩)
    obtain ⟨x102, q111, ht102⟩ := Zg ht102
    refine DL_q rfl rfl (Exec.index_repE S22 rfl rfl rfl (r110.mono (Zt l114 l115)) q111 ?_)
    intro b104 o101 a101 e116
    refine ⟨rfl, ?_⟩
    refine DL_q rfl rfl (Zw (E := (encInt .i64)) hS143 A3 rfl rfl rfl a101 ?_)
    intro v123 q112
    obtain rfl := encInt_val.1 q112
    refine ⟨rfl, ?_⟩
    refine DL_q rfl rfl (Exec.gtr rfl rfl rfl ⟨rfl, ?_⟩)
    refine DL_q rfl rfl (Zm (v := Value.bool (decide (x102 < x101))) rfl rfl ⟨rfl, ?_⟩)
    rcases ite_some ht102 with ⟨hc112, ht102⟩ | ⟨hc112, ht102⟩
    ·refine DL_qp rfl rfl (Zf rfl (congrArg Value.bool hc112)) rfl (DL_ep rfl rfl (Zf rfl (congrArg Value.bool hc112)) rfl (DL_qp rfl rfl (Zf rfl (congrArg Value.bool hc112)) rfl (DL_qn rfl rfl (Zh rfl rfl) (DL_qn rfl rfl (Zh rfl rfl) (DL_qn rfl rfl (Zh rfl rfl) (DL_qn rfl rfl (Zh rfl rfl) (DL_qn rfl rfl (Zh rfl rfl) ?_)))))))
     refine DL_qn rfl rfl (Zh rfl rfl) (DL_qn rfl rfl (Zh rfl rfl) (DL_qn rfl rfl (Zh rfl rfl) (DL_qn rfl rfl (Zh rfl rfl) (DL_qp rfl rfl (Zf rfl (congrArg Value.bool hc112)) rfl (DL_q rfl rfl (Zs (v := Value.bool (true)) rfl (congrArg Value.bool hc112) rfl ⟨rfl, ?_⟩))))))
     refine DL_done (Zb (Ze ?_))
     have e117 := Zu ht102
     subst z116
     exact ⟨s124, (Zv _), hS143, p123, p124, p125, p126, x100, rfl⟩
    replace hc112 := Zk hc112
    refine DL_qg rfl rfl (Zf rfl (congrArg Value.bool hc112)) (Exec.load_box_agg (ds := [v2, v4, v6, v8]) (hS143) A55 rfl p123 rfl ⟨rfl, ?_⟩)
    obtain ⟨y114, q113, ht102⟩ := Zg ht102
    refine DL_eg rfl rfl (Zf rfl (congrArg Value.bool hc112)) (Exec.call rfl rfl Try.func34 rfl N34 (Zi rfl args_nil) ((law44_Own_sim q113 hS143 (a3.mono (Zt (Zt (Zt (Zt (Zt (Zt l103 l105) l111) l112) l113) l114) l115)) (a5.mono (Zt (Zt (Zt (Zt (Zt (Zt l103 l105) l111) l112) l113) l114) l115)) (a7.mono (Zt (Zt (Zt (Zt (Zt (Zt l103 l105) l111) l112) l113) l114) l115)) (a9.mono (Zt (Zt (Zt (Zt (Zt (Zt l103 l105) l111) l112) l113) l114) l115))).mono ?_))
    rintro _ w122 ⟨_, rfl, ⟨s126, l116, hS144, rfl⟩⟩
    refine ⟨_, rfl, ?_⟩
    refine ⟨ag_nil, ?_⟩
    refine DL_qg rfl rfl (Zf rfl (congrArg Value.bool hc112)) (Zm (v := Value.bool (y114)) rfl rfl ⟨rfl, ?_⟩)
    rcases ite_some ht102 with ⟨hc113, ht102⟩ | ⟨hc113, ht102⟩
    ·refine DL_qg rfl rfl (Zf rfl (congrArg Value.bool hc113)) (Zm (v := v120) rfl p124 ⟨rfl, ?_⟩)
     refine DL_qg rfl rfl (Zf rfl (congrArg Value.bool hc113)) (Zm (v := Value.int .i64 ((i100 : Int))) rfl rfl ⟨rfl, ?_⟩)
     refine DL_qg rfl rfl (Zf rfl (congrArg Value.bool hc113)) (Exec.index_repE S22 rfl rfl rfl (r109.mono (Zt (Zt (Zt l113 l114) l115) l116)) q109 ?_)
     intro b105 o102 a102 e118
     refine ⟨rfl, ?_⟩
     refine DL_qg rfl rfl (Zf rfl (congrArg Value.bool hc113)) (Zw (E := (encInt .i64)) hS144 A3 rfl rfl rfl a102 ?_)
     intro v124 q114
     obtain rfl := encInt_val.1 q114
     refine ⟨rfl, ?_⟩
     refine DL_qg rfl rfl (Zf rfl (congrArg Value.bool hc113)) (Zm (v := v121) rfl p125 ⟨rfl, ?_⟩)
     refine DL_qg rfl rfl (Zf rfl (congrArg Value.bool hc113)) (Zm (v := Value.int .i64 ((i100 : Int))) rfl rfl ⟨rfl, ?_⟩)
     refine DL_qg rfl rfl (Zf rfl (congrArg Value.bool hc113)) (Exec.index_repE S22 rfl rfl rfl (r110.mono (Zt (Zt l114 l115) l116)) q111 ?_)
     intro b106 o103 a103 e119
     refine ⟨rfl, ?_⟩
     refine DL_qg rfl rfl (Zf rfl (congrArg Value.bool hc113)) (Zw (E := (encInt .i64)) hS144 A3 rfl rfl rfl a103 ?_)
     intro v125 q115
     obtain rfl := encInt_val.1 q115
     refine ⟨rfl, ?_⟩
     refine DL_qg rfl rfl (Zf rfl (congrArg Value.bool hc113)) (Exec.neq rfl rfl rfl ⟨rfl, ?_⟩)
     refine DL_qg rfl rfl (Zf rfl (congrArg Value.bool hc112)) (Zs (v := Value.bool (!decide (x101 = x102))) rfl (congrArg Value.bool hc113) rfl ⟨rfl, ?_⟩)
     refine DL_q rfl rfl (Exec.pick_f (v := Value.bool (!decide (x101 = x102))) rfl (congrArg Value.bool hc112) rfl ⟨rfl, ?_⟩)
     refine DL_done (Zb (Ze ?_))
     have e120 := Zu ht102
     subst z116
     exact ⟨s126, l116, hS144, p123, p124, p125, p126, x100, rfl⟩
    replace hc113 := Zk hc113
    refine DL_qp rfl rfl (Zf rfl (congrArg Value.bool hc113)) rfl (DL_qp rfl rfl (Zf rfl (congrArg Value.bool hc113)) rfl (DL_qp rfl rfl (Zf rfl (congrArg Value.bool hc113)) rfl (DL_qp rfl rfl (Zf rfl (congrArg Value.bool hc113)) rfl (DL_qp rfl rfl (Zf rfl (congrArg Value.bool hc113)) rfl (DL_qp rfl rfl (Zf rfl (congrArg Value.bool hc113)) rfl (DL_qp rfl rfl (Zf rfl (congrArg Value.bool hc113)) rfl (DL_qp rfl rfl (Zf rfl (congrArg Value.bool hc113)) rfl ?_)))))))
    refine DL_qp rfl rfl (Zf rfl (congrArg Value.bool hc113)) rfl (DL_qg rfl rfl (Zf rfl (congrArg Value.bool hc112)) (Exec.pick_f (v := Value.bool (false)) rfl (congrArg Value.bool hc113) rfl ⟨rfl, ?_⟩))
    refine DL_q rfl rfl (Exec.pick_f (v := Value.bool (false)) rfl (congrArg Value.bool hc112) rfl ⟨rfl, ?_⟩)
    refine DL_done (Zb (Ze ?_))
    have e121 := Zu ht102
    subst z116
    exact ⟨s126, l116, hS144, p123, p124, p125, p126, x100, rfl⟩
   intro f107 w123 hM105
   obtain ⟨s127, l117, hS145, p127, p128, p129, p130, p131, p132⟩ := hM105
   refine (Ze ?_)
   rcases ite_some hm101 with ⟨hc114, hm101⟩ | ⟨hc114, hm101⟩
   ·refine W_cond_t p132 hc114 (Zc (Zd (Za rfl rfl (Zo (v := Value.bool (false)) rfl rfl (Zb (Ze (W_ret (ib_ret (at_ret (at_ret (ib_ret (at_ret (at_ret ?_)))))))))))))
    have e122 := Zu hm101
    subst c103
    have hq100 := hr101 _ (hres101 (by intro _ h; cases h))
    have e123 := Zu hq100
    subst r
    refine ⟨_, ret1 rfl, ?_⟩
    have hS146 := (hS145).drop
    exact ⟨s127, (Zt (Zt (Zt (Zt (Zt (Zt (Zt l103 l105) l111) l112) l113) l114) l115) l117), hS146, rfl⟩
   refine W_cond_f p132 hc114 ?_
   replace hc114 := Zk hc114
   refine W_skip (ib_normal (Ze (Zd (Za rfl rfl (Exec.add rfl p131 rfl (Za rfl rfl (Zm (v := Value.int .i64 (IntKind.i64.wrap ((i100 : Int) + 1))) rfl rfl (Zb (Ze ?_)))))))))
   have e124 := Zu hm101
   subst c103
   refine ⟨_, rfl, ?_⟩; exact ⟨s127, (Zt l115 l117), hS145, p127, p128, p129, p130, (Eq.trans rfl (wrap_up hi100 (SliceRep.le (r109.mono (Zt l113 l114)))))⟩
  intro t108 f108 w124 hI102 hres102
  obtain ⟨s128, l118, hS147, p133, p134, p135, p136, x103⟩ := hI102
  refine Zc (Zd (Za rfl rfl (Zq rfl x103 p136 (Zb (Ze (Zc (W_false (congrArg Value.bool (decide_eq_false (by omega))) (W_exit (at_exit (at_exit (ib_here (Ze ?_))))))))))))
  refine ⟨_, .inl hres102, ?_⟩; exact ⟨s128, l118, hS147, p133, p134, p135, p136⟩
 rintro f109 w125 ⟨t109, hc115, hM106⟩
 have hm := hc115.elim (hn101 _) (hb101 _)
 clear hc115
 obtain ⟨s129, l119, hS148, p137, p138, p139, p140⟩ := hM106
 refine (Ze (Zc (Zd (Za rfl rfl (Zo (v := Value.bool (true)) rfl rfl (Zb (Ze (W_ret ?_))))))))
 have e125 := Zu hm
 subst r
 refine ⟨_, ret1 rfl, ?_⟩
 have hS149 := (hS148).drop
 exact ⟨s129, (Zt (Zt (Zt (Zt (Zt (Zt l103 l105) l111) l112) l113) l114) l119), hS149, rfl⟩
end Go.Pw
