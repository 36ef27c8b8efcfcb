/-
  The walks (printed by my generator).
-/
import Derived.Test.YtdhfofhginfdnaaWh1
set_option maxRecDepth 100000
set_option maxHeartbeats 4000000
set_option linter.unusedVariables false
namespace Go.Pw
open Go.Proofs
theorem base_Small_sim {w0 w : World} {s : PHeap} {H : List Res} {t100 : Task} {v100 : Value} {v101 : Value} {v102 : Value} {v103 : Value} {r : Bool} (hm : base_Small_p t100 = some r) (hS : St w0 s (H) w) (a100 : SliceRep (encInt .i64) s v100 t100.Vars) (a101 : SliceRep (encInt .i64) s v101 t100.Init) (a102 : SliceRep encFact s v102 t100.Goal) (a103 : SliceRep encOp s v103 t100.Ops) :
  Calls Try.prog 30 #[Value.agg #[v100, v101, v102, v103]] w fun e w' => ∃ v, e = .returned v ∧ ((fun (y100 : Bool) => ∃ (s100 : PHeap) , PHeap.le s s100 ∧ St w0 s100 (H) w' ∧ v = Value.bool (y100)) r) := by
 unfold base_Small_p at hm
 refine calls_of_W Try.func30 rfl rfl (Zc (Zd (Za rfl rfl (Exec.box (cs := [v100, v101, v102, v103]) hS rfl rfl rfl ?_))))
 intro b100 w100 hS100
 refine Za rfl rfl (Zo (v := Value.bool (false)) rfl rfl (Zb (Ze (Zc (Zc (W_mid (M := fun f' w' => ∃ (s101 : PHeap) , PHeap.le s s101 ∧ St w0 s101 (Res.box b100 55 [v100, v101, v102, v103] :: H) w' ∧ f' 1 = Value.pointer (some ⟨b100, 0, none⟩) ∧ f' 14 = Value.bool (((decide (12 < (t100.Vars.length : Int))) || decide (20 < (t100.Ops.length : Int))))) ?_ ?_))))))
 ·refine Zd (Za rfl rfl (Zp F55_0 rfl rfl rfl (Za rfl rfl (Zn (hS100) A22 rfl rfl rfl (Za rfl rfl (Zr S22 rfl rfl a100 (Za rfl rfl (Exec.gtr rfl rfl rfl (Za rfl rfl (Zm (v := Value.bool (decide (12 < (t100.Vars.length : Int)))) rfl rfl ?_))))))))))
  by_cases hc100 : (decide (12 < (t100.Vars.length : Int))) = true
  ·refine Zl rfl (Zf rfl (congrArg Value.bool hc100)) rfl rfl (Zl rfl (Zf rfl (congrArg Value.bool hc100)) rfl rfl (Zl rfl (Zf rfl (congrArg Value.bool hc100)) rfl rfl (Zl rfl (Zf rfl (congrArg Value.bool hc100)) rfl rfl (Za rfl rfl (Zs (v := Value.bool (true)) rfl (congrArg Value.bool hc100) rfl (Zb (Ze ?_)))))))
   exact ⟨s, (Zv _), hS100, rfl, (congrArg Value.bool (or_t hc100)).symm⟩
  replace hc100 := Zk hc100
  refine WL_run rfl (Zf rfl (congrArg Value.bool hc100)) rfl (Zp F55_3 rfl rfl rfl (WL_run rfl (Zf rfl (congrArg Value.bool hc100)) rfl (Zn (hS100) A53 rfl rfl rfl (WL_run rfl (Zf rfl (congrArg Value.bool hc100)) rfl (Zr S53 rfl rfl a103 (WL_run rfl (Zf rfl (congrArg Value.bool hc100)) rfl (Exec.gtr rfl rfl rfl (Za rfl rfl (Exec.pick_f (v := Value.bool (decide (20 < (t100.Ops.length : Int)))) rfl (congrArg Value.bool hc100) rfl (Zb (Ze ?_)))))))))))
  exact ⟨s, (Zv _), hS100, rfl, (congrArg Value.bool (or_f hc100)).symm⟩
 intro f100 w101 hM100
 obtain ⟨s102, l100, hS101, p100, p101⟩ := hM100
 refine (Ze ?_)
 rcases ite_some hm with ⟨hc101, hm⟩ | ⟨hc101, hm⟩
 ·refine W_cond_t p101 hc101 (Zc (Zd (Za rfl rfl (Zo (v := Value.bool (false)) rfl rfl (Zb (Ze (W_ret (at_ret ?_))))))))
  have e100 := Zu hm
  subst r
  refine ⟨_, ret1 rfl, ?_⟩
  have hS102 := (hS101).drop
  exact ⟨s102, l100, hS102, rfl⟩
 refine W_cond_f p101 hc101 ?_
 replace hc101 := Zk hc101
 refine W_skip (Ze (Zc (Zc (Zd (Za rfl rfl (Zp F55_3 rfl p100 rfl (Za rfl rfl (Zn (hS101) A53 rfl rfl rfl (Za rfl rfl (Zr S53 rfl rfl (a103.mono l100) (Za rfl rfl (Zm (v := Value.int .i64 (0)) rfl rfl ?_))))))))))))
 refine Zb (Ze ?_)
 obtain ⟨c100, hB100, hr100, hn100, hb100⟩ := ctl_some hm
 refine W_mid (M := fun f' w' => ∃ s', (c100 = .next s' ∨ c100 = .brk s') ∧ (fun (_ : Unit) => ∃ (s103 : PHeap) , PHeap.le s102 s103 ∧ St w0 s103 (Res.box b100 55 [v100, v101, v102, v103] :: H) w' ∧ f' 1 = Value.pointer (some ⟨b100, 0, none⟩) ∧ f' 16 = v103 ∧ f' 17 = Value.int .i64 ((t100.Ops.length : Int))) s') ?_ ?_
 ·refine W_block (W_forC (fun k' s' f' w' => (fun (_ : Unit) => ∃ (s104 : PHeap) , PHeap.le s102 s104 ∧ St w0 s104 (Res.box b100 55 [v100, v101, v102, v103] :: H) w' ∧ f' 1 = Value.pointer (some ⟨b100, 0, none⟩) ∧ f' 16 = v103 ∧ f' 17 = Value.int .i64 ((t100.Ops.length : Int)) ∧ f' 18 = Value.int .i64 (k' : Int)) s') hB100 ?_ ?_ ?_)
  ·exact ⟨s102, (Zv _), hS101, p100, rfl, rfl, rfl⟩
  ·intro i100 t101 c101 f101 w102 hi100 hI100 hm100 hres100
   obtain ⟨s105, l101, hS103, p102, p103, p104, x100⟩ := hI100
   refine Zc (Zd (Za rfl rfl (Zq rfl x100 p104 (Zb (Ze (Zc (W_true (congrArg Value.bool (decide_eq_true (by omega))) (W_skip (Ze (Zc ?_))))))))))
   refine W_block (Zc (Zd ?_))
   obtain ⟨x101, q100, hm100⟩ := Zg hm100
   refine Za rfl rfl (Exec.index_rep S53 rfl p103 x100 (a103.mono (Zt l100 l101)) q100 ?_)
   intro b101 o100 a104
   refine Za rfl rfl (Zw (E := encOp) hS103 A79 rfl rfl rfl a104 ?_)
   intro v104 q101
   obtain ⟨u100, u101, rfl, r100, r101⟩ := encOp_val.1 q101
   refine Za rfl rfl (Exec.alloc (cs := [Value.string (⟨#[]⟩), Value.int .i64 (0), Value.slice none 0 0, Value.slice none 0 0]) hS103 Z79 rfl rfl ?_)
   intro b102 w103 hS104
   refine Za rfl rfl (Exec.store_box (ds := [Value.string (x101.Name), Value.int .i64 (x101.Cost), u100, u101]) (es := [Value.string (x101.Name), Value.int .i64 (x101.Cost), u100, u101]) hS104 A79 rfl rfl rfl rfl (Zj rfl (Zj rfl (Zj (r100).one (Zj (r101).one one_nil)))) (Nat.le_of_ble_eq_true rfl) rfl ?_)
   intro w104 hS105
   refine Zb (Ze (Zc (Zd (Za rfl rfl (Zp F79_3 rfl rfl rfl (Za rfl rfl (Zn (hS105) A77 rfl rfl rfl (Za rfl rfl (Zr S77 rfl rfl r101 (Za rfl rfl (Exec.gtr rfl rfl rfl (Zb (Ze ?_)))))))))))))
   rcases ite_some hm100 with ⟨hc102, hm100⟩ | ⟨hc102, hm100⟩
   ·refine W_cond_t rfl hc102 (Zc (Zd (Za rfl rfl (Zo (v := Value.bool (false)) rfl rfl (Zb (Ze (W_ret (ib_ret (at_ret (at_ret (ib_ret (at_ret (at_ret ?_)))))))))))))
    have e101 := Zu hm100
    subst c101
    have hq100 := hr100 _ (hres100 (by intro _ h; cases h))
    have e102 := Zu hq100
    subst r
    refine ⟨_, ret1 rfl, ?_⟩
    have hS106 := (hS105).drop
    have hS107 := (hS106).drop
    exact ⟨s105, (Zt l100 l101), hS107, rfl⟩
   refine W_cond_f rfl hc102 ?_
   replace hc102 := Zk hc102
   refine W_skip (ib_normal (Ze (Zd (Za rfl rfl (Exec.add rfl x100 rfl (Za rfl rfl (Zm (v := Value.int .i64 (IntKind.i64.wrap ((i100 : Int) + 1))) rfl rfl (Zb (Ze ?_)))))))))
   have e103 := Zu hm100
   subst c101
   have hS108 := (hS105).drop
   refine ⟨_, rfl, ?_⟩; exact ⟨s105, l101, hS108, p102, p103, p104, (Eq.trans rfl (wrap_up hi100 (SliceRep.le (a103.mono l100))))⟩
  intro t102 f102 w105 hI101 hres101
  obtain ⟨s106, l102, hS109, p105, p106, p107, x102⟩ := hI101
  refine Zc (Zd (Za rfl rfl (Zq rfl x102 p107 (Zb (Ze (Zc (W_false (congrArg Value.bool (decide_eq_false (by omega))) (W_exit (at_exit (at_exit (ib_here (Ze ?_))))))))))))
  refine ⟨_, .inl hres101, ?_⟩; exact ⟨s106, l102, hS109, p105, p106, p107⟩
 rintro f103 w106 ⟨t103, hc103, hM101⟩
 have hm := hc103.elim (hn100 _) (hb100 _)
 clear hc103
 obtain ⟨s107, l103, hS110, p108, p109, p110⟩ := hM101
 refine (Ze (Zc ?_))
 obtain ⟨z100, ht100, hm⟩ := Zg hm
 refine W_mid (M := fun f' w' => (fun (z100 : Bool) => ∃ (s108 : PHeap) , PHeap.le s107 s108 ∧ St w0 s108 (H) w' ∧ f' 2 = Value.bool (z100)) z100) ?_ ?_
 ·refine Zd (Za rfl rfl (Exec.load_box_agg (ds := [v100, v101, v102, v103]) (hS110) A55 rfl p108 rfl ?_))
  obtain ⟨y101, q102, ht100⟩ := Zg ht100
  refine Za rfl rfl (Exec.call rfl rfl Try.func29 rfl N29 (Zi rfl args_nil) ((base_Good_sim q102 hS110 (a100.mono (Zt l100 l103)) (a101.mono (Zt l100 l103)) (a102.mono (Zt l100 l103)) (a103.mono (Zt l100 l103))).mono ?_))
  rintro _ w107 ⟨_, rfl, ⟨s109, l104, hS111, rfl⟩⟩
  refine ⟨_, rfl, ?_⟩
  refine Za rfl rfl (Zm (v := Value.bool (y101)) rfl rfl ?_)
  rcases ite_some ht100 with ⟨hc104, ht100⟩ | ⟨hc104, ht100⟩
  ·refine WL_run rfl (Zf rfl (congrArg Value.bool hc104)) rfl (Zp F55_0 rfl p108 rfl (WL_run rfl (Zf rfl (congrArg Value.bool hc104)) rfl (Zn (hS111) A22 rfl rfl rfl ?_)))
   obtain ⟨y102, q103, ht100⟩ := Zg ht100
   refine WL_run rfl (Zf rfl (congrArg Value.bool hc104)) rfl (Exec.call rfl rfl Try.func32 rfl N32 (Zi rfl (Zi rfl args_nil)) ((base_Many_sim q103 hS111 (a100.mono (Zt (Zt l100 l103) l104))).mono ?_))
   rintro _ w108 ⟨_, rfl, ⟨s110, l105, hS112, rfl⟩⟩
   refine ⟨_, rfl, ?_⟩
   refine WL_run rfl (Zf rfl (congrArg Value.bool hc104)) rfl (Exec.leq rfl rfl rfl (Za rfl rfl (Zs (v := Value.bool (decide (y102 ≤ 512))) rfl (congrArg Value.bool hc104) rfl (Za rfl rfl (Zo (v := Value.bool (decide (y102 ≤ 512))) rfl rfl (Zb (Ze ?_)))))))
   have e104 := Zu ht100
   subst z100
   have hS113 := (hS112).drop
   exact ⟨s110, (Zt l104 l105), hS113, rfl⟩
  replace hc104 := Zk hc104
  refine Zl rfl (Zf rfl (congrArg Value.bool hc104)) rfl rfl (Zl rfl (Zf rfl (congrArg Value.bool hc104)) rfl rfl (Zl rfl (Zf rfl (congrArg Value.bool hc104)) rfl rfl (Zl rfl (Zf rfl (congrArg Value.bool hc104)) rfl rfl (Za rfl rfl (Exec.pick_f (v := Value.bool (false)) rfl (congrArg Value.bool hc104) rfl (Za rfl rfl (Zo (v := Value.bool (false)) rfl rfl (Zb (Ze ?_)))))))))
  have e105 := Zu ht100
  subst z100
  have hS114 := (hS111).drop
  exact ⟨s109, l104, hS114, rfl⟩
 intro f104 w109 hM102
 obtain ⟨s111, l106, hS115, p111⟩ := hM102
 refine (Ze (W_ret ?_))
 have e106 := Zu hm
 subst r
 refine ⟨_, ret1 rfl, ?_⟩
 exact ⟨s111, (Zt (Zt l100 l103) l106), hS115, p111⟩
theorem S135 : tySlice Try.prog 135 = some (52, 1, 24) := by kernel_rfl
theorem Z52 : tyZero Try.prog 52 = some (Value.slice none 0 0) := by kernel_rfl
theorem N90 : (Try.f90.name == "runtime.NumGoroutine") = false := by kernel_rfl
theorem task_conditions_sim {w0 w : World} {s : PHeap} {H : List Res} {t100 : Task} {v100 : Value} {v101 : Value} {v102 : Value} {v103 : Value} {r : (List (List Fact))} (hm : task_conditions_p t100 = some r) (hS : St w0 s (H) w) (a100 : SliceRep (encInt .i64) s v100 t100.Vars) (a101 : SliceRep (encInt .i64) s v101 t100.Init) (a102 : SliceRep encFact s v102 t100.Goal) (a103 : SliceRep encOp s v103 t100.Ops) :
  Calls Try.prog 90 #[Value.agg #[v100, v101, v102, v103]] w fun e w' => ∃ v, e = .returned v ∧ ((fun (y100 : (List (List Fact))) => ∃ (s100 : PHeap) (v104 : Value), PHeap.le s s100 ∧ St w0 s100 (H) w' ∧ v = v104 ∧ SliceRep (encSlice encFact) s100 v104 y100) r) := by
 unfold task_conditions_p at hm
 refine calls_of_W Try.func90 rfl rfl (Zc (Zd (Za rfl rfl (Exec.box (cs := [v100, v101, v102, v103]) hS rfl rfl rfl ?_))))
 intro b100 w100 hS100
 refine Za rfl rfl (Zo (v := Value.slice none 0 0) rfl rfl (Zb (Ze (Zc (Zd (Za rfl rfl (Zp F55_2 rfl rfl rfl (Za rfl rfl (Zn (hS100) A52 rfl rfl rfl (Za rfl rfl (Exec.buildSlice (Te := 52) (cs := [v102]) hS100 rfl (parts_cons (c := [v102]) (cells_of rfl (cells_one (a102).one)) parts_nil) (fun _ => by kernel_rfl) ?_)))))))))))
 intro b101 w101 hS101
 refine Za rfl rfl (Zo (v := Value.slice (some ⟨b101, 0, none⟩) 1 1) rfl rfl (Zb (Ze (Zc (Zc (Zd (Za rfl rfl (Zp F55_3 rfl rfl rfl (Za rfl rfl (Zn ((hS101).f1) A53 rfl rfl rfl (Za rfl rfl (Zr S53 rfl rfl a103 ?_))))))))))))
 refine Za rfl rfl (Zm (v := Value.int .i64 (0)) rfl rfl (Zb (Ze ?_)))
 obtain ⟨out100, hB100, hm⟩ := Zg hm
 refine W_block (W_forS (fun k' s' f' w' => (fun (out100 : (List (List Fact))) => ∃ (s101 : PHeap) (v105 : Value), PHeap.le s s101 ∧ St w0 s101 (Res.arr (encSlice encFact) 52 v105 out100 :: H) w' ∧ f' 3 = v105 ∧ f' 12 = v103 ∧ f' 13 = Value.int .i64 ((t100.Ops.length : Int)) ∧ f' 14 = Value.int .i64 (k' : Int)) s') hB100 ?_ ?_ ?_)
 ·have hS102 := St.boxArr (E := (encSlice encFact)) (xs := [t100.Goal]) hS101 ⟨[v102], [], rfl, ⟨_, rfl, a102⟩, rfl⟩ (by simp [maxLen])
  have hS103 := ((hS102).f1).drop
  exact ⟨s, (Value.slice (some ⟨b101, 0, none⟩) 1 1), (Zv _), hS103, rfl, rfl, rfl, rfl⟩
 ·intro i100 out100 s102 f100 w102 hi100 hI100 hm100
  obtain ⟨s103, v105, l100, hS104, p100, p101, p102, x100⟩ := hI100
  refine Zc (Zd (Za rfl rfl (Zq rfl x100 p102 (Zb (Ze (Zc (W_true (congrArg Value.bool (decide_eq_true (by omega))) (W_skip (Ze (Zc ?_))))))))))
  refine W_block (Zc (Zd ?_))
  obtain ⟨x101, q100, hm100⟩ := Zg hm100
  refine Za rfl rfl (Exec.index_rep S53 rfl p101 x100 (a103.mono l100) q100 ?_)
  intro b102 o100 a104
  refine Za rfl rfl (Zw (E := encOp) hS104 A79 rfl rfl rfl a104 ?_)
  intro v106 q101
  obtain ⟨u100, u101, rfl, r100, r101⟩ := encOp_val.1 q101
  refine Za rfl rfl (Exec.alloc (cs := [Value.string (⟨#[]⟩), Value.int .i64 (0), Value.slice none 0 0, Value.slice none 0 0]) hS104 Z79 rfl rfl ?_)
  intro b103 w103 hS105
  refine Za rfl rfl (Exec.store_box (ds := [Value.string (x101.Name), Value.int .i64 (x101.Cost), u100, u101]) (es := [Value.string (x101.Name), Value.int .i64 (x101.Cost), u100, u101]) hS105 A79 rfl rfl rfl rfl (Zj rfl (Zj rfl (Zj (r100).one (Zj (r101).one one_nil)))) (Nat.le_of_ble_eq_true rfl) rfl ?_)
  intro w104 hS106
  refine Zb (Ze (Zc (Zd (Za rfl rfl (Zm (v := v105) rfl p100 (Za rfl rfl (Zp F79_2 rfl rfl rfl (Za rfl rfl (Zn (hS106) A52 rfl rfl rfl (Za rfl rfl (Exec.buildSlice (Te := 52) (cs := [u100]) hS106 rfl (parts_cons (c := [u100]) (cells_of rfl (cells_one (r100).one)) parts_nil) (fun _ => by kernel_rfl) ?_)))))))))))
  intro b104 w105 hS107
  obtain ⟨l101, q102, hm100⟩ := Zg hm100
  have hS108 := (hS107).f2
  refine Za rfl rfl (Exec.append_box (E := (encSlice encFact)) (ys := [x101.Pre]) hS108 S135 Z52 rfl (by decide) rfl rfl rfl rfl ⟨[u100], [], rfl, ⟨_, rfl, r100⟩, rfl⟩ rfl q102 ?_)
  intro v107 w106 hS109
  refine Za rfl rfl (Zo (v := v107) rfl rfl (Zb (Ze (Zc (Zd (Za rfl rfl (Zp F79_3 rfl rfl rfl (Za rfl rfl (Zn ((hS109).f1) A77 rfl rfl rfl (Za rfl rfl (Zr S77 rfl rfl r101 (Za rfl rfl (Zm (v := Value.int .i64 (0)) rfl rfl ?_)))))))))))))
  refine Zb (Ze ?_)
  obtain ⟨l102, hB101, hm100⟩ := Zg hm100
  refine W_block (W_forS (fun k' s' f' w' => (fun (l102 : (List (List Fact))) => ∃ (s104 : PHeap) (v108 : Value), PHeap.le s103 s104 ∧ St w0 s104 (Res.arr (encSlice encFact) 52 v108 l102 :: H) w' ∧ f' 3 = v108 ∧ f' 12 = v103 ∧ f' 13 = Value.int .i64 ((t100.Ops.length : Int)) ∧ f' 14 = Value.int .i64 ((i100 : Int)) ∧ f' 24 = u101 ∧ f' 25 = Value.int .i64 ((x101.Effs.length : Int)) ∧ f' 26 = Value.int .i64 (k' : Int)) s') hB101 ?_ ?_ ?_)
  ·have hS110 := ((hS109).f1).drop
   exact ⟨s103, v107, (Zv _), hS110, rfl, p101, p102, x100, rfl, rfl, rfl⟩
  ·intro i101 l102 s105 f101 w107 hi101 hI101 hm101
   obtain ⟨s106, v108, l103, hS111, p103, p104, p105, p106, p107, p108, x102⟩ := hI101
   refine Zc (Zd (Za rfl rfl (Zq rfl x102 p108 (Zb (Ze (Zc (W_true (congrArg Value.bool (decide_eq_true (by omega))) (W_skip (Ze (Zc ?_))))))))))
   refine W_block (Zc (Zd ?_))
   obtain ⟨x103, q103, hm101⟩ := Zg hm101
   refine Za rfl rfl (Exec.index_rep S77 rfl p107 x102 (r101.mono l103) q103 ?_)
   intro b105 o101 a105
   refine Za rfl rfl (Zw (E := encEffect) hS111 A93 rfl rfl rfl a105 ?_)
   intro v109 q104
   obtain ⟨u102, rfl, r102⟩ := encEffect_val.1 q104
   refine Za rfl rfl (Exec.alloc (cs := [Value.slice none 0 0, Value.int .i64 (0), Value.int .i64 (0)]) hS111 Z93 rfl rfl ?_)
   intro b106 w108 hS112
   refine Za rfl rfl (Exec.store_box (ds := [u102, Value.int .i64 (x103.Var), Value.int .i64 (x103.Val)]) (es := [u102, Value.int .i64 (x103.Var), Value.int .i64 (x103.Val)]) hS112 A93 rfl rfl rfl rfl (Zj (r102).one (Zj rfl (Zj rfl one_nil))) (Nat.le_of_ble_eq_true rfl) rfl ?_)
   intro w109 hS113
   refine Zb (Ze (Zd (Za rfl rfl (Zm (v := v108) rfl p103 (Za rfl rfl (Zp F93_0 rfl rfl rfl (Za rfl rfl (Zn (hS113) A52 rfl rfl rfl (Za rfl rfl (Exec.buildSlice (Te := 52) (cs := [u102]) hS113 rfl (parts_cons (c := [u102]) (cells_of rfl (cells_one (r102).one)) parts_nil) (fun _ => by kernel_rfl) ?_))))))))))
   intro b107 w110 hS114
   obtain ⟨l104, q105, hm101⟩ := Zg hm101
   have hS115 := (hS114).f2
   refine Za rfl rfl (Exec.append_box (E := (encSlice encFact)) (ys := [x103.When]) hS115 S135 Z52 rfl (by decide) rfl rfl rfl rfl ⟨[u102], [], rfl, ⟨_, rfl, r102⟩, rfl⟩ rfl q105 ?_)
   intro v110 w111 hS116
   refine Za rfl rfl (Zo (v := v110) rfl rfl (Zb (ib_normal (Ze (Zd (Za rfl rfl (Exec.add rfl x102 rfl (Za rfl rfl (Zm (v := Value.int .i64 (IntKind.i64.wrap ((i101 : Int) + 1))) rfl rfl (Zb (Ze ?_)))))))))))
   have e100 := Zu hm101
   subst s105
   have hS117 := ((hS116).f1).drop
   exact ⟨s106, v110, l103, hS117, rfl, p104, p105, p106, p107, p108, (Eq.trans rfl (wrap_up hi101 (SliceRep.le r101)))⟩
  intro f102 w112 hI102
  obtain ⟨s107, v108, l105, hS118, p109, p110, p111, p112, p113, p114, x104⟩ := hI102
  refine Zc (Zd (Za rfl rfl (Zq rfl x104 p114 (Zb (Ze (Zc (W_false (congrArg Value.bool (decide_eq_false (by omega))) (W_exit (at_exit (at_exit (ib_here (ib_normal (Ze (Zd ?_))))))))))))))
  refine Za rfl rfl (Exec.add rfl p112 rfl (Za rfl rfl (Zm (v := Value.int .i64 (IntKind.i64.wrap ((i100 : Int) + 1))) rfl rfl (Zb (Ze ?_)))))
  have e101 := Zu hm100
  subst s102
  exact ⟨s107, v108, (Zt l100 l105), hS118, p109, p110, p111, (Eq.trans rfl (wrap_up hi100 (SliceRep.le a103)))⟩
 intro f103 w113 hI103
 obtain ⟨s108, v105, l106, hS119, p115, p116, p117, x105⟩ := hI103
 refine Zc (Zd (Za rfl rfl (Zq rfl x105 p117 (Zb (Ze (Zc (W_false (congrArg Value.bool (decide_eq_false (by omega))) (W_exit (at_exit (at_exit (ib_here (Ze (Zc ?_)))))))))))))
 refine Zd (Za rfl rfl (Zm (v := v105) rfl p115 (Za rfl rfl (Zo (v := v105) rfl rfl (Zb (Ze (W_ret ?_)))))))
 have e102 := Zu hm
 subst r
 refine ⟨_, ret1 rfl, ?_⟩
 obtain ⟨s109, l107, hS120, r103⟩ := hS119.freezeArr
 exact ⟨s109, v105, (Zt l106 l107), hS120, rfl, r103⟩
theorem N99 : (Try.f99.name == "runtime.NumGoroutine") = false := by kernel_rfl
theorem task_large_c1_sim {w0 w : World} {s : PHeap} {H : List Res} {l100 : (List Fact)} {v100 : Value} {r : Bool} (hm : task_large_c1_p l100 = some r) (hS : St w0 s (H) w) (a100 : SliceRep encFact s v100 l100) :
  Calls Try.prog 99 #[v100] w fun e w' => ∃ v, e = .returned v ∧ ((fun (y100 : Bool) => ∃ (s100 : PHeap) , PHeap.le s s100 ∧ St w0 s100 (H) w' ∧ v = Value.bool (y100)) r) := by
 unfold task_large_c1_p at hm
 refine calls_of_W Try.func99 rfl rfl (Zc (Zd (Za rfl rfl (Zo (v := Value.bool (false)) rfl rfl (Zb (Ze (Zc (Zd (Za rfl rfl (Zm (v := v100) rfl rfl ?_))))))))))
 refine Za rfl rfl (Zr S52 rfl rfl a100 (Za rfl rfl (Exec.gtr rfl rfl rfl (Za rfl rfl (Zo (v := Value.bool (decide (64 < (l100.length : Int)))) rfl rfl (Zb (Ze (W_ret ?_))))))))
 have e100 := Zu hm
 subst r
 refine ⟨_, ret1 rfl, ?_⟩
 exact ⟨s, (Zv _), hS, rfl⟩
theorem N110 : (Try.f110.name == "runtime.NumGoroutine") = false := by kernel_rfl
theorem api_Fact__f99_110_sim {w0 w : World} {s : PHeap} {H : List Res} {s_100 : (List (List Fact))} {v100 : Value} {r : Int} (hm : api_Fact__f99_110_p s_100 = some r) (hS : St w0 s (H) w) (a100 : SliceRep (encSlice encFact) s v100 s_100) :
  Calls Try.prog 110 #[v100, Value.func (.func 99) #[] #[]] w fun e w' => ∃ v, e = .returned v ∧ ((fun (y100 : Int) => ∃ (s100 : PHeap) , PHeap.le s s100 ∧ St w0 s100 (H) w' ∧ v = Value.int .i64 (y100)) r) := by
 unfold api_Fact__f99_110_p at hm
 refine calls_of_W Try.func110 rfl rfl (Zc (Zd (Za rfl rfl (Zo (v := Value.int .i64 (0)) rfl rfl (Zb (Ze (Zc (Zc (Zd ?_)))))))))
 refine Za rfl rfl (Zm (v := v100) rfl rfl (Za rfl rfl (Zr S135 rfl rfl a100 (Za rfl rfl (Zm (v := Value.int .i64 (0)) rfl rfl (Zb (Ze ?_)))))))
 obtain ⟨c100, hB100, hr100, hn100, hb100⟩ := ctl_some hm
 refine W_mid (M := fun f' w' => ∃ s', (c100 = .next s' ∨ c100 = .brk s') ∧ (fun (_ : Unit) => ∃ (s101 : PHeap) , PHeap.le s s101 ∧ St w0 s101 (H) w' ∧ f' 0 = v100 ∧ f' 1 = Value.func (.func 99) #[] #[] ∧ f' 7 = Value.int .i64 ((s_100.length : Int))) s') ?_ ?_
 ·refine W_block (W_forC (fun k' s' f' w' => (fun (_ : Unit) => ∃ (s102 : PHeap) , PHeap.le s s102 ∧ St w0 s102 (H) w' ∧ f' 0 = v100 ∧ f' 1 = Value.func (.func 99) #[] #[] ∧ f' 7 = Value.int .i64 ((s_100.length : Int)) ∧ f' 8 = Value.int .i64 (k' : Int)) s') hB100 ?_ ?_ ?_)
  ·exact ⟨s, (Zv _), hS, rfl, rfl, rfl, rfl⟩
  ·intro i100 t100 c101 f100 w100 hi100 hI100 hm100 hres100
   obtain ⟨s103, l100, hS100, p100, p101, p102, x100⟩ := hI100
   refine Zc (Zd (Za rfl rfl (Zq rfl x100 p102 (Zb (Ze (Zc (W_true (congrArg Value.bool (decide_eq_true (by omega))) (W_skip (Ze (Zc ?_))))))))))
   refine W_block (Zc (Zd (Za rfl rfl (Zm (v := Value.int .i64 ((i100 : Int))) rfl x100 (Za rfl rfl (Zo (v := Value.int .i64 ((i100 : Int))) rfl rfl (Zb (Ze (Zc (Zd ?_))))))))))
   refine Za rfl rfl (Zm (v := Value.func (.func 99) #[] #[]) rfl p101 (Za rfl rfl (Zm (v := v100) rfl p100 (Za rfl rfl (Zm (v := Value.int .i64 ((i100 : Int))) rfl rfl ?_)))))
   obtain ⟨x101, q100, hm100⟩ := Zg hm100
   refine Za rfl rfl (Exec.index_rep S135 rfl rfl rfl (a100.mono l100) q100 ?_)
   intro b100 o100 a101
   refine Za rfl rfl (Zw (E := (encSlice encFact)) hS100 A52 rfl rfl rfl a101 ?_)
   intro v101 q101
   have r100 := encSlice_val.1 q101
   refine Za rfl rfl (Exec.callf rfl rfl Try.func99 rfl N99 (Zi rfl args_nil) ((task_large_c1_sim (task_large_c1_tot x101) hS100 r100).mono ?_))
   rintro _ w101 ⟨_, rfl, ⟨s104, l101, hS101, rfl⟩⟩
   refine ⟨_, rfl, ?_⟩
   refine Zb (Ze ?_)
   rcases ite_some hm100 with ⟨hc100, hm100⟩ | ⟨hc100, hm100⟩
   ·refine W_cond_t rfl hc100 (Zc (Zd (Za rfl rfl (Zm (v := Value.int .i64 ((i100 : Int))) rfl rfl (Za rfl rfl (Zo (v := Value.int .i64 ((i100 : Int))) rfl rfl (Zb (Ze (W_ret (ib_ret (at_ret (at_ret (ib_ret (at_ret (at_ret ?_)))))))))))))))
    have e100 := Zu hm100
    subst c101
    have hq100 := hr100 _ (hres100 (by intro _ h; cases h))
    have e101 := Zu hq100
    subst r
    refine ⟨_, ret1 rfl, ?_⟩
    exact ⟨s104, (Zt l100 l101), hS101, rfl⟩
   refine W_cond_f rfl hc100 ?_
   replace hc100 := Zk hc100
   refine W_skip (ib_normal (Ze (Zd (Za rfl rfl (Exec.add rfl x100 rfl (Za rfl rfl (Zm (v := Value.int .i64 (IntKind.i64.wrap ((i100 : Int) + 1))) rfl rfl (Zb (Ze ?_)))))))))
   have e102 := Zu hm100
   subst c101
   refine ⟨_, rfl, ?_⟩; exact ⟨s104, (Zt l100 l101), hS101, p100, p101, p102, (Eq.trans rfl (wrap_up hi100 (SliceRep.le a100)))⟩
  intro t101 f101 w102 hI101 hres101
  obtain ⟨s105, l102, hS102, p103, p104, p105, x102⟩ := hI101
  refine Zc (Zd (Za rfl rfl (Zq rfl x102 p105 (Zb (Ze (Zc (W_false (congrArg Value.bool (decide_eq_false (by omega))) (W_exit (at_exit (at_exit (ib_here (Ze ?_))))))))))))
  refine ⟨_, .inl hres101, ?_⟩; exact ⟨s105, l102, hS102, p103, p104, p105⟩
 rintro f102 w103 ⟨t102, hc101, hM100⟩
 have hm := hc101.elim (hn100 _) (hb100 _)
 clear hc101
 obtain ⟨s106, l103, hS103, p106, p107, p108⟩ := hM100
 refine (Ze (Zc (Zd (Za rfl rfl (Zo (v := Value.int .i64 ((-1))) rfl rfl (Zb (Ze (W_ret ?_))))))))
 have e103 := Zu hm
 subst r
 refine ⟨_, ret1 rfl, ?_⟩
 exact ⟨s106, l103, hS103, rfl⟩
theorem N98 : (Try.f98.name == "runtime.NumGoroutine") = false := by kernel_rfl
theorem api_Fact__f99_sim {w0 w : World} {s : PHeap} {H : List Res} {s_100 : (List (List Fact))} {v100 : Value} {r : Bool} (hm : api_Fact__f99_p s_100 = some r) (hS : St w0 s (H) w) (a100 : SliceRep (encSlice encFact) s v100 s_100) :
  Calls Try.prog 98 #[v100, Value.func (.func 99) #[] #[]] w fun e w' => ∃ v, e = .returned v ∧ ((fun (y100 : Bool) => ∃ (s100 : PHeap) , PHeap.le s s100 ∧ St w0 s100 (H) w' ∧ v = Value.bool (y100)) r) := by
 unfold api_Fact__f99_p at hm
 refine calls_of_W Try.func98 rfl rfl (Zc (Zd (Za rfl rfl (Zo (v := Value.bool (false)) rfl rfl (Zb (Ze (Zc (Zd (Za rfl rfl (Zm (v := v100) rfl rfl ?_))))))))))
 refine Za rfl rfl (Zm (v := Value.func (.func 99) #[] #[]) rfl rfl ?_)
 obtain ⟨y101, q100, hm⟩ := Zg hm
 refine Za rfl rfl (Exec.call rfl rfl Try.func110 rfl N110 (Zi rfl (Zi rfl args_nil)) ((api_Fact__f99_110_sim q100 hS a100).mono ?_))
 rintro _ w100 ⟨_, rfl, ⟨s101, l100, hS100, rfl⟩⟩
 refine ⟨_, rfl, ?_⟩
 refine Za rfl rfl (Exec.geq rfl rfl rfl (Za rfl rfl (Zo (v := Value.bool (decide (0 ≤ y101))) rfl rfl (Zb (Ze (W_ret ?_))))))
 have e100 := Zu hm
 subst r
 refine ⟨_, ret1 rfl, ?_⟩
 exact ⟨s101, l100, hS100, rfl⟩
theorem N88 : (Try.f88.name == "runtime.NumGoroutine") = false := by kernel_rfl
theorem task_large_sim {w0 w : World} {s : PHeap} {H : List Res} {t100 : Task} {v100 : Value} {v101 : Value} {v102 : Value} {v103 : Value} {r : Bool} (hm : task_large_p t100 = some r) (hS : St w0 s (H) w) (a100 : SliceRep (encInt .i64) s v100 t100.Vars) (a101 : SliceRep (encInt .i64) s v101 t100.Init) (a102 : SliceRep encFact s v102 t100.Goal) (a103 : SliceRep encOp s v103 t100.Ops) :
  Calls Try.prog 88 #[Value.agg #[v100, v101, v102, v103]] w fun e w' => ∃ v, e = .returned v ∧ ((fun (y100 : Bool) => ∃ (s100 : PHeap) , PHeap.le s s100 ∧ St w0 s100 (H) w' ∧ v = Value.bool (y100)) r) := by
 unfold task_large_p at hm
 refine calls_of_W Try.func88 rfl rfl (Zc (Zd (Za rfl rfl (Exec.box (cs := [v100, v101, v102, v103]) hS rfl rfl rfl ?_))))
 intro b100 w100 hS100
 refine Za rfl rfl (Zo (v := Value.bool (false)) rfl rfl (Zb (Ze (Zc (Zc (W_mid (M := fun f' w' => ∃ (s101 : PHeap) , PHeap.le s s101 ∧ St w0 s101 (Res.box b100 55 [v100, v101, v102, v103] :: H) w' ∧ f' 1 = Value.pointer (some ⟨b100, 0, none⟩) ∧ f' 14 = Value.bool (((decide (64 < (t100.Vars.length : Int))) || decide (4096 < (t100.Ops.length : Int))))) ?_ ?_))))))
 ·refine Zd (Za rfl rfl (Zp F55_0 rfl rfl rfl (Za rfl rfl (Zn (hS100) A22 rfl rfl rfl (Za rfl rfl (Zr S22 rfl rfl a100 (Za rfl rfl (Exec.gtr rfl rfl rfl (Za rfl rfl (Zm (v := Value.bool (decide (64 < (t100.Vars.length : Int)))) rfl rfl ?_))))))))))
  by_cases hc100 : (decide (64 < (t100.Vars.length : Int))) = true
  ·refine Zl rfl (Zf rfl (congrArg Value.bool hc100)) rfl rfl (Zl rfl (Zf rfl (congrArg Value.bool hc100)) rfl rfl (Zl rfl (Zf rfl (congrArg Value.bool hc100)) rfl rfl (Zl rfl (Zf rfl (congrArg Value.bool hc100)) rfl rfl (Za rfl rfl (Zs (v := Value.bool (true)) rfl (congrArg Value.bool hc100) rfl (Zb (Ze ?_)))))))
   exact ⟨s, (Zv _), hS100, rfl, (congrArg Value.bool (or_t hc100)).symm⟩
  replace hc100 := Zk hc100
  refine WL_run rfl (Zf rfl (congrArg Value.bool hc100)) rfl (Zp F55_3 rfl rfl rfl (WL_run rfl (Zf rfl (congrArg Value.bool hc100)) rfl (Zn (hS100) A53 rfl rfl rfl (WL_run rfl (Zf rfl (congrArg Value.bool hc100)) rfl (Zr S53 rfl rfl a103 (WL_run rfl (Zf rfl (congrArg Value.bool hc100)) rfl (Exec.gtr rfl rfl rfl (Za rfl rfl (Exec.pick_f (v := Value.bool (decide (4096 < (t100.Ops.length : Int)))) rfl (congrArg Value.bool hc100) rfl (Zb (Ze ?_)))))))))))
  exact ⟨s, (Zv _), hS100, rfl, (congrArg Value.bool (or_f hc100)).symm⟩
 intro f100 w101 hM100
 obtain ⟨s102, l100, hS101, p100, p101⟩ := hM100
 refine (Ze ?_)
 rcases ite_some hm with ⟨hc101, hm⟩ | ⟨hc101, hm⟩
 ·refine W_cond_t p101 hc101 (Zc (Zd (Za rfl rfl (Zo (v := Value.bool (true)) rfl rfl (Zb (Ze (W_ret (at_ret ?_))))))))
  have e100 := Zu hm
  subst r
  refine ⟨_, ret1 rfl, ?_⟩
  have hS102 := (hS101).drop
  exact ⟨s102, l100, hS102, rfl⟩
 refine W_cond_f p101 hc101 ?_
 replace hc101 := Zk hc101
 refine W_skip (Ze (Zc (Zc (Zd (Za rfl rfl (Zp F55_3 rfl p100 rfl (Za rfl rfl (Zn (hS101) A53 rfl rfl rfl (Za rfl rfl (Zr S53 rfl rfl (a103.mono l100) (Za rfl rfl (Zm (v := Value.int .i64 (0)) rfl rfl ?_))))))))))))
 refine Zb (Ze ?_)
 obtain ⟨c100, hB100, hr100, hn100, hb100⟩ := ctl_some hm
 refine W_mid (M := fun f' w' => ∃ s', (c100 = .next s' ∨ c100 = .brk s') ∧ (fun (_ : Unit) => ∃ (s103 : PHeap) , PHeap.le s102 s103 ∧ St w0 s103 (Res.box b100 55 [v100, v101, v102, v103] :: H) w' ∧ f' 1 = Value.pointer (some ⟨b100, 0, none⟩) ∧ f' 16 = v103 ∧ f' 17 = Value.int .i64 ((t100.Ops.length : Int))) s') ?_ ?_
 ·refine W_block (W_forC (fun k' s' f' w' => (fun (_ : Unit) => ∃ (s104 : PHeap) , PHeap.le s102 s104 ∧ St w0 s104 (Res.box b100 55 [v100, v101, v102, v103] :: H) w' ∧ f' 1 = Value.pointer (some ⟨b100, 0, none⟩) ∧ f' 16 = v103 ∧ f' 17 = Value.int .i64 ((t100.Ops.length : Int)) ∧ f' 18 = Value.int .i64 (k' : Int)) s') hB100 ?_ ?_ ?_)
  ·exact ⟨s102, (Zv _), hS101, p100, rfl, rfl, rfl⟩
  ·intro i100 t101 c101 f101 w102 hi100 hI100 hm100 hres100
   obtain ⟨s105, l101, hS103, p102, p103, p104, x100⟩ := hI100
   refine Zc (Zd (Za rfl rfl (Zq rfl x100 p104 (Zb (Ze (Zc (W_true (congrArg Value.bool (decide_eq_true (by omega))) (W_skip (Ze (Zc ?_))))))))))
   refine W_block (Zc (Zd ?_))
   obtain ⟨x101, q100, hm100⟩ := Zg hm100
   refine Za rfl rfl (Exec.index_rep S53 rfl p103 x100 (a103.mono (Zt l100 l101)) q100 ?_)
   intro b101 o100 a104
   refine Za rfl rfl (Zw (E := encOp) hS103 A79 rfl rfl rfl a104 ?_)
   intro v104 q101
   obtain ⟨u100, u101, rfl, r100, r101⟩ := encOp_val.1 q101
   refine Za rfl rfl (Exec.alloc (cs := [Value.string (⟨#[]⟩), Value.int .i64 (0), Value.slice none 0 0, Value.slice none 0 0]) hS103 Z79 rfl rfl ?_)
   intro b102 w103 hS104
   refine Za rfl rfl (Exec.store_box (ds := [Value.string (x101.Name), Value.int .i64 (x101.Cost), u100, u101]) (es := [Value.string (x101.Name), Value.int .i64 (x101.Cost), u100, u101]) hS104 A79 rfl rfl rfl rfl (Zj rfl (Zj rfl (Zj (r100).one (Zj (r101).one one_nil)))) (Nat.le_of_ble_eq_true rfl) rfl ?_)
   intro w104 hS105
   refine Zb (Ze (Zc (Zd (Za rfl rfl (Zp F79_3 rfl rfl rfl (Za rfl rfl (Zn (hS105) A77 rfl rfl rfl (Za rfl rfl (Zr S77 rfl rfl r101 (Za rfl rfl (Exec.gtr rfl rfl rfl (Zb (Ze ?_)))))))))))))
   rcases ite_some hm100 with ⟨hc102, hm100⟩ | ⟨hc102, hm100⟩
   ·refine W_cond_t rfl hc102 (Zc (Zd (Za rfl rfl (Zo (v := Value.bool (true)) rfl rfl (Zb (Ze (W_ret (ib_ret (at_ret (at_ret (ib_ret (at_ret (at_ret ?_)))))))))))))
    have e101 := Zu hm100
    subst c101
    have hq100 := hr100 _ (hres100 (by intro _ h; cases h))
    have e102 := Zu hq100
    subst r
    refine ⟨_, ret1 rfl, ?_⟩
    have hS106 := (hS105).drop
    have hS107 := (hS106).drop
    exact ⟨s105, (Zt l100 l101), hS107, rfl⟩
   refine W_cond_f rfl hc102 ?_
   replace hc102 := Zk hc102
   refine W_skip (ib_normal (Ze (Zd (Za rfl rfl (Exec.add rfl x100 rfl (Za rfl rfl (Zm (v := Value.int .i64 (IntKind.i64.wrap ((i100 : Int) + 1))) rfl rfl (Zb (Ze ?_)))))))))
   have e103 := Zu hm100
   subst c101
   have hS108 := (hS105).drop
   refine ⟨_, rfl, ?_⟩; exact ⟨s105, l101, hS108, p102, p103, p104, (Eq.trans rfl (wrap_up hi100 (SliceRep.le (a103.mono l100))))⟩
  intro t102 f102 w105 hI101 hres101
  obtain ⟨s106, l102, hS109, p105, p106, p107, x102⟩ := hI101
  refine Zc (Zd (Za rfl rfl (Zq rfl x102 p107 (Zb (Ze (Zc (W_false (congrArg Value.bool (decide_eq_false (by omega))) (W_exit (at_exit (at_exit (ib_here (Ze ?_))))))))))))
  refine ⟨_, .inl hres101, ?_⟩; exact ⟨s106, l102, hS109, p105, p106, p107⟩
 rintro f103 w106 ⟨t103, hc103, hM101⟩
 have hm := hc103.elim (hn100 _) (hb100 _)
 clear hc103
 obtain ⟨s107, l103, hS110, p108, p109, p110⟩ := hM101
 refine (Ze (Zc (Zd (Za rfl rfl (Exec.load_box_agg (ds := [v100, v101, v102, v103]) (hS110) A55 rfl p108 rfl ?_)))))
 obtain ⟨y101, q102, hm⟩ := Zg hm
 refine Za rfl rfl (Exec.call rfl rfl Try.func90 rfl N90 (Zi rfl args_nil) ((task_conditions_sim q102 hS110 (a100.mono (Zt l100 l103)) (a101.mono (Zt l100 l103)) (a102.mono (Zt l100 l103)) (a103.mono (Zt l100 l103))).mono ?_))
 rintro _ w107 ⟨v105, rfl, ⟨s108, _, l104, hS111, rfl, r102⟩⟩
 refine ⟨_, rfl, ?_⟩
 obtain ⟨y102, q103, hm⟩ := Zg hm
 refine Za rfl rfl (Exec.call rfl rfl Try.func98 rfl N98 (Zi rfl (Zi rfl args_nil)) ((api_Fact__f99_sim q103 hS111 r102).mono ?_))
 rintro _ w108 ⟨_, rfl, ⟨s109, l105, hS112, rfl⟩⟩
 refine ⟨_, rfl, ?_⟩
 refine Za rfl rfl (Zo (v := Value.bool (y102)) rfl rfl (Zb (Ze (W_ret ?_))))
 have e104 := Zu hm
 subst r
 refine ⟨_, ret1 rfl, ?_⟩
 have hS113 := (hS112).drop
 exact ⟨s109, (Zt (Zt (Zt l100 l103) l104) l105), hS113, rfl⟩
theorem N89 : (Try.f89.name == "runtime.NumGoroutine") = false := by kernel_rfl
theorem task_Proper_sim {w0 w : World} {s : PHeap} {H : List Res} {vars100 : (List Int)} {s_100 : (List Int)} {v100 : Value} {v101 : Value} {r : Bool} (hm : task_Proper_p vars100 s_100 = some r) (hS : St w0 s (H) w) (a100 : SliceRep (encInt .i64) s v100 vars100) (a101 : SliceRep (encInt .i64) s v101 s_100) :
  Calls Try.prog 89 #[v100, v101] w fun e w' => ∃ v, e = .returned v ∧ ((fun (y100 : Bool) => ∃ (s100 : PHeap) , PHeap.le s s100 ∧ St w0 s100 (H) w' ∧ v = Value.bool (y100)) r) := by
 unfold task_Proper_p at hm
 refine calls_of_W Try.func89 rfl rfl (Zc (Zd (Za rfl rfl (Zo (v := Value.bool (false)) rfl rfl (Zb (Ze (Zc (Zc (Zd ?_)))))))))
 refine Za rfl rfl (Zm (v := v101) rfl rfl (Za rfl rfl (Zr S22 rfl rfl a101 (Za rfl rfl (Zm (v := v100) rfl rfl (Za rfl rfl (Zr S22 rfl rfl a100 (Za rfl rfl (Exec.neq rfl rfl rfl (Zb (Ze ?_)))))))))))
 rcases ite_some hm with ⟨hc100, hm⟩ | ⟨hc100, hm⟩
 ·refine W_cond_t rfl hc100 (Zc (Zd (Za rfl rfl (Zo (v := Value.bool (false)) rfl rfl (Zb (Ze (W_ret (at_ret ?_))))))))
  have e100 := Zu hm
  subst r
  refine ⟨_, ret1 rfl, ?_⟩
  exact ⟨s, (Zv _), hS, rfl⟩
 refine W_cond_f rfl hc100 ?_
 replace hc100 := Zk hc100
 refine W_skip (Ze (Zc (Zc (Zd (Za rfl rfl (Zm (v := v101) rfl rfl (Za rfl rfl (Zr S22 rfl rfl a101 (Za rfl rfl (Zm (v := Value.int .i64 (0)) rfl rfl (Zb (Ze ?_))))))))))))
 obtain ⟨c100, hB100, hr100, hn100, hb100⟩ := ctl_some hm
 refine W_mid (M := fun f' w' => ∃ s', (c100 = .next s' ∨ c100 = .brk s') ∧ (fun (_ : Unit) => ∃ (s101 : PHeap) , PHeap.le s s101 ∧ St w0 s101 (H) w' ∧ f' 0 = v100 ∧ f' 12 = v101 ∧ f' 13 = Value.int .i64 ((s_100.length : Int))) s') ?_ ?_
 ·refine W_block (W_forC (fun k' s' f' w' => (fun (_ : Unit) => ∃ (s102 : PHeap) , PHeap.le s s102 ∧ St w0 s102 (H) w' ∧ f' 0 = v100 ∧ f' 12 = v101 ∧ f' 13 = Value.int .i64 ((s_100.length : Int)) ∧ f' 14 = Value.int .i64 (k' : Int)) s') hB100 ?_ ?_ ?_)
  ·exact ⟨s, (Zv _), hS, rfl, rfl, rfl, rfl⟩
  ·intro i100 t100 c101 f100 w100 hi100 hI100 hm100 hres100
   obtain ⟨s103, l100, hS100, p100, p101, p102, x100⟩ := hI100
   refine Zc (Zd (Za rfl rfl (Zq rfl x100 p102 (Zb (Ze (Zc (W_true (congrArg Value.bool (decide_eq_true (by omega))) (W_skip (Ze (Zc ?_))))))))))
   refine W_block (Zc (Zd (Za rfl rfl (Zm (v := Value.int .i64 ((i100 : Int))) rfl x100 ?_))))
   obtain ⟨x101, q100, hm100⟩ := Zg hm100
   refine Za rfl rfl (Exec.index_rep S22 rfl p101 x100 (a101.mono l100) q100 ?_)
   intro b100 o100 a102
   refine Za rfl rfl (Zw (E := (encInt .i64)) hS100 A3 rfl rfl rfl a102 ?_)
   intro v102 q101
   obtain rfl := encInt_val.1 q101
   refine Za rfl rfl (Zo (v := Value.int .i64 ((i100 : Int))) rfl rfl (Za rfl rfl (Zo (v := Value.int .i64 (x101)) rfl rfl (Zb (Ze (Zc ?_))))))
   obtain ⟨z100, ht100, hm100⟩ := Zg hm100
   refine W_mid (M := fun f' w' => (fun (z100 : Bool) => ∃ (s104 : PHeap) , PHeap.le s103 s104 ∧ St w0 s104 (H) w' ∧ f' 0 = v100 ∧ f' 12 = v101 ∧ f' 13 = Value.int .i64 ((s_100.length : Int)) ∧ f' 14 = Value.int .i64 ((i100 : Int)) ∧ f' 28 = Value.bool (z100)) z100) ?_ ?_
   ·refine Zd (Za rfl rfl (Zm (v := Value.int .i64 (x101)) rfl rfl (Za rfl rfl (Zq rfl rfl rfl (Za rfl rfl (Zm (v := Value.bool (decide (x101 < 0))) rfl rfl ?_))))))
    rcases ite_some ht100 with ⟨hc101, ht100⟩ | ⟨hc101, ht100⟩
    ·refine Zl rfl (Zf rfl (congrArg Value.bool hc101)) rfl rfl (Zl rfl (Zf rfl (congrArg Value.bool hc101)) rfl rfl (Zl rfl (Zf rfl (congrArg Value.bool hc101)) rfl rfl (Zl rfl (Zf rfl (congrArg Value.bool hc101)) rfl rfl (Zl rfl (Zf rfl (congrArg Value.bool hc101)) rfl rfl (Zl rfl (Zf rfl (congrArg Value.bool hc101)) rfl rfl (Za rfl rfl (Zs (v := Value.bool (true)) rfl (congrArg Value.bool hc101) rfl (Zb (Ze ?_)))))))))
     have e101 := Zu ht100
     subst z100
     exact ⟨s103, (Zv _), hS100, p100, p101, p102, x100, rfl⟩
    replace hc101 := Zk hc101
    refine WL_run rfl (Zf rfl (congrArg Value.bool hc101)) rfl (Zm (v := Value.int .i64 (x101)) rfl rfl (WL_run rfl (Zf rfl (congrArg Value.bool hc101)) rfl (Zm (v := v100) rfl p100 (WL_run rfl (Zf rfl (congrArg Value.bool hc101)) rfl (Zm (v := Value.int .i64 ((i100 : Int))) rfl rfl ?_)))))
    obtain ⟨x102, q102, ht100⟩ := Zg ht100
    refine WL_run rfl (Zf rfl (congrArg Value.bool hc101)) rfl (Exec.index_rep S22 rfl rfl rfl (a100.mono l100) q102 ?_)
    intro b101 o101 a103
    refine WL_run rfl (Zf rfl (congrArg Value.bool hc101)) rfl (Zw (E := (encInt .i64)) hS100 A3 rfl rfl rfl a103 ?_)
    intro v103 q103
    obtain rfl := encInt_val.1 q103
    refine WL_run rfl (Zf rfl (congrArg Value.bool hc101)) rfl (Exec.geq rfl rfl rfl (Za rfl rfl (Exec.pick_f (v := Value.bool (decide (x102 ≤ x101))) rfl (congrArg Value.bool hc101) rfl (Zb (Ze ?_)))))
    have e102 := Zu ht100
    subst z100
    exact ⟨s103, (Zv _), hS100, p100, p101, p102, x100, rfl⟩
   intro f101 w101 hM100
   obtain ⟨s105, l101, hS101, p103, p104, p105, p106, p107⟩ := hM100
   refine (Ze ?_)
   rcases ite_some hm100 with ⟨hc102, hm100⟩ | ⟨hc102, hm100⟩
   ·refine W_cond_t p107 hc102 (Zc (Zd (Za rfl rfl (Zo (v := Value.bool (false)) rfl rfl (Zb (Ze (W_ret (ib_ret (at_ret (at_ret (ib_ret (at_ret (at_ret ?_)))))))))))))
    have e103 := Zu hm100
    subst c101
    have hq100 := hr100 _ (hres100 (by intro _ h; cases h))
    have e104 := Zu hq100
    subst r
    refine ⟨_, ret1 rfl, ?_⟩
    exact ⟨s105, (Zt l100 l101), hS101, rfl⟩
   refine W_cond_f p107 hc102 ?_
   replace hc102 := Zk hc102
   refine W_skip (ib_normal (Ze (Zd (Za rfl rfl (Exec.add rfl p106 rfl (Za rfl rfl (Zm (v := Value.int .i64 (IntKind.i64.wrap ((i100 : Int) + 1))) rfl rfl (Zb (Ze ?_)))))))))
   have e105 := Zu hm100
   subst c101
   refine ⟨_, rfl, ?_⟩; exact ⟨s105, (Zt l100 l101), hS101, p103, p104, p105, (Eq.trans rfl (wrap_up hi100 (SliceRep.le a101)))⟩
  intro t101 f102 w102 hI101 hres101
  obtain ⟨s106, l102, hS102, p108, p109, p110, x103⟩ := hI101
  refine Zc (Zd (Za rfl rfl (Zq rfl x103 p110 (Zb (Ze (Zc (W_false (congrArg Value.bool (decide_eq_false (by omega))) (W_exit (at_exit (at_exit (ib_here (Ze ?_))))))))))))
  refine ⟨_, .inl hres101, ?_⟩; exact ⟨s106, l102, hS102, p108, p109, p110⟩
 rintro f103 w103 ⟨t102, hc103, hM101⟩
 have hm := hc103.elim (hn100 _) (hb100 _)
 clear hc103
 obtain ⟨s107, l103, hS103, p111, p112, p113⟩ := hM101
 refine (Ze (Zc (Zd (Za rfl rfl (Zo (v := Value.bool (true)) rfl rfl (Zb (Ze (W_ret ?_))))))))
 have e106 := Zu hm
 subst r
 refine ⟨_, ret1 rfl, ?_⟩
 exact ⟨s107, l103, hS103, rfl⟩
theorem N91 : (Try.f91.name == "runtime.NumGoroutine") = false := by kernel_rfl
theorem task_Facts_sim {w0 w : World} {s : PHeap} {H : List Res} {vars100 : (List Int)} {f_100 : (List Fact)} {v100 : Value} {v101 : Value} {r : Bool} (hm : task_Facts_p vars100 f_100 = some r) (hS : St w0 s (H) w) (a100 : SliceRep (encInt .i64) s v100 vars100) (a101 : SliceRep encFact s v101 f_100) :
  Calls Try.prog 91 #[v100, v101] w fun e w' => ∃ v, e = .returned v ∧ ((fun (y100 : Bool) => ∃ (s100 : PHeap) , PHeap.le s s100 ∧ St w0 s100 (H) w' ∧ v = Value.bool (y100)) r) := by
 unfold task_Facts_p at hm
 refine calls_of_W Try.func91 rfl rfl (Zc (Zd (Za rfl rfl (Zo (v := Value.bool (false)) rfl rfl (Zb (Ze (Zc (Zd (Za rfl rfl (Zo (v := Value.int .i64 ((-1))) rfl rfl ?_))))))))))
 refine Zb (Ze (Zc (Zc (Zd (Za rfl rfl (Zm (v := v101) rfl rfl (Za rfl rfl (Zr S52 rfl rfl a101 (Za rfl rfl (Zm (v := Value.int .i64 (0)) rfl rfl (Zb (Ze ?_))))))))))))
 obtain ⟨c100, hB100, hr100, hn100, hb100⟩ := ctl_some hm
 refine W_mid (M := fun f' w' => ∃ s', (c100 = .next s' ∨ c100 = .brk s') ∧ (fun (last100 : Int) => ∃ (s101 : PHeap) , PHeap.le s s101 ∧ St w0 s101 (H) w' ∧ f' 0 = v100 ∧ f' 5 = Value.int .i64 (last100) ∧ f' 8 = v101 ∧ f' 9 = Value.int .i64 ((f_100.length : Int))) s') ?_ ?_
 ·refine W_block (W_forC (fun k' s' f' w' => (fun (last101 : Int) => ∃ (s102 : PHeap) , PHeap.le s s102 ∧ St w0 s102 (H) w' ∧ f' 0 = v100 ∧ f' 5 = Value.int .i64 (last101) ∧ f' 8 = v101 ∧ f' 9 = Value.int .i64 ((f_100.length : Int)) ∧ f' 10 = Value.int .i64 (k' : Int)) s') hB100 ?_ ?_ ?_)
  ·exact ⟨s, (Zv _), hS, rfl, rfl, rfl, rfl, rfl⟩
  ·intro i100 last101 c101 f100 w100 hi100 hI100 hm100 hres100
   obtain ⟨s103, l100, hS100, p100, p101, p102, p103, x100⟩ := hI100
   refine Zc (Zd (Za rfl rfl (Zq rfl x100 p103 (Zb (Ze (Zc (W_true (congrArg Value.bool (decide_eq_true (by omega))) (W_skip (Ze (Zc ?_))))))))))
   refine W_block (Zc (Zd ?_))
   obtain ⟨x101, q100, hm100⟩ := Zg hm100
   refine Za rfl rfl (Exec.index_rep S52 rfl p102 x100 (a101.mono l100) q100 ?_)
   intro b100 o100 a102
   refine Za rfl rfl (Zw (E := encFact) hS100 A82 rfl rfl rfl a102 ?_)
   intro v102 q101
   obtain rfl := encFact_val.1 q101
   refine Za rfl rfl (Exec.alloc (cs := [Value.int .i64 (0), Value.int .i64 (0)]) hS100 Z82 rfl rfl ?_)
   intro b101 w101 hS101
   refine Za rfl rfl (Exec.store_box (ds := [Value.int .i64 (x101.Var), Value.int .i64 (x101.Val)]) (es := [Value.int .i64 (x101.Var), Value.int .i64 (x101.Val)]) hS101 A82 rfl rfl rfl rfl (Zj rfl (Zj rfl one_nil)) (Nat.le_of_ble_eq_true rfl) rfl ?_)
   intro w102 hS102
   refine Zb (Ze (Zc (Zc ?_)))
   obtain ⟨z100, ht100, hm100⟩ := Zg hm100
   refine W_mid (M := fun f' w' => (fun (z100 : Bool) => ∃ (s104 : PHeap) , PHeap.le s103 s104 ∧ St w0 s104 (Res.box b101 82 [Value.int .i64 (x101.Var), Value.int .i64 (x101.Val)] :: H) w' ∧ f' 0 = v100 ∧ f' 7 = Value.pointer (some ⟨b101, 0, none⟩) ∧ f' 8 = v101 ∧ f' 9 = Value.int .i64 ((f_100.length : Int)) ∧ f' 10 = Value.int .i64 ((i100 : Int)) ∧ f' 39 = Value.bool (z100)) z100) ?_ ?_
   ·refine W_dl (n0 := 26) (.q 0 (.q 1 (.q 2 (.q 3 (.q 4 (.q 5 (.q 6 (.q 7 (.q 8 (.q 9 (.q 10 (.q 11 (.q 12 (.q 13 (.q 14 (.q 15 (.q 16 (.q 17 (.q 18 (.q 19 (.q 20 (.q 21 (.q 22 (.q 23 (.q 24 (.q 25 .done)))))))))))))))))))))))))) hmix (by kernel_rfl) (by kernel_rfl) ?_
    have hS103 := hS102.drew
    refine DL_q rfl rfl (Zp F82_0 rfl rfl rfl ⟨rfl, ?_⟩)
    refine DL_q rfl rfl (Zn (hS103) A3 rfl rfl rfl ⟨rfl, ?_⟩)
    refine DL_q rfl rfl (Zm (v := Value.int .i64 (last101)) rfl p101 ⟨rfl, ?_⟩)
    refine DL_q rfl rfl (Exec.leq rfl rfl rfl ⟨rfl, ?_⟩)
    refine DL_q rfl rfl (Zm (v := Value.bool (decide (x101.Var ≤ last101))) rfl rfl ⟨rfl, ?_⟩)
    rcases ite_some ht100 with ⟨hc100, ht100⟩ | ⟨hc100, ht100⟩
    ·refine DL_qp rfl rfl (Zf rfl (congrArg Value.bool hc100)) rfl (DL_qp rfl rfl (Zf rfl (congrArg Value.bool hc100)) rfl (DL_qp rfl rfl (Zf rfl (congrArg Value.bool hc100)) rfl (DL_qp rfl rfl (Zf rfl (congrArg Value.bool hc100)) rfl (DL_qp rfl rfl (Zf rfl (congrArg Value.bool hc100)) rfl (DL_q rfl rfl (Zs (v := Value.bool (true)) rfl (congrArg Value.bool hc100) rfl ⟨rfl, ?_⟩))))))
     refine DL_q rfl rfl (Zm (v := Value.bool (true)) rfl rfl ⟨rfl, ?_⟩)
     refine DL_qp rfl rfl (Zf rfl rfl) rfl (DL_qp rfl rfl (Zf rfl rfl) rfl (DL_qp rfl rfl (Zf rfl rfl) rfl (DL_q rfl rfl (Zs (v := Value.bool (true)) rfl rfl rfl ⟨rfl, ?_⟩))))
     refine DL_q rfl rfl (Zm (v := Value.bool (true)) rfl rfl ⟨rfl, ?_⟩)
     refine DL_qp rfl rfl (Zf rfl rfl) rfl (DL_qp rfl rfl (Zf rfl rfl) rfl (DL_qp rfl rfl (Zf rfl rfl) rfl (DL_qp rfl rfl (Zf rfl rfl) rfl (DL_qp rfl rfl (Zf rfl rfl) rfl (DL_qp rfl rfl (Zf rfl rfl) rfl (DL_qp rfl rfl (Zf rfl rfl) rfl (DL_qp rfl rfl (Zf rfl rfl) rfl ?_)))))))
     refine DL_q rfl rfl (Zs (v := Value.bool (true)) rfl rfl rfl ⟨rfl, ?_⟩)
     refine DL_done (Zb (Ze ?_))
     have e100 := Zu ht100
     subst z100
     exact ⟨s103, (Zv _), hS103, p100, rfl, p102, p103, x100, rfl⟩
    replace hc100 := Zk hc100
    refine DL_qg rfl rfl (Zf rfl (congrArg Value.bool hc100)) (Zp F82_0 rfl rfl rfl ⟨rfl, ?_⟩)
    refine DL_qg rfl rfl (Zf rfl (congrArg Value.bool hc100)) (Zn (hS103) A3 rfl rfl rfl ⟨rfl, ?_⟩)
    refine DL_qg rfl rfl (Zf rfl (congrArg Value.bool hc100)) (Zm (v := v100) rfl p100 ⟨rfl, ?_⟩)
    refine DL_qg rfl rfl (Zf rfl (congrArg Value.bool hc100)) (Zr S22 rfl rfl (a100.mono l100) ⟨rfl, ?_⟩)
    refine DL_qg rfl rfl (Zf rfl (congrArg Value.bool hc100)) (Exec.geq rfl rfl rfl ⟨rfl, ?_⟩)
    refine DL_q rfl rfl (Exec.pick_f (v := Value.bool (decide ((vars100.length : Int) ≤ x101.Var))) rfl (congrArg Value.bool hc100) rfl ⟨rfl, ?_⟩)
    refine DL_q rfl rfl (Zm (v := Value.bool (decide ((vars100.length : Int) ≤ x101.Var))) rfl rfl ⟨rfl, ?_⟩)
    rcases ite_some ht100 with ⟨hc101, ht100⟩ | ⟨hc101, ht100⟩
    ·refine DL_qp rfl rfl (Zf rfl (congrArg Value.bool hc101)) rfl (DL_qp rfl rfl (Zf rfl (congrArg Value.bool hc101)) rfl (DL_qp rfl rfl (Zf rfl (congrArg Value.bool hc101)) rfl (DL_q rfl rfl (Zs (v := Value.bool (true)) rfl (congrArg Value.bool hc101) rfl ⟨rfl, ?_⟩))))
     refine DL_q rfl rfl (Zm (v := Value.bool (true)) rfl rfl ⟨rfl, ?_⟩)
     refine DL_qp rfl rfl (Zf rfl rfl) rfl (DL_qp rfl rfl (Zf rfl rfl) rfl (DL_qp rfl rfl (Zf rfl rfl) rfl (DL_qp rfl rfl (Zf rfl rfl) rfl (DL_qp rfl rfl (Zf rfl rfl) rfl (DL_qp rfl rfl (Zf rfl rfl) rfl (DL_qp rfl rfl (Zf rfl rfl) rfl (DL_qp rfl rfl (Zf rfl rfl) rfl ?_)))))))
     refine DL_q rfl rfl (Zs (v := Value.bool (true)) rfl rfl rfl ⟨rfl, ?_⟩)
     refine DL_done (Zb (Ze ?_))
     have e101 := Zu ht100
     subst z100
     exact ⟨s103, (Zv _), hS103, p100, rfl, p102, p103, x100, rfl⟩
    replace hc101 := Zk hc101
    refine DL_qg rfl rfl (Zf rfl (congrArg Value.bool hc101)) (Zp F82_1 rfl rfl rfl ⟨rfl, ?_⟩)
    refine DL_qg rfl rfl (Zf rfl (congrArg Value.bool hc101)) (Zn (hS103) A3 rfl rfl rfl ⟨rfl, ?_⟩)
    refine DL_qg rfl rfl (Zf rfl (congrArg Value.bool hc101)) (Zq rfl rfl rfl ⟨rfl, ?_⟩)
    refine DL_q rfl rfl (Exec.pick_f (v := Value.bool (decide (x101.Val < 0))) rfl (congrArg Value.bool hc101) rfl ⟨rfl, ?_⟩)
    refine DL_q rfl rfl (Zm (v := Value.bool (decide (x101.Val < 0))) rfl rfl ⟨rfl, ?_⟩)
    rcases ite_some ht100 with ⟨hc102, ht100⟩ | ⟨hc102, ht100⟩
    ·refine DL_qp rfl rfl (Zf rfl (congrArg Value.bool hc102)) rfl (DL_qp rfl rfl (Zf rfl (congrArg Value.bool hc102)) rfl (DL_qp rfl rfl (Zf rfl (congrArg Value.bool hc102)) rfl (DL_qp rfl rfl (Zf rfl (congrArg Value.bool hc102)) rfl (DL_qp rfl rfl (Zf rfl (congrArg Value.bool hc102)) rfl (DL_qp rfl rfl (Zf rfl (congrArg Value.bool hc102)) rfl (DL_qp rfl rfl (Zf rfl (congrArg Value.bool hc102)) rfl (DL_qp rfl rfl (Zf rfl (congrArg Value.bool hc102)) rfl ?_)))))))
     refine DL_q rfl rfl (Zs (v := Value.bool (true)) rfl (congrArg Value.bool hc102) rfl ⟨rfl, ?_⟩)
     refine DL_done (Zb (Ze ?_))
     have e102 := Zu ht100
     subst z100
     exact ⟨s103, (Zv _), hS103, p100, rfl, p102, p103, x100, rfl⟩
    replace hc102 := Zk hc102
    refine DL_qg rfl rfl (Zf rfl (congrArg Value.bool hc102)) (Zp F82_1 rfl rfl rfl ⟨rfl, ?_⟩)
    refine DL_qg rfl rfl (Zf rfl (congrArg Value.bool hc102)) (Zn (hS103) A3 rfl rfl rfl ⟨rfl, ?_⟩)
    refine DL_qg rfl rfl (Zf rfl (congrArg Value.bool hc102)) (Zm (v := v100) rfl p100 ⟨rfl, ?_⟩)
    refine DL_qg rfl rfl (Zf rfl (congrArg Value.bool hc102)) (Zp F82_0 rfl rfl rfl ⟨rfl, ?_⟩)
    refine DL_qg rfl rfl (Zf rfl (congrArg Value.bool hc102)) (Zn (hS103) A3 rfl rfl rfl ⟨rfl, ?_⟩)
    obtain ⟨x102, q102, ht100⟩ := Zg ht100
    refine DL_qg rfl rfl (Zf rfl (congrArg Value.bool hc102)) (Exec.index_repE S22 rfl rfl rfl (a100.mono l100) q102 ?_)
    intro b102 o101 a103 e103
    refine ⟨rfl, ?_⟩
    refine DL_qg rfl rfl (Zf rfl (congrArg Value.bool hc102)) (Zw (E := (encInt .i64)) hS103 A3 rfl rfl rfl a103 ?_)
    intro v103 q103
    obtain rfl := encInt_val.1 q103
    refine ⟨rfl, ?_⟩
    refine DL_qg rfl rfl (Zf rfl (congrArg Value.bool hc102)) (Exec.geq rfl rfl rfl ⟨rfl, ?_⟩)
    refine DL_q rfl rfl (Exec.pick_f (v := Value.bool (decide (x102 ≤ x101.Val))) rfl (congrArg Value.bool hc102) rfl ⟨rfl, ?_⟩)
    refine DL_done (Zb (Ze ?_))
    have e104 := Zu ht100
    subst z100
    exact ⟨s103, (Zv _), hS103, p100, rfl, p102, p103, x100, rfl⟩
   intro f101 w103 hM100
   obtain ⟨s105, l101, hS104, p104, p105, p106, p107, p108, p109⟩ := hM100
   refine (Ze ?_)
   rcases ite_some hm100 with ⟨hc103, hm100⟩ | ⟨hc103, hm100⟩
   ·refine W_cond_t p109 hc103 (Zc (Zd (Za rfl rfl (Zo (v := Value.bool (false)) rfl rfl (Zb (Ze (W_ret (at_ret (ib_ret (at_ret (at_ret (ib_ret (at_ret (at_ret ?_))))))))))))))
    have e105 := Zu hm100
    subst c101
    have hq100 := hr100 _ (hres100 (by intro _ h; cases h))
    have e106 := Zu hq100
    subst r
    refine ⟨_, ret1 rfl, ?_⟩
    have hS105 := (hS104).drop
    exact ⟨s105, (Zt l100 l101), hS105, rfl⟩
   refine W_cond_f p109 hc103 ?_
   replace hc103 := Zk hc103
   refine W_skip (Ze (Zd (Za rfl rfl (Zp F82_0 rfl p105 rfl (Za rfl rfl (Zn (hS104) A3 rfl rfl rfl (Za rfl rfl (Zo (v := Value.int .i64 (x101.Var)) rfl rfl (Zb (ib_normal (Ze (Zd (Za rfl rfl (Exec.add rfl p108 rfl ?_))))))))))))))
   refine Za rfl rfl (Zm (v := Value.int .i64 (IntKind.i64.wrap ((i100 : Int) + 1))) rfl rfl (Zb (Ze ?_)))
   have e107 := Zu hm100
   subst c101
   have hS106 := (hS104).drop
   refine ⟨_, rfl, ?_⟩; exact ⟨s105, (Zt l100 l101), hS106, p104, rfl, p106, p107, (Eq.trans rfl (wrap_up hi100 (SliceRep.le a101)))⟩
  intro last101 f102 w104 hI101 hres101
  obtain ⟨s106, l102, hS107, p110, p111, p112, p113, x103⟩ := hI101
  refine Zc (Zd (Za rfl rfl (Zq rfl x103 p113 (Zb (Ze (Zc (W_false (congrArg Value.bool (decide_eq_false (by omega))) (W_exit (at_exit (at_exit (ib_here (Ze ?_))))))))))))
  refine ⟨_, .inl hres101, ?_⟩; exact ⟨s106, l102, hS107, p110, p111, p112, p113⟩
 rintro f103 w105 ⟨last100, hc104, hM101⟩
 have hm := hc104.elim (hn100 _) (hb100 _)
 clear hc104
 obtain ⟨s107, l103, hS108, p114, p115, p116, p117⟩ := hM101
 refine (Ze (Zc (Zd (Za rfl rfl (Zo (v := Value.bool (true)) rfl rfl (Zb (Ze (W_ret ?_))))))))
 have e108 := Zu hm
 subst r
 refine ⟨_, ret1 rfl, ?_⟩
 exact ⟨s107, l103, hS108, rfl⟩
theorem N92 : (Try.f92.name == "runtime.NumGoroutine") = false := by kernel_rfl
theorem task_named_sim {w0 w : World} {s : PHeap} {H : List Res} {s_100 : ByteArray}  {r : Bool} (hm : task_named_p s_100 = some r) (hS : St w0 s (H) w)  :
  Calls Try.prog 92 #[Value.string (s_100)] w fun e w' => ∃ v, e = .returned v ∧ ((fun (y100 : Bool) => ∃ (s100 : PHeap) , PHeap.le s s100 ∧ St w0 s100 (H) w' ∧ v = Value.bool (y100)) r) := by
 unfold task_named_p at hm
 refine calls_of_W Try.func92 rfl rfl (Zc (Zd (Za rfl rfl (Zo (v := Value.bool (false)) rfl rfl (Zb (Ze (Zc (Zc (Zd ?_)))))))))
 refine Za rfl rfl (Zm (v := Value.string (s_100)) rfl rfl (Za rfl rfl (Exec.len_str Try.underlying9 rfl rfl (Za rfl rfl (Zm (v := Value.int .i64 (0)) rfl rfl (Zb (Ze ?_)))))))
 obtain ⟨u100, q100, hm⟩ := Zg hm
 obtain ⟨c100, hB100, hr100, hn100, hb100⟩ := ctl_some hm
 refine W_mid (M := fun f' w' => ∃ s', (c100 = .next s' ∨ c100 = .brk s') ∧ (fun (_ : Unit) => ∃ (s101 : PHeap) , PHeap.le s s101 ∧ St w0 s101 (H) w' ∧ f' 0 = Value.string (s_100) ∧ f' 5 = Value.int .i64 ((s_100.size : Int))) s') ?_ ?_
 ·refine W_block (W_forC (fun k' s' f' w' => (fun (_ : Unit) => ∃ (s102 : PHeap) , PHeap.le s s102 ∧ St w0 s102 (H) w' ∧ f' 0 = Value.string (s_100) ∧ f' 5 = Value.int .i64 ((s_100.size : Int)) ∧ f' 6 = Value.int .i64 (k' : Int)) s') hB100 ?_ ?_ ?_)
  ·exact ⟨s, (Zv _), hS, rfl, rfl, rfl⟩
  ·intro i100 t100 c101 f100 w100 hi100 hI100 hm100 hres100
   obtain ⟨s103, l100, hS100, p100, p101, x100⟩ := hI100
   refine Zc (Zd (Za rfl rfl (Zq rfl x100 p101 (Zb (Ze (Zc (W_true (congrArg Value.bool (decide_eq_true (by omega))) (W_skip (Ze (Zc ?_))))))))))
   refine W_block (Zc (Zd (Za rfl rfl (Zm (v := Value.int .i64 ((i100 : Int))) rfl x100 (Za rfl rfl (Zo (v := Value.int .i64 ((i100 : Int))) rfl rfl (Zb (Ze (Zc ?_)))))))))
   obtain ⟨z100, ht100, hm100⟩ := Zg hm100
   refine W_mid (M := fun f' w' => (fun (z100 : Bool) => ∃ (s104 : PHeap) , PHeap.le s103 s104 ∧ St w0 s104 (H) w' ∧ f' 0 = Value.string (s_100) ∧ f' 5 = Value.int .i64 ((s_100.size : Int)) ∧ f' 6 = Value.int .i64 ((i100 : Int)) ∧ f' 18 = Value.bool (z100)) z100) ?_ ?_
   ·refine Zd (Za rfl rfl (Zm (v := Value.string (s_100)) rfl p100 (Za rfl rfl (Zm (v := Value.int .i64 ((i100 : Int))) rfl rfl ?_))))
    obtain ⟨x101, q101, ht100⟩ := Zg ht100
    refine Za rfl rfl (Exec.index_str Try.underlying9 rfl rfl rfl q101 (Za rfl rfl (Zq rfl rfl rfl (Za rfl rfl (Zm (v := Value.bool (decide (x101 < 32))) rfl rfl ?_)))))
    rcases ite_some ht100 with ⟨hc100, ht100⟩ | ⟨hc100, ht100⟩
    ·refine Zl rfl (Zf rfl (congrArg Value.bool hc100)) rfl rfl (Zl rfl (Zf rfl (congrArg Value.bool hc100)) rfl rfl (Zl rfl (Zf rfl (congrArg Value.bool hc100)) rfl rfl (Zl rfl (Zf rfl (congrArg Value.bool hc100)) rfl rfl (Za rfl rfl (Zs (v := Value.bool (true)) rfl (congrArg Value.bool hc100) rfl (Zb (Ze ?_)))))))
     have e100 := Zu ht100
     subst z100
     exact ⟨s103, (Zv _), hS100, p100, p101, x100, rfl⟩
    replace hc100 := Zk hc100
    refine WL_run rfl (Zf rfl (congrArg Value.bool hc100)) rfl (Zm (v := Value.string (s_100)) rfl p100 (WL_run rfl (Zf rfl (congrArg Value.bool hc100)) rfl (Zm (v := Value.int .i64 ((i100 : Int))) rfl rfl (WL_run rfl (Zf rfl (congrArg Value.bool hc100)) rfl (Exec.index_str Try.underlying9 rfl rfl rfl q101 (WL_run rfl (Zf rfl (congrArg Value.bool hc100)) rfl (Exec.gtr rfl rfl rfl (Za rfl rfl (Exec.pick_f (v := Value.bool (decide (126 < x101))) rfl (congrArg Value.bool hc100) rfl (Zb (Ze ?_)))))))))))
    have e101 := Zu ht100
    subst z100
    exact ⟨s103, (Zv _), hS100, p100, p101, x100, rfl⟩
   intro f101 w101 hM100
   obtain ⟨s105, l101, hS101, p102, p103, p104, p105⟩ := hM100
   refine (Ze ?_)
   rcases ite_some hm100 with ⟨hc101, hm100⟩ | ⟨hc101, hm100⟩
   ·refine W_cond_t p105 hc101 (Zc (Zd (Za rfl rfl (Zo (v := Value.bool (false)) rfl rfl (Zb (Ze (W_ret (ib_ret (at_ret (at_ret (ib_ret (at_ret (at_ret ?_)))))))))))))
    have e102 := Zu hm100
    subst c101
    have hq100 := hr100 _ (hres100 (by intro _ h; cases h))
    have e103 := Zu hq100
    subst r
    refine ⟨_, ret1 rfl, ?_⟩
    exact ⟨s105, (Zt l100 l101), hS101, rfl⟩
   refine W_cond_f p105 hc101 ?_
   replace hc101 := Zk hc101
   refine W_skip (ib_normal (Ze (Zd (Za rfl rfl (Exec.add rfl p104 rfl (Za rfl rfl (Zm (v := Value.int .i64 (IntKind.i64.wrap ((i100 : Int) + 1))) rfl rfl (Zb (Ze ?_)))))))))
   have e104 := Zu hm100
   subst c101
   refine ⟨_, rfl, ?_⟩; exact ⟨s105, (Zt l100 l101), hS101, p102, p103, (Eq.trans rfl (wrap_up hi100 (by have h := must_some q100; simp at h; simp only [maxLen]; omega)))⟩
  intro t101 f102 w102 hI101 hres101
  obtain ⟨s106, l102, hS102, p106, p107, x102⟩ := hI101
  refine Zc (Zd (Za rfl rfl (Zq rfl x102 p107 (Zb (Ze (Zc (W_false (congrArg Value.bool (decide_eq_false (by omega))) (W_exit (at_exit (at_exit (ib_here (Ze ?_))))))))))))
  refine ⟨_, .inl hres101, ?_⟩; exact ⟨s106, l102, hS102, p106, p107⟩
 rintro f103 w103 ⟨t102, hc102, hM101⟩
 have hm := hc102.elim (hn100 _) (hb100 _)
 clear hc102
 obtain ⟨s107, l103, hS103, p108, p109⟩ := hM101
 refine (Ze (Zc (Zd (Za rfl rfl (Zm (v := Value.string (s_100)) rfl p108 (Za rfl rfl (Exec.len_str Try.underlying9 rfl rfl (Za rfl rfl (Exec.leq rfl rfl rfl (Za rfl rfl (Zo (v := Value.bool (decide ((s_100.size : Int) ≤ 256))) rfl rfl (Zb (Ze ?_)))))))))))))
 refine W_ret ?_
 have e105 := Zu hm
 subst r
 refine ⟨_, ret1 rfl, ?_⟩
 exact ⟨s107, l103, hS103, rfl⟩
theorem N76 : (Try.f76.name == "runtime.NumGoroutine") = false := by kernel_rfl
theorem task_Check_sim {w0 w : World} {s : PHeap} {H : List Res} {t100 : Task} {v100 : Value} {v101 : Value} {v102 : Value} {v103 : Value} {r : (Option Int)} (hm : task_Check_p t100 = some r) (hS : St w0 s (H) w) (a100 : SliceRep (encInt .i64) s v100 t100.Vars) (a101 : SliceRep (encInt .i64) s v101 t100.Init) (a102 : SliceRep encFact s v102 t100.Goal) (a103 : SliceRep encOp s v103 t100.Ops) :
  Calls Try.prog 76 #[Value.agg #[v100, v101, v102, v103]] w fun e w' => ∃ v, e = .returned v ∧ ((fun (y100 : (Option Int)) => ∃ (s100 : PHeap) , PHeap.le s s100 ∧ St w0 s100 (H) w' ∧ v = errV 39 (y100)) r) := by
 unfold task_Check_p at hm
 refine calls_of_W Try.func76 rfl rfl (Zc (Zd (Za rfl rfl (Exec.box (cs := [v100, v101, v102, v103]) hS rfl rfl rfl ?_))))
 intro b100 w100 hS100
 refine Za rfl rfl (Zo (v := errV 39 (none)) rfl rfl (Zb (Ze (Zc (Zc (Zd (Za rfl rfl (Exec.load_box_agg (ds := [v100, v101, v102, v103]) (hS100) A55 rfl rfl rfl ?_))))))))
 obtain ⟨y101, q100, hm⟩ := Zg hm
 refine Za rfl rfl (Exec.call rfl rfl Try.func88 rfl N88 (Zi rfl args_nil) ((task_large_sim q100 hS100 a100 a101 a102 a103).mono ?_))
 rintro _ w101 ⟨_, rfl, ⟨s101, l100, hS101, rfl⟩⟩
 refine ⟨_, rfl, ?_⟩
 refine Zb (Ze ?_)
 rcases ite_some hm with ⟨hc100, hm⟩ | ⟨hc100, hm⟩
 ·refine W_cond_t rfl hc100 (Zc (Zd (Za rfl rfl (Exec.makeInterface C39 rfl rfl (Za rfl rfl (Zo (v := errV 39 (some 5)) rfl rfl (Zb (Ze (W_ret (at_ret ?_))))))))))
  have e100 := Zu hm
  subst r
  refine ⟨_, ret1 rfl, ?_⟩
  have hS102 := (hS101).drop
  exact ⟨s101, l100, hS102, rfl⟩
 refine W_cond_f rfl hc100 ?_
 replace hc100 := Zk hc100
 refine W_skip (Ze (Zc (Zc (Zd (Za rfl rfl (Zp F55_0 rfl rfl rfl (Za rfl rfl (Zn (hS101) A22 rfl rfl rfl (Za rfl rfl (Zr S22 rfl rfl (a100.mono l100) (Za rfl rfl (Zm (v := Value.int .i64 (0)) rfl rfl ?_))))))))))))
 refine Zb (Ze ?_)
 obtain ⟨c100, hB100, hr100, hn100, hb100⟩ := ctl_some hm
 refine W_mid (M := fun f' w' => ∃ s', (c100 = .next s' ∨ c100 = .brk s') ∧ (fun (_ : Unit) => ∃ (s102 : PHeap) , PHeap.le s101 s102 ∧ St w0 s102 (Res.box b100 55 [v100, v101, v102, v103] :: H) w' ∧ f' 1 = Value.pointer (some ⟨b100, 0, none⟩) ∧ f' 19 = v100 ∧ f' 20 = Value.int .i64 ((t100.Vars.length : Int))) s') ?_ ?_
 ·refine W_block (W_forC (fun k' s' f' w' => (fun (_ : Unit) => ∃ (s103 : PHeap) , PHeap.le s101 s103 ∧ St w0 s103 (Res.box b100 55 [v100, v101, v102, v103] :: H) w' ∧ f' 1 = Value.pointer (some ⟨b100, 0, none⟩) ∧ f' 19 = v100 ∧ f' 20 = Value.int .i64 ((t100.Vars.length : Int)) ∧ f' 21 = Value.int .i64 (k' : Int)) s') hB100 ?_ ?_ ?_)
  ·exact ⟨s101, (Zv _), hS101, rfl, rfl, rfl, rfl⟩
  ·intro i100 t101 c101 f100 w102 hi100 hI100 hm100 hres100
   obtain ⟨s104, l101, hS103, p100, p101, p102, x100⟩ := hI100
   refine Zc (Zd (Za rfl rfl (Zq rfl x100 p102 (Zb (Ze (Zc (W_true (congrArg Value.bool (decide_eq_true (by omega))) (W_skip (Ze (Zc ?_))))))))))
   refine W_block (Zc (Zd ?_))
   obtain ⟨x101, q101, hm100⟩ := Zg hm100
   refine Za rfl rfl (Exec.index_rep S22 rfl p101 x100 (a100.mono (Zt l100 l101)) q101 ?_)
   intro b101 o100 a104
   refine Za rfl rfl (Zw (E := (encInt .i64)) hS103 A3 rfl rfl rfl a104 ?_)
   intro v104 q102
   obtain rfl := encInt_val.1 q102
   refine Za rfl rfl (Zo (v := Value.int .i64 (x101)) rfl rfl (Zb (Ze (Zc (W_mid (M := fun f' w' => ∃ (s105 : PHeap) , PHeap.le s104 s105 ∧ St w0 s105 (Res.box b100 55 [v100, v101, v102, v103] :: H) w' ∧ f' 1 = Value.pointer (some ⟨b100, 0, none⟩) ∧ f' 19 = v100 ∧ f' 20 = Value.int .i64 ((t100.Vars.length : Int)) ∧ f' 21 = Value.int .i64 ((i100 : Int)) ∧ f' 30 = Value.bool (((decide (x101 < 1)) || decide (64 < x101)))) ?_ ?_)))))
   ·refine Zd (Za rfl rfl (Zm (v := Value.int .i64 (x101)) rfl rfl (Za rfl rfl (Zq rfl rfl rfl (Za rfl rfl (Zm (v := Value.bool (decide (x101 < 1))) rfl rfl ?_))))))
    by_cases hc101 : (decide (x101 < 1)) = true
    ·refine Zl rfl (Zf rfl (congrArg Value.bool hc101)) rfl rfl (Zl rfl (Zf rfl (congrArg Value.bool hc101)) rfl rfl (Za rfl rfl (Zs (v := Value.bool (true)) rfl (congrArg Value.bool hc101) rfl (Zb (Ze ?_)))))
     exact ⟨s104, (Zv _), hS103, p100, p101, p102, x100, (congrArg Value.bool (or_t hc101)).symm⟩
    replace hc101 := Zk hc101
    refine WL_run rfl (Zf rfl (congrArg Value.bool hc101)) rfl (Zm (v := Value.int .i64 (x101)) rfl rfl (WL_run rfl (Zf rfl (congrArg Value.bool hc101)) rfl (Exec.gtr rfl rfl rfl (Za rfl rfl (Exec.pick_f (v := Value.bool (decide (64 < x101))) rfl (congrArg Value.bool hc101) rfl (Zb (Ze ?_)))))))
    exact ⟨s104, (Zv _), hS103, p100, p101, p102, x100, (congrArg Value.bool (or_f hc101)).symm⟩
   intro f101 w103 hM100
   obtain ⟨s106, l102, hS104, p103, p104, p105, p106, p107⟩ := hM100
   refine (Ze ?_)
   rcases ite_some hm100 with ⟨hc102, hm100⟩ | ⟨hc102, hm100⟩
   ·refine W_cond_t p107 hc102 (Zc (Zd (Za rfl rfl (Exec.makeInterface C39 rfl rfl (Za rfl rfl (Zo (v := errV 39 (some 1)) rfl rfl (Zb (Ze (W_ret (ib_ret (at_ret (at_ret (ib_ret (at_ret (at_ret ?_)))))))))))))))
    have e101 := Zu hm100
    subst c101
    have hq100 := hr100 _ (hres100 (by intro _ h; cases h))
    have e102 := Zu hq100
    subst r
    refine ⟨_, ret1 rfl, ?_⟩
    have hS105 := (hS104).drop
    exact ⟨s106, (Zt (Zt l100 l101) l102), hS105, rfl⟩
   refine W_cond_f p107 hc102 ?_
   replace hc102 := Zk hc102
   refine W_skip (ib_normal (Ze (Zd (Za rfl rfl (Exec.add rfl p106 rfl (Za rfl rfl (Zm (v := Value.int .i64 (IntKind.i64.wrap ((i100 : Int) + 1))) rfl rfl (Zb (Ze ?_)))))))))
   have e103 := Zu hm100
   subst c101
   refine ⟨_, rfl, ?_⟩; exact ⟨s106, (Zt l101 l102), hS104, p103, p104, p105, (Eq.trans rfl (wrap_up hi100 (SliceRep.le (a100.mono l100))))⟩
  intro t102 f102 w104 hI101 hres101
  obtain ⟨s107, l103, hS106, p108, p109, p110, x102⟩ := hI101
  refine Zc (Zd (Za rfl rfl (Zq rfl x102 p110 (Zb (Ze (Zc (W_false (congrArg Value.bool (decide_eq_false (by omega))) (W_exit (at_exit (at_exit (ib_here (Ze ?_))))))))))))
  refine ⟨_, .inl hres101, ?_⟩; exact ⟨s107, l103, hS106, p108, p109, p110⟩
 rintro f103 w105 ⟨t103, hc103, hM101⟩
 have hm := hc103.elim (hn100 _) (hb100 _)
 clear hc103
 obtain ⟨s108, l104, hS107, p111, p112, p113⟩ := hM101
 refine (Ze (Zc (Zc (Zd (Za rfl rfl (Zp F55_3 rfl p111 rfl (Za rfl rfl (Zn (hS107) A53 rfl rfl rfl (Za rfl rfl (Zr S53 rfl rfl (a103.mono (Zt l100 l104)) (Za rfl rfl (Zm (v := Value.int .i64 (0)) rfl rfl ?_))))))))))))
 refine Zb (Ze ?_)
 obtain ⟨c102, hB101, hr101, hn101, hb101⟩ := ctl_some hm
 refine W_mid (M := fun f' w' => ∃ s', (c102 = .next s' ∨ c102 = .brk s') ∧ (fun (_ : Unit) => ∃ (s109 : PHeap) , PHeap.le s108 s109 ∧ St w0 s109 (Res.box b100 55 [v100, v101, v102, v103] :: H) w' ∧ f' 1 = Value.pointer (some ⟨b100, 0, none⟩) ∧ f' 34 = v103 ∧ f' 35 = Value.int .i64 ((t100.Ops.length : Int))) s') ?_ ?_
 ·refine W_block (W_forC (fun k' s' f' w' => (fun (_ : Unit) => ∃ (s110 : PHeap) , PHeap.le s108 s110 ∧ St w0 s110 (Res.box b100 55 [v100, v101, v102, v103] :: H) w' ∧ f' 1 = Value.pointer (some ⟨b100, 0, none⟩) ∧ f' 34 = v103 ∧ f' 35 = Value.int .i64 ((t100.Ops.length : Int)) ∧ f' 36 = Value.int .i64 (k' : Int)) s') hB101 ?_ ?_ ?_)
  ·exact ⟨s108, (Zv _), hS107, p111, rfl, rfl, rfl⟩
  ·intro i101 t104 c103 f104 w106 hi101 hI102 hm101 hres102
   obtain ⟨s111, l105, hS108, p114, p115, p116, x103⟩ := hI102
   refine Zc (Zd (Za rfl rfl (Zq rfl x103 p116 (Zb (Ze (Zc (W_true (congrArg Value.bool (decide_eq_true (by omega))) (W_skip (Ze (Zc ?_))))))))))
   refine W_block (Zc (Zd ?_))
   obtain ⟨x104, q103, hm101⟩ := Zg hm101
   refine Za rfl rfl (Exec.index_rep S53 rfl p115 x103 (a103.mono (Zt (Zt l100 l104) l105)) q103 ?_)
   intro b102 o101 a105
   refine Za rfl rfl (Zw (E := encOp) hS108 A79 rfl rfl rfl a105 ?_)
   intro v105 q104
   obtain ⟨u100, u101, rfl, r100, r101⟩ := encOp_val.1 q104
   refine Za rfl rfl (Exec.alloc (cs := [Value.string (⟨#[]⟩), Value.int .i64 (0), Value.slice none 0 0, Value.slice none 0 0]) hS108 Z79 rfl rfl ?_)
   intro b103 w107 hS109
   refine Za rfl rfl (Exec.store_box (ds := [Value.string (x104.Name), Value.int .i64 (x104.Cost), u100, u101]) (es := [Value.string (x104.Name), Value.int .i64 (x104.Cost), u100, u101]) hS109 A79 rfl rfl rfl rfl (Zj rfl (Zj rfl (Zj (r100).one (Zj (r101).one one_nil)))) (Nat.le_of_ble_eq_true rfl) rfl ?_)
   intro w108 hS110
   refine Zb (Ze (Zc (W_mid (M := fun f' w' => ∃ (s112 : PHeap) , PHeap.le s111 s112 ∧ St w0 s112 (Res.box b100 55 [v100, v101, v102, v103] :: H) w' ∧ f' 1 = Value.pointer (some ⟨b100, 0, none⟩) ∧ f' 34 = v103 ∧ f' 35 = Value.int .i64 ((t100.Ops.length : Int)) ∧ f' 36 = Value.int .i64 ((i101 : Int)) ∧ f' 47 = Value.bool (((decide (x104.Cost < 0)) || decide (1048576 < x104.Cost)))) ?_ ?_)))
   ·refine Zd (Za rfl rfl (Zp F79_1 rfl rfl rfl (Za rfl rfl (Zn (hS110) A3 rfl rfl rfl (Za rfl rfl (Zq rfl rfl rfl (Za rfl rfl (Zm (v := Value.bool (decide (x104.Cost < 0))) rfl rfl ?_))))))))
    by_cases hc104 : (decide (x104.Cost < 0)) = true
    ·refine Zl rfl (Zf rfl (congrArg Value.bool hc104)) rfl rfl (Zl rfl (Zf rfl (congrArg Value.bool hc104)) rfl rfl (Zl rfl (Zf rfl (congrArg Value.bool hc104)) rfl rfl (Za rfl rfl (Zs (v := Value.bool (true)) rfl (congrArg Value.bool hc104) rfl (Zb (Ze ?_))))))
     have hS111 := (hS110).drop
     exact ⟨s111, (Zv _), hS111, p114, p115, p116, x103, (congrArg Value.bool (or_t hc104)).symm⟩
    replace hc104 := Zk hc104
    refine WL_run rfl (Zf rfl (congrArg Value.bool hc104)) rfl (Zp F79_1 rfl rfl rfl (WL_run rfl (Zf rfl (congrArg Value.bool hc104)) rfl (Zn (hS110) A3 rfl rfl rfl (WL_run rfl (Zf rfl (congrArg Value.bool hc104)) rfl (Exec.gtr rfl rfl rfl (Za rfl rfl (Exec.pick_f (v := Value.bool (decide (1048576 < x104.Cost))) rfl (congrArg Value.bool hc104) rfl (Zb (Ze ?_)))))))))
    have hS112 := (hS110).drop
    exact ⟨s111, (Zv _), hS112, p114, p115, p116, x103, (congrArg Value.bool (or_f hc104)).symm⟩
   intro f105 w109 hM102
   obtain ⟨s113, l106, hS113, p117, p118, p119, p120, p121⟩ := hM102
   refine (Ze ?_)
   rcases ite_some hm101 with ⟨hc105, hm101⟩ | ⟨hc105, hm101⟩
   ·refine W_cond_t p121 hc105 (Zc (Zd (Za rfl rfl (Exec.makeInterface C39 rfl rfl (Za rfl rfl (Zo (v := errV 39 (some 1)) rfl rfl (Zb (Ze (W_ret (ib_ret (at_ret (at_ret (ib_ret (at_ret (at_ret ?_)))))))))))))))
    have e104 := Zu hm101
    subst c103
    have hq101 := hr101 _ (hres102 (by intro _ h; cases h))
    have e105 := Zu hq101
    subst r
    refine ⟨_, ret1 rfl, ?_⟩
    have hS114 := (hS113).drop
    exact ⟨s113, (Zt (Zt (Zt l100 l104) l105) l106), hS114, rfl⟩
   refine W_cond_f p121 hc105 ?_
   replace hc105 := Zk hc105
   refine W_skip (ib_normal (Ze (Zd (Za rfl rfl (Exec.add rfl p120 rfl (Za rfl rfl (Zm (v := Value.int .i64 (IntKind.i64.wrap ((i101 : Int) + 1))) rfl rfl (Zb (Ze ?_)))))))))
   have e106 := Zu hm101
   subst c103
   refine ⟨_, rfl, ?_⟩; exact ⟨s113, (Zt l105 l106), hS113, p117, p118, p119, (Eq.trans rfl (wrap_up hi101 (SliceRep.le (a103.mono (Zt l100 l104)))))⟩
  intro t105 f106 w110 hI103 hres103
  obtain ⟨s114, l107, hS115, p122, p123, p124, x105⟩ := hI103
  refine Zc (Zd (Za rfl rfl (Zq rfl x105 p124 (Zb (Ze (Zc (W_false (congrArg Value.bool (decide_eq_false (by omega))) (W_exit (at_exit (at_exit (ib_here (Ze ?_))))))))))))
  refine ⟨_, .inl hres103, ?_⟩; exact ⟨s114, l107, hS115, p122, p123, p124⟩
 rintro f107 w111 ⟨t106, hc106, hM103⟩
 have hm := hc106.elim (hn101 _) (hb101 _)
 clear hc106
 obtain ⟨s115, l108, hS116, p125, p126, p127⟩ := hM103
 refine (Ze (Zc (Zc (Zd (Za rfl rfl (Zp F55_0 rfl p125 rfl (Za rfl rfl (Zn (hS116) A22 rfl rfl rfl (Za rfl rfl (Zp F55_1 rfl p125 rfl (Za rfl rfl (Zn (hS116) A22 rfl rfl rfl ?_))))))))))))
 obtain ⟨y102, q105, hm⟩ := Zg hm
 refine Za rfl rfl (Exec.call rfl rfl Try.func89 rfl N89 (Zi rfl (Zi rfl args_nil)) ((task_Proper_sim q105 hS116 (a100.mono (Zt (Zt l100 l104) l108)) (a101.mono (Zt (Zt l100 l104) l108))).mono ?_))
 rintro _ w112 ⟨_, rfl, ⟨s116, l109, hS117, rfl⟩⟩
 refine ⟨_, rfl, ?_⟩
 refine Za rfl rfl (Exec.not rfl rfl (Zb (Ze ?_)))
 rcases ite_some hm with ⟨hc107, hm⟩ | ⟨hc107, hm⟩
 ·refine W_cond_t rfl hc107 (Zc (Zd (Za rfl rfl (Exec.makeInterface C39 rfl rfl (Za rfl rfl (Zo (v := errV 39 (some 2)) rfl rfl (Zb (Ze (W_ret (at_ret ?_))))))))))
  have e107 := Zu hm
  subst r
  refine ⟨_, ret1 rfl, ?_⟩
  have hS118 := (hS117).drop
  exact ⟨s116, (Zt (Zt (Zt l100 l104) l108) l109), hS118, rfl⟩
 refine W_cond_f rfl hc107 ?_
 replace hc107 := Zk hc107
 refine W_skip (Ze (Zc (Zc (Zd (Za rfl rfl (Exec.load_box_agg (ds := [v100, v101, v102, v103]) (hS117) A55 rfl p125 rfl ?_))))))
 obtain ⟨y103, q106, hm⟩ := Zg hm
 refine Za rfl rfl (Exec.call rfl rfl Try.func90 rfl N90 (Zi rfl args_nil) ((task_conditions_sim q106 hS117 (a100.mono (Zt (Zt (Zt l100 l104) l108) l109)) (a101.mono (Zt (Zt (Zt l100 l104) l108) l109)) (a102.mono (Zt (Zt (Zt l100 l104) l108) l109)) (a103.mono (Zt (Zt (Zt l100 l104) l108) l109))).mono ?_))
 rintro _ w113 ⟨v106, rfl, ⟨s117, _, l110, hS119, rfl, r102⟩⟩
 refine ⟨_, rfl, ?_⟩
 refine Za rfl rfl (Zr S135 rfl rfl r102 (Za rfl rfl (Zm (v := Value.int .i64 (0)) rfl rfl (Zb (Ze ?_)))))
 obtain ⟨c104, hB102, hr102, hn102, hb102⟩ := ctl_some hm
 refine W_mid (M := fun f' w' => ∃ s', (c104 = .next s' ∨ c104 = .brk s') ∧ (fun (_ : Unit) => ∃ (s118 : PHeap) , PHeap.le s117 s118 ∧ St w0 s118 (Res.box b100 55 [v100, v101, v102, v103] :: H) w' ∧ f' 1 = Value.pointer (some ⟨b100, 0, none⟩) ∧ f' 58 = v106 ∧ f' 59 = Value.int .i64 ((y103.length : Int))) s') ?_ ?_
 ·refine W_block (W_forC (fun k' s' f' w' => (fun (_ : Unit) => ∃ (s119 : PHeap) , PHeap.le s117 s119 ∧ St w0 s119 (Res.box b100 55 [v100, v101, v102, v103] :: H) w' ∧ f' 1 = Value.pointer (some ⟨b100, 0, none⟩) ∧ f' 58 = v106 ∧ f' 59 = Value.int .i64 ((y103.length : Int)) ∧ f' 60 = Value.int .i64 (k' : Int)) s') hB102 ?_ ?_ ?_)
  ·exact ⟨s117, (Zv _), hS119, p125, rfl, rfl, rfl⟩
  ·intro i102 t107 c105 f108 w114 hi102 hI104 hm102 hres104
   obtain ⟨s120, l111, hS120, p128, p129, p130, x106⟩ := hI104
   refine Zc (Zd (Za rfl rfl (Zq rfl x106 p130 (Zb (Ze (Zc (W_true (congrArg Value.bool (decide_eq_true (by omega))) (W_skip (Ze (Zc ?_))))))))))
   refine W_block (Zc (Zd ?_))
   obtain ⟨x107, q107, hm102⟩ := Zg hm102
   refine Za rfl rfl (Exec.index_rep S135 rfl p129 x106 (r102.mono l111) q107 ?_)
   intro b104 o102 a106
   refine Za rfl rfl (Zw (E := (encSlice encFact)) hS120 A52 rfl rfl rfl a106 ?_)
   intro v107 q108
   have r103 := encSlice_val.1 q108
   refine Za rfl rfl (Zo (v := v107) rfl rfl (Zb (Ze (Zc (Zd (Za rfl rfl (Zp F55_0 rfl p128 rfl (Za rfl rfl (Zn (hS120) A22 rfl rfl rfl (Za rfl rfl (Zm (v := v107) rfl rfl ?_)))))))))))
   obtain ⟨y104, q109, hm102⟩ := Zg hm102
   refine Za rfl rfl (Exec.call rfl rfl Try.func91 rfl N91 (Zi rfl (Zi rfl args_nil)) ((task_Facts_sim q109 hS120 (a100.mono (Zt (Zt (Zt (Zt (Zt l100 l104) l108) l109) l110) l111)) r103).mono ?_))
   rintro _ w115 ⟨_, rfl, ⟨s121, l112, hS121, rfl⟩⟩
   refine ⟨_, rfl, ?_⟩
   refine Za rfl rfl (Exec.not rfl rfl (Zb (Ze ?_)))
   rcases ite_some hm102 with ⟨hc108, hm102⟩ | ⟨hc108, hm102⟩
   ·refine W_cond_t rfl hc108 (Zc (Zd (Za rfl rfl (Exec.makeInterface C39 rfl rfl (Za rfl rfl (Zo (v := errV 39 (some 2)) rfl rfl (Zb (Ze (W_ret (ib_ret (at_ret (at_ret (ib_ret (at_ret (at_ret ?_)))))))))))))))
    have e108 := Zu hm102
    subst c105
    have hq102 := hr102 _ (hres104 (by intro _ h; cases h))
    have e109 := Zu hq102
    subst r
    refine ⟨_, ret1 rfl, ?_⟩
    have hS122 := (hS121).drop
    exact ⟨s121, (Zt (Zt (Zt (Zt (Zt (Zt l100 l104) l108) l109) l110) l111) l112), hS122, rfl⟩
   refine W_cond_f rfl hc108 ?_
   replace hc108 := Zk hc108
   refine W_skip (ib_normal (Ze (Zd (Za rfl rfl (Exec.add rfl x106 rfl (Za rfl rfl (Zm (v := Value.int .i64 (IntKind.i64.wrap ((i102 : Int) + 1))) rfl rfl (Zb (Ze ?_)))))))))
   have e110 := Zu hm102
   subst c105
   refine ⟨_, rfl, ?_⟩; exact ⟨s121, (Zt l111 l112), hS121, p128, p129, p130, (Eq.trans rfl (wrap_up hi102 (SliceRep.le r102)))⟩
  intro t108 f109 w116 hI105 hres105
  obtain ⟨s122, l113, hS123, p131, p132, p133, x108⟩ := hI105
  refine Zc (Zd (Za rfl rfl (Zq rfl x108 p133 (Zb (Ze (Zc (W_false (congrArg Value.bool (decide_eq_false (by omega))) (W_exit (at_exit (at_exit (ib_here (Ze ?_))))))))))))
  refine ⟨_, .inl hres105, ?_⟩; exact ⟨s122, l113, hS123, p131, p132, p133⟩
 rintro f110 w117 ⟨t109, hc109, hM104⟩
 have hm := hc109.elim (hn102 _) (hb102 _)
 clear hc109
 obtain ⟨s123, l114, hS124, p134, p135, p136⟩ := hM104
 refine (Ze (Zc (Zc (Zd (Za rfl rfl (Zp F55_3 rfl p134 rfl (Za rfl rfl (Zn (hS124) A53 rfl rfl rfl (Za rfl rfl (Zr S53 rfl rfl (a103.mono (Zt (Zt (Zt (Zt (Zt l100 l104) l108) l109) l110) l114)) (Za rfl rfl (Zm (v := Value.int .i64 (0)) rfl rfl ?_))))))))))))
 refine Zb (Ze ?_)
 obtain ⟨c106, hB103, hr103, hn103, hb103⟩ := ctl_some hm
 refine W_mid (M := fun f' w' => ∃ s', (c106 = .next s' ∨ c106 = .brk s') ∧ (fun (_ : Unit) => ∃ (s124 : PHeap) , PHeap.le s123 s124 ∧ St w0 s124 (Res.box b100 55 [v100, v101, v102, v103] :: H) w' ∧ f' 1 = Value.pointer (some ⟨b100, 0, none⟩) ∧ f' 72 = v103 ∧ f' 73 = Value.int .i64 ((t100.Ops.length : Int))) s') ?_ ?_
 ·refine W_block (W_forC (fun k' s' f' w' => (fun (_ : Unit) => ∃ (s125 : PHeap) , PHeap.le s123 s125 ∧ St w0 s125 (Res.box b100 55 [v100, v101, v102, v103] :: H) w' ∧ f' 1 = Value.pointer (some ⟨b100, 0, none⟩) ∧ f' 72 = v103 ∧ f' 73 = Value.int .i64 ((t100.Ops.length : Int)) ∧ f' 74 = Value.int .i64 (k' : Int)) s') hB103 ?_ ?_ ?_)
  ·exact ⟨s123, (Zv _), hS124, p134, rfl, rfl, rfl⟩
  ·intro i103 t110 c107 f111 w118 hi103 hI106 hm103 hres106
   obtain ⟨s126, l115, hS125, p137, p138, p139, x109⟩ := hI106
   refine Zc (Zd (Za rfl rfl (Zq rfl x109 p139 (Zb (Ze (Zc (W_true (congrArg Value.bool (decide_eq_true (by omega))) (W_skip (Ze (Zc ?_))))))))))
   refine W_block (Zc (Zd ?_))
   obtain ⟨x110, q110, hm103⟩ := Zg hm103
   refine Za rfl rfl (Exec.index_rep S53 rfl p138 x109 (a103.mono (Zt (Zt (Zt (Zt (Zt (Zt l100 l104) l108) l109) l110) l114) l115)) q110 ?_)
   intro b105 o103 a107
   refine Za rfl rfl (Zw (E := encOp) hS125 A79 rfl rfl rfl a107 ?_)
   intro v108 q111
   obtain ⟨u102, u103, rfl, r104, r105⟩ := encOp_val.1 q111
   refine Za rfl rfl (Exec.alloc (cs := [Value.string (⟨#[]⟩), Value.int .i64 (0), Value.slice none 0 0, Value.slice none 0 0]) hS125 Z79 rfl rfl ?_)
   intro b106 w119 hS126
   refine Za rfl rfl (Exec.store_box (ds := [Value.string (x110.Name), Value.int .i64 (x110.Cost), u102, u103]) (es := [Value.string (x110.Name), Value.int .i64 (x110.Cost), u102, u103]) hS126 A79 rfl rfl rfl rfl (Zj rfl (Zj rfl (Zj (r104).one (Zj (r105).one one_nil)))) (Nat.le_of_ble_eq_true rfl) rfl ?_)
   intro w120 hS127
   refine Zb (Ze (Zc (Zd (Za rfl rfl (Zp F79_3 rfl rfl rfl (Za rfl rfl (Zn (hS127) A77 rfl rfl rfl (Za rfl rfl (Zr S77 rfl rfl r105 (Za rfl rfl (Zm (v := Value.int .i64 (0)) rfl rfl (Zb (Ze ?_)))))))))))))
   obtain ⟨c108, hB104, hr104, hn104, hb104⟩ := ctl_some hm103
   refine W_mid (M := fun f' w' => ∃ s', (c108 = .next s' ∨ c108 = .brk s') ∧ (fun (_ : Unit) => ∃ (s127 : PHeap) , PHeap.le s126 s127 ∧ St w0 s127 (Res.box b100 55 [v100, v101, v102, v103] :: H) w' ∧ f' 1 = Value.pointer (some ⟨b100, 0, none⟩) ∧ f' 72 = v103 ∧ f' 73 = Value.int .i64 ((t100.Ops.length : Int)) ∧ f' 74 = Value.int .i64 ((i103 : Int)) ∧ f' 79 = u103 ∧ f' 80 = Value.int .i64 ((x110.Effs.length : Int))) s') ?_ ?_
   ·refine W_block (W_forC (fun k' s' f' w' => (fun (_ : Unit) => ∃ (s128 : PHeap) , PHeap.le s126 s128 ∧ St w0 s128 (Res.box b100 55 [v100, v101, v102, v103] :: H) w' ∧ f' 1 = Value.pointer (some ⟨b100, 0, none⟩) ∧ f' 72 = v103 ∧ f' 73 = Value.int .i64 ((t100.Ops.length : Int)) ∧ f' 74 = Value.int .i64 ((i103 : Int)) ∧ f' 79 = u103 ∧ f' 80 = Value.int .i64 ((x110.Effs.length : Int)) ∧ f' 81 = Value.int .i64 (k' : Int)) s') hB104 ?_ ?_ ?_)
    ·have hS128 := (hS127).drop
     exact ⟨s126, (Zv _), hS128, p137, p138, p139, x109, rfl, rfl, rfl⟩
    ·intro i104 t111 c109 f112 w121 hi104 hI107 hm104 hres107
     obtain ⟨s129, l116, hS129, p140, p141, p142, p143, p144, p145, x111⟩ := hI107
     refine Zc (Zd (Za rfl rfl (Zq rfl x111 p145 (Zb (Ze (Zc (W_true (congrArg Value.bool (decide_eq_true (by omega))) (W_skip (Ze (Zc ?_))))))))))
     refine W_block (Zc (Zd ?_))
     obtain ⟨x112, q112, hm104⟩ := Zg hm104
     refine Za rfl rfl (Exec.index_rep S77 rfl p144 x111 (r105.mono l116) q112 ?_)
     intro b107 o104 a108
     refine Za rfl rfl (Zw (E := encEffect) hS129 A93 rfl rfl rfl a108 ?_)
     intro v109 q113
     obtain ⟨u104, rfl, r106⟩ := encEffect_val.1 q113
     refine Za rfl rfl (Exec.alloc (cs := [Value.slice none 0 0, Value.int .i64 (0), Value.int .i64 (0)]) hS129 Z93 rfl rfl ?_)
     intro b108 w122 hS130
     refine Za rfl rfl (Exec.store_box (ds := [u104, Value.int .i64 (x112.Var), Value.int .i64 (x112.Val)]) (es := [u104, Value.int .i64 (x112.Var), Value.int .i64 (x112.Val)]) hS130 A93 rfl rfl rfl rfl (Zj (r106).one (Zj rfl (Zj rfl one_nil))) (Nat.le_of_ble_eq_true rfl) rfl ?_)
     intro w123 hS131
     refine Zb (Ze (Zc (Zd (Za rfl rfl (Zp F55_0 rfl p140 rfl (Za rfl rfl (Zn ((hS131).f1) A22 rfl rfl rfl (Za rfl rfl (Zp F93_1 rfl rfl rfl (Za rfl rfl (Zn (hS131) A3 rfl rfl rfl (Za rfl rfl (Zp F93_2 rfl rfl rfl ?_)))))))))))))
     refine Za rfl rfl (Zn (hS131) A3 rfl rfl rfl (Za rfl rfl (Exec.build rfl (parts_cons (c := [Value.int .i64 (x112.Var)]) (cells_of rfl rfl) (parts_cons (c := [Value.int .i64 (x112.Val)]) (cells_of rfl rfl) parts_nil)) (v := Value.agg #[Value.int .i64 (x112.Var), Value.int .i64 (x112.Val)]) (fun _ => by kernel_rfl) (Za rfl rfl (Exec.buildSlice (Te := 82) (cs := [Value.int .i64 (x112.Var), Value.int .i64 (x112.Val)]) hS131 rfl (parts_cons (c := [Value.int .i64 (x112.Var), Value.int .i64 (x112.Val)]) (cells_of rfl rfl) parts_nil) (fun _ => by kernel_rfl) ?_)))))
     intro b109 w124 hS132
     have hS133 := St.boxArr (E := encFact) (xs := [(⟨x112.Var, x112.Val⟩ : Fact)]) hS132 ⟨[Value.int .i64 (x112.Var), Value.int .i64 (x112.Val)], [], rfl, ⟨[Value.int .i64 (x112.Var)], [Value.int .i64 (x112.Val)], rfl, rfl, rfl⟩, rfl⟩ (by simp [maxLen])
     obtain ⟨s130, l117, hS134, r107⟩ := hS133.freezeArr
     obtain ⟨y105, q114, hm104⟩ := Zg hm104
     refine Za rfl rfl (Exec.call rfl rfl Try.func91 rfl N91 (Zi rfl (Zi rfl args_nil)) ((task_Facts_sim q114 hS134 (a100.mono (Zt (Zt (Zt (Zt (Zt (Zt (Zt (Zt l100 l104) l108) l109) l110) l114) l115) l116) l117)) r107).mono ?_))
     rintro _ w125 ⟨_, rfl, ⟨s131, l118, hS135, rfl⟩⟩
     refine ⟨_, rfl, ?_⟩
     refine Za rfl rfl (Exec.not rfl rfl (Zb (Ze ?_)))
     rcases ite_some hm104 with ⟨hc110, hm104⟩ | ⟨hc110, hm104⟩
     ·refine W_cond_t rfl hc110 (Zc (Zd (Za rfl rfl (Exec.makeInterface C39 rfl rfl (Za rfl rfl (Zo (v := errV 39 (some 2)) rfl rfl (Zb (Ze (W_ret (ib_ret (at_ret (at_ret (ib_ret (at_ret (ib_ret (at_ret (at_ret (ib_ret (at_ret (at_ret ?_))))))))))))))))))))
      have e111 := Zu hm104
      subst c109
      have hq103 := hr104 _ (hres107 (by intro _ h; cases h))
      have e112 := Zu hq103
      subst c107
      have hq104 := hr103 _ (hres106 (by intro _ h; cases h))
      have e113 := Zu hq104
      subst r
      refine ⟨_, ret1 rfl, ?_⟩
      have hS136 := (hS135).drop
      have hS137 := (hS136).drop
      exact ⟨s131, (Zt (Zt (Zt (Zt (Zt (Zt (Zt (Zt (Zt l100 l104) l108) l109) l110) l114) l115) l116) l117) l118), hS137, rfl⟩
     refine W_cond_f rfl hc110 ?_
     replace hc110 := Zk hc110
     refine W_skip (ib_normal (Ze (Zd (Za rfl rfl (Exec.add rfl x111 rfl (Za rfl rfl (Zm (v := Value.int .i64 (IntKind.i64.wrap ((i104 : Int) + 1))) rfl rfl (Zb (Ze ?_)))))))))
     have e114 := Zu hm104
     subst c109
     have hS138 := (hS135).drop
     refine ⟨_, rfl, ?_⟩; exact ⟨s131, (Zt (Zt l116 l117) l118), hS138, p140, p141, p142, p143, p144, p145, (Eq.trans rfl (wrap_up hi104 (SliceRep.le r105)))⟩
    intro t112 f113 w126 hI108 hres108
    obtain ⟨s132, l119, hS139, p146, p147, p148, p149, p150, p151, x113⟩ := hI108
    refine Zc (Zd (Za rfl rfl (Zq rfl x113 p151 (Zb (Ze (Zc (W_false (congrArg Value.bool (decide_eq_false (by omega))) (W_exit (at_exit (at_exit (ib_here (Ze ?_))))))))))))
    refine ⟨_, .inl hres108, ?_⟩; exact ⟨s132, l119, hS139, p146, p147, p148, p149, p150, p151⟩
   rintro f114 w127 ⟨t113, hc111, hM105⟩
   have hm103 := hc111.elim (hn104 _) (hb104 _)
   clear hc111
   obtain ⟨s133, l120, hS140, p152, p153, p154, p155, p156, p157⟩ := hM105
   refine (ib_normal (Ze (Zd (Za rfl rfl (Exec.add rfl p155 rfl (Za rfl rfl (Zm (v := Value.int .i64 (IntKind.i64.wrap ((i103 : Int) + 1))) rfl rfl (Zb (Ze ?_)))))))))
   have e115 := Zu hm103
   subst c107
   refine ⟨_, rfl, ?_⟩; exact ⟨s133, (Zt l115 l120), hS140, p152, p153, p154, (Eq.trans rfl (wrap_up hi103 (SliceRep.le (a103.mono (Zt (Zt (Zt (Zt (Zt l100 l104) l108) l109) l110) l114)))))⟩
  intro t114 f115 w128 hI109 hres109
  obtain ⟨s134, l121, hS141, p158, p159, p160, x114⟩ := hI109
  refine Zc (Zd (Za rfl rfl (Zq rfl x114 p160 (Zb (Ze (Zc (W_false (congrArg Value.bool (decide_eq_false (by omega))) (W_exit (at_exit (at_exit (ib_here (Ze ?_))))))))))))
  refine ⟨_, .inl hres109, ?_⟩; exact ⟨s134, l121, hS141, p158, p159, p160⟩
 rintro f116 w129 ⟨t115, hc112, hM106⟩
 have hm := hc112.elim (hn103 _) (hb103 _)
 clear hc112
 obtain ⟨s135, l122, hS142, p161, p162, p163⟩ := hM106
 refine (Ze (Zc (Zc (Zd (Za rfl rfl (Zp F55_3 rfl p161 rfl (Za rfl rfl (Zn (hS142) A53 rfl rfl rfl (Za rfl rfl (Zr S53 rfl rfl (a103.mono (Zt (Zt (Zt (Zt (Zt (Zt l100 l104) l108) l109) l110) l114) l122)) (Za rfl rfl (Zm (v := Value.int .i64 (0)) rfl rfl ?_))))))))))))
 refine Zb (Ze ?_)
 obtain ⟨c110, hB105, hr105, hn105, hb105⟩ := ctl_some hm
 refine W_mid (M := fun f' w' => ∃ s', (c110 = .next s' ∨ c110 = .brk s') ∧ (fun (_ : Unit) => ∃ (s136 : PHeap) , PHeap.le s135 s136 ∧ St w0 s136 (H) w' ∧ f' 99 = v103 ∧ f' 100 = Value.int .i64 ((t100.Ops.length : Int))) s') ?_ ?_
 ·refine W_block (W_forC (fun k' s' f' w' => (fun (_ : Unit) => ∃ (s137 : PHeap) , PHeap.le s135 s137 ∧ St w0 s137 (H) w' ∧ f' 99 = v103 ∧ f' 100 = Value.int .i64 ((t100.Ops.length : Int)) ∧ f' 101 = Value.int .i64 (k' : Int)) s') hB105 ?_ ?_ ?_)
  ·have hS143 := (hS142).drop
   exact ⟨s135, (Zv _), hS143, rfl, rfl, rfl⟩
  ·intro i105 t116 c111 f117 w130 hi105 hI110 hm105 hres110
   obtain ⟨s138, l123, hS144, p164, p165, x115⟩ := hI110
   refine Zc (Zd (Za rfl rfl (Zq rfl x115 p165 (Zb (Ze (Zc (W_true (congrArg Value.bool (decide_eq_true (by omega))) (W_skip (Ze (Zc ?_))))))))))
   refine W_block (Zc (Zd ?_))
   obtain ⟨x116, q115, hm105⟩ := Zg hm105
   refine Za rfl rfl (Exec.index_rep S53 rfl p164 x115 (a103.mono (Zt (Zt (Zt (Zt (Zt (Zt (Zt l100 l104) l108) l109) l110) l114) l122) l123)) q115 ?_)
   intro b110 o105 a109
   refine Za rfl rfl (Zw (E := encOp) hS144 A79 rfl rfl rfl a109 ?_)
   intro v110 q116
   obtain ⟨u105, u106, rfl, r108, r109⟩ := encOp_val.1 q116
   refine Za rfl rfl (Exec.alloc (cs := [Value.string (⟨#[]⟩), Value.int .i64 (0), Value.slice none 0 0, Value.slice none 0 0]) hS144 Z79 rfl rfl ?_)
   intro b111 w131 hS145
   refine Za rfl rfl (Exec.store_box (ds := [Value.string (x116.Name), Value.int .i64 (x116.Cost), u105, u106]) (es := [Value.string (x116.Name), Value.int .i64 (x116.Cost), u105, u106]) hS145 A79 rfl rfl rfl rfl (Zj rfl (Zj rfl (Zj (r108).one (Zj (r109).one one_nil)))) (Nat.le_of_ble_eq_true rfl) rfl ?_)
   intro w132 hS146
   refine Zb (Ze (Zc (Zd (Za rfl rfl (Zp F79_0 rfl rfl rfl (Za rfl rfl (Zn (hS146) A9 rfl rfl rfl ?_)))))))
   obtain ⟨y106, q117, hm105⟩ := Zg hm105
   refine Za rfl rfl (Exec.call rfl rfl Try.func92 rfl N92 (Zi rfl args_nil) ((task_named_sim q117 hS146 ).mono ?_))
   rintro _ w133 ⟨_, rfl, ⟨s139, l124, hS147, rfl⟩⟩
   refine ⟨_, rfl, ?_⟩
   refine Za rfl rfl (Exec.not rfl rfl (Zb (Ze ?_)))
   rcases ite_some hm105 with ⟨hc113, hm105⟩ | ⟨hc113, hm105⟩
   ·refine W_cond_t rfl hc113 (Zc (Zd (Za rfl rfl (Exec.makeInterface C39 rfl rfl (Za rfl rfl (Zo (v := errV 39 (some 8)) rfl rfl (Zb (Ze (W_ret (ib_ret (at_ret (at_ret (ib_ret (at_ret (at_ret ?_)))))))))))))))
    have e116 := Zu hm105
    subst c111
    have hq105 := hr105 _ (hres110 (by intro _ h; cases h))
    have e117 := Zu hq105
    subst r
    refine ⟨_, ret1 rfl, ?_⟩
    have hS148 := (hS147).drop
    exact ⟨s139, (Zt (Zt (Zt (Zt (Zt (Zt (Zt (Zt l100 l104) l108) l109) l110) l114) l122) l123) l124), hS148, rfl⟩
   refine W_cond_f rfl hc113 ?_
   replace hc113 := Zk hc113
   refine W_skip (ib_normal (Ze (Zd (Za rfl rfl (Exec.add rfl x115 rfl (Za rfl rfl (Zm (v := Value.int .i64 (IntKind.i64.wrap ((i105 : Int) + 1))) rfl rfl (Zb (Ze ?_)))))))))
   have e118 := Zu hm105
   subst c111
   have hS149 := (hS147).drop
   refine ⟨_, rfl, ?_⟩; exact ⟨s139, (Zt l123 l124), hS149, p164, p165, (Eq.trans rfl (wrap_up hi105 (SliceRep.le (a103.mono (Zt (Zt (Zt (Zt (Zt (Zt l100 l104) l108) l109) l110) l114) l122)))))⟩
  intro t117 f118 w134 hI111 hres111
  obtain ⟨s140, l125, hS150, p166, p167, x117⟩ := hI111
  refine Zc (Zd (Za rfl rfl (Zq rfl x117 p167 (Zb (Ze (Zc (W_false (congrArg Value.bool (decide_eq_false (by omega))) (W_exit (at_exit (at_exit (ib_here (Ze ?_))))))))))))
  refine ⟨_, .inl hres111, ?_⟩; exact ⟨s140, l125, hS150, p166, p167⟩
 rintro f119 w135 ⟨t118, hc114, hM107⟩
 have hm := hc114.elim (hn105 _) (hb105 _)
 clear hc114
 obtain ⟨s141, l126, hS151, p168, p169⟩ := hM107
 refine (Ze (Zc (Zd (Za rfl rfl (Zo (v := errV 39 (none)) rfl rfl (Zb (Ze (W_ret ?_))))))))
 have e119 := Zu hm
 subst r
 refine ⟨_, ret1 rfl, ?_⟩
 exact ⟨s141, (Zt (Zt (Zt (Zt (Zt (Zt (Zt l100 l104) l108) l109) l110) l114) l122) l126), hS151, rfl⟩
theorem N57 : (Try.f57.name == "runtime.NumGoroutine") = false := by kernel_rfl
theorem project_check_sim {w0 w : World} {s : PHeap} {H : List Res} {t100 : Task} {pattern100 : (List Int)} {v100 : Value} {v101 : Value} {v102 : Value} {v103 : Value} {v104 : Value} {r : (Option Int)} (hm : project_check_p t100 pattern100 = some r) (hS : St w0 s (H) w) (a100 : SliceRep (encInt .i64) s v100 t100.Vars) (a101 : SliceRep (encInt .i64) s v101 t100.Init) (a102 : SliceRep encFact s v102 t100.Goal) (a103 : SliceRep encOp s v103 t100.Ops) (a104 : SliceRep (encInt .i64) s v104 pattern100) :
  Calls Try.prog 57 #[Value.agg #[v100, v101, v102, v103], v104] w fun e w' => ∃ v, e = .returned v ∧ ((fun (y100 : (Option Int)) => ∃ (s100 : PHeap) , PHeap.le s s100 ∧ St w0 s100 (H) w' ∧ v = errV 39 (y100)) r) := by
 unfold project_check_p at hm
 refine calls_of_W Try.func57 rfl rfl (Zc (Zd (Za rfl rfl (Exec.box (cs := [v100, v101, v102, v103]) hS rfl rfl rfl ?_))))
 intro b100 w100 hS100
 refine Za rfl rfl (Zo (v := errV 39 (none)) rfl rfl (Zb (Ze (Zc (Zc (Zd (Za rfl rfl (Exec.load_box_agg (ds := [v100, v101, v102, v103]) (hS100) A55 rfl rfl rfl ?_))))))))
 obtain ⟨y101, q100, hm⟩ := Zg hm
 refine Za rfl rfl (Exec.call rfl rfl Try.func76 rfl N76 (Zi rfl args_nil) ((task_Check_sim q100 hS100 a100 a101 a102 a103).mono ?_))
 rintro _ w101 ⟨_, rfl, ⟨s101, l100, hS101, rfl⟩⟩
 refine ⟨_, rfl, ?_⟩
 refine Za rfl rfl (Zo (v := errV 39 (y101)) rfl rfl (Zb (Ze (Zc (Zd (Za rfl rfl (Zm (v := errV 39 (y101)) rfl rfl (Za rfl rfl (Exec.err_neq_nil (T := 39) Try.underlying30 rfl rfl rfl (Zb (Ze ?_)))))))))))
 rcases ite_some hm with ⟨hc100, hm⟩ | ⟨hc100, hm⟩
 ·refine W_cond_t rfl hc100 (Zc (Zd (Za rfl rfl (Zm (v := errV 39 (y101)) rfl rfl (Za rfl rfl (Zo (v := errV 39 (y101)) rfl rfl (Zb (Ze (W_ret (at_ret ?_))))))))))
  have e100 := Zu hm
  subst r
  refine ⟨_, ret1 rfl, ?_⟩
  have hS102 := (hS101).drop
  exact ⟨s101, l100, hS102, rfl⟩
 refine W_cond_f rfl hc100 ?_
 replace hc100 := Zk hc100
 refine W_skip (Ze (Zc (Zc (Zd (Za rfl rfl (Zm (v := v104) rfl rfl (Za rfl rfl (Zr S22 rfl rfl (a104.mono l100) (Za rfl rfl (Zm (v := Value.int .i64 (0)) rfl rfl (Zb (Ze ?_))))))))))))
 obtain ⟨c100, hB100, hr100, hn100, hb100⟩ := ctl_some hm
 refine W_mid (M := fun f' w' => ∃ s', (c100 = .next s' ∨ c100 = .brk s') ∧ (fun (_ : Unit) => ∃ (s102 : PHeap) , PHeap.le s101 s102 ∧ St w0 s102 (Res.box b100 55 [v100, v101, v102, v103] :: H) w' ∧ f' 1 = v104 ∧ f' 2 = Value.pointer (some ⟨b100, 0, none⟩) ∧ f' 13 = v104 ∧ f' 14 = Value.int .i64 ((pattern100.length : Int))) s') ?_ ?_
 ·refine W_block (W_forC (fun k' s' f' w' => (fun (_ : Unit) => ∃ (s103 : PHeap) , PHeap.le s101 s103 ∧ St w0 s103 (Res.box b100 55 [v100, v101, v102, v103] :: H) w' ∧ f' 1 = v104 ∧ f' 2 = Value.pointer (some ⟨b100, 0, none⟩) ∧ f' 13 = v104 ∧ f' 14 = Value.int .i64 ((pattern100.length : Int)) ∧ f' 15 = Value.int .i64 (k' : Int)) s') hB100 ?_ ?_ ?_)
  ·exact ⟨s101, (Zv _), hS101, rfl, rfl, rfl, rfl, rfl⟩
  ·intro i100 t101 c101 f100 w102 hi100 hI100 hm100 hres100
   obtain ⟨s104, l101, hS103, p100, p101, p102, p103, x100⟩ := hI100
   refine Zc (Zd (Za rfl rfl (Zq rfl x100 p103 (Zb (Ze (Zc (W_true (congrArg Value.bool (decide_eq_true (by omega))) (W_skip (Ze (Zc ?_))))))))))
   refine W_block (Zc (Zd (Za rfl rfl (Zm (v := Value.int .i64 ((i100 : Int))) rfl x100 ?_))))
   obtain ⟨x101, q101, hm100⟩ := Zg hm100
   refine Za rfl rfl (Exec.index_rep S22 rfl p102 x100 (a104.mono (Zt l100 l101)) q101 ?_)
   intro b101 o100 a105
   refine Za rfl rfl (Zw (E := (encInt .i64)) hS103 A3 rfl rfl rfl a105 ?_)
   intro v105 q102
   obtain rfl := encInt_val.1 q102
   refine Za rfl rfl (Zo (v := Value.int .i64 ((i100 : Int))) rfl rfl (Za rfl rfl (Zo (v := Value.int .i64 (x101)) rfl rfl (Zb (Ze (Zc ?_))))))
   obtain ⟨z100, ht100, hm100⟩ := Zg hm100
   refine W_mid (M := fun f' w' => (fun (z100 : Bool) => ∃ (s105 : PHeap) , PHeap.le s104 s105 ∧ St w0 s105 (Res.box b100 55 [v100, v101, v102, v103] :: H) w' ∧ f' 1 = v104 ∧ f' 2 = Value.pointer (some ⟨b100, 0, none⟩) ∧ f' 13 = v104 ∧ f' 14 = Value.int .i64 ((pattern100.length : Int)) ∧ f' 15 = Value.int .i64 ((i100 : Int)) ∧ f' 41 = Value.bool (z100)) z100) ?_ ?_
   ·refine Zd (Za rfl rfl (Zm (v := Value.int .i64 (x101)) rfl rfl (Za rfl rfl (Zq rfl rfl rfl (Za rfl rfl (Zm (v := Value.bool (decide (x101 < 0))) rfl rfl ?_))))))
    rcases ite_some ht100 with ⟨hc101, ht100⟩ | ⟨hc101, ht100⟩
    ·refine Zl rfl (Zf rfl (congrArg Value.bool hc101)) rfl rfl (Zl rfl (Zf rfl (congrArg Value.bool hc101)) rfl rfl (Zl rfl (Zf rfl (congrArg Value.bool hc101)) rfl rfl (Zl rfl (Zf rfl (congrArg Value.bool hc101)) rfl rfl (Zl rfl (Zf rfl (congrArg Value.bool hc101)) rfl rfl (Za rfl rfl (Zs (v := Value.bool (true)) rfl (congrArg Value.bool hc101) rfl (Za rfl rfl (Zm (v := Value.bool (true)) rfl rfl (Zl rfl (Zf rfl rfl) rfl rfl ?_)))))))))
     refine Zl rfl (Zf rfl rfl) rfl rfl (Zl rfl (Zf rfl rfl) rfl rfl (WL_pass_none rfl (Zh rfl rfl) rfl (WL_pass_none rfl (Zh rfl rfl) rfl (WL_pass_none rfl (Zh rfl rfl) rfl (WL_pass_none rfl (Zh rfl rfl) rfl (WL_pass_none rfl (Zh rfl rfl) rfl (WL_pass_none rfl (Zh rfl rfl) rfl ?_)))))))
     refine WL_pass_none rfl (Zh rfl rfl) rfl (Zl rfl (Zf rfl rfl) rfl rfl (Za rfl rfl (Zs (v := Value.bool (true)) rfl rfl rfl (Zb (Ze ?_)))))
     have e101 := Zu ht100
     subst z100
     exact ⟨s104, (Zv _), hS103, p100, p101, p102, p103, x100, rfl⟩
    replace hc101 := Zk hc101
    refine WL_run rfl (Zf rfl (congrArg Value.bool hc101)) rfl (Zm (v := Value.int .i64 (x101)) rfl rfl (WL_run rfl (Zf rfl (congrArg Value.bool hc101)) rfl (Zp F55_0 rfl p101 rfl (WL_run rfl (Zf rfl (congrArg Value.bool hc101)) rfl (Zn (hS103) A22 rfl rfl rfl (WL_run rfl (Zf rfl (congrArg Value.bool hc101)) rfl (Zr S22 rfl rfl (a100.mono (Zt l100 l101)) (WL_run rfl (Zf rfl (congrArg Value.bool hc101)) rfl (Exec.geq rfl rfl rfl (Za rfl rfl (Exec.pick_f (v := Value.bool (decide ((t100.Vars.length : Int) ≤ x101))) rfl (congrArg Value.bool hc101) rfl (Za rfl rfl (Zm (v := Value.bool (decide ((t100.Vars.length : Int) ≤ x101))) rfl rfl ?_)))))))))))))
    rcases ite_some ht100 with ⟨hc102, ht100⟩ | ⟨hc102, ht100⟩
    ·refine Zl rfl (Zf rfl (congrArg Value.bool hc102)) rfl rfl (Zl rfl (Zf rfl (congrArg Value.bool hc102)) rfl rfl (Zl rfl (Zf rfl (congrArg Value.bool hc102)) rfl rfl (WL_pass_none rfl (Zh rfl rfl) rfl (WL_pass_none rfl (Zh rfl rfl) rfl (WL_pass_none rfl (Zh rfl rfl) rfl (WL_pass_none rfl (Zh rfl rfl) rfl (WL_pass_none rfl (Zh rfl rfl) rfl ?_)))))))
     refine WL_pass_none rfl (Zh rfl rfl) rfl (WL_pass_none rfl (Zh rfl rfl) rfl (Zl rfl (Zf rfl (congrArg Value.bool hc102)) rfl rfl (Za rfl rfl (Zs (v := Value.bool (true)) rfl (congrArg Value.bool hc102) rfl (Zb (Ze ?_))))))
     have e102 := Zu ht100
     subst z100
     exact ⟨s104, (Zv _), hS103, p100, p101, p102, p103, x100, rfl⟩
    replace hc102 := Zk hc102
    refine WL_run rfl (Zf rfl (congrArg Value.bool hc102)) rfl (Zm (v := Value.int .i64 ((i100 : Int))) rfl rfl (WL_run rfl (Zf rfl (congrArg Value.bool hc102)) rfl (Exec.gtr rfl rfl rfl (WL_run rfl (Zf rfl (congrArg Value.bool hc102)) rfl (Zm (v := Value.bool (decide (0 < (i100 : Int)))) rfl rfl ?_)))))
    rcases ite_some ht100 with ⟨hc103, ht100⟩ | ⟨hc103, ht100⟩
    ·refine WL_run rfl (Zf rfl (congrArg Value.bool hc103)) rfl (Zm (v := v104) rfl p100 (WL_run rfl (Zf rfl (congrArg Value.bool hc103)) rfl (Zm (v := Value.int .i64 ((i100 : Int))) rfl rfl (WL_run rfl (Zf rfl (congrArg Value.bool hc103)) rfl (Exec.sub rfl rfl rfl ?_)))))
     obtain ⟨x102, q103, ht100⟩ := Zg ht100
     refine WL_run rfl (Zf rfl (congrArg Value.bool hc103)) rfl (Exec.index_rep S22 rfl rfl rfl (a104.mono (Zt l100 l101)) q103 ?_)
     intro b102 o101 a106
     refine WL_run rfl (Zf rfl (congrArg Value.bool hc103)) rfl (Zw (E := (encInt .i64)) hS103 A3 rfl rfl rfl a106 ?_)
     intro v106 q104
     obtain rfl := encInt_val.1 q104
     refine WL_run rfl (Zf rfl (congrArg Value.bool hc103)) rfl (Zm (v := Value.int .i64 (x101)) rfl rfl (WL_run rfl (Zf rfl (congrArg Value.bool hc103)) rfl (Exec.geq rfl rfl rfl (WL_run rfl (Zf rfl (congrArg Value.bool hc102)) rfl (Zs (v := Value.bool (decide (x101 ≤ x102))) rfl (congrArg Value.bool hc103) rfl (Za rfl rfl (Exec.pick_f (v := Value.bool (decide (x101 ≤ x102))) rfl (congrArg Value.bool hc102) rfl (Zb (Ze ?_)))))))))
     have e103 := Zu ht100
     subst z100
     exact ⟨s104, (Zv _), hS103, p100, p101, p102, p103, x100, rfl⟩
    replace hc103 := Zk hc103
    refine Zl rfl (Zf rfl (congrArg Value.bool hc103)) rfl rfl (Zl rfl (Zf rfl (congrArg Value.bool hc103)) rfl rfl (Zl rfl (Zf rfl (congrArg Value.bool hc103)) rfl rfl (Zl rfl (Zf rfl (congrArg Value.bool hc103)) rfl rfl (Zl rfl (Zf rfl (congrArg Value.bool hc103)) rfl rfl (Zl rfl (Zf rfl (congrArg Value.bool hc103)) rfl rfl (Zl rfl (Zf rfl (congrArg Value.bool hc103)) rfl rfl (WL_run rfl (Zf rfl (congrArg Value.bool hc102)) rfl (Exec.pick_f (v := Value.bool (false)) rfl (congrArg Value.bool hc103) rfl ?_))))))))
    refine Za rfl rfl (Exec.pick_f (v := Value.bool (false)) rfl (congrArg Value.bool hc102) rfl (Zb (Ze ?_)))
    have e104 := Zu ht100
    subst z100
    exact ⟨s104, (Zv _), hS103, p100, p101, p102, p103, x100, rfl⟩
   intro f101 w103 hM100
   obtain ⟨s106, l102, hS104, p104, p105, p106, p107, p108, p109⟩ := hM100
   refine (Ze ?_)
   rcases ite_some hm100 with ⟨hc104, hm100⟩ | ⟨hc104, hm100⟩
   ·refine W_cond_t p109 hc104 (Zc (Zd (Za rfl rfl (Exec.makeInterface C39 rfl rfl (Za rfl rfl (Zo (v := errV 39 (some 2)) rfl rfl (Zb (Ze (W_ret (ib_ret (at_ret (at_ret (ib_ret (at_ret (at_ret ?_)))))))))))))))
    have e105 := Zu hm100
    subst c101
    have hq100 := hr100 _ (hres100 (by intro _ h; cases h))
    have e106 := Zu hq100
    subst r
    refine ⟨_, ret1 rfl, ?_⟩
    have hS105 := (hS104).drop
    exact ⟨s106, (Zt (Zt l100 l101) l102), hS105, rfl⟩
   refine W_cond_f p109 hc104 ?_
   replace hc104 := Zk hc104
   refine W_skip (ib_normal (Ze (Zd (Za rfl rfl (Exec.add rfl p108 rfl (Za rfl rfl (Zm (v := Value.int .i64 (IntKind.i64.wrap ((i100 : Int) + 1))) rfl rfl (Zb (Ze ?_)))))))))
   have e107 := Zu hm100
   subst c101
   refine ⟨_, rfl, ?_⟩; exact ⟨s106, (Zt l101 l102), hS104, p104, p105, p106, p107, (Eq.trans rfl (wrap_up hi100 (SliceRep.le (a104.mono l100))))⟩
  intro t102 f102 w104 hI101 hres101
  obtain ⟨s107, l103, hS106, p110, p111, p112, p113, x103⟩ := hI101
  refine Zc (Zd (Za rfl rfl (Zq rfl x103 p113 (Zb (Ze (Zc (W_false (congrArg Value.bool (decide_eq_false (by omega))) (W_exit (at_exit (at_exit (ib_here (Ze ?_))))))))))))
  refine ⟨_, .inl hres101, ?_⟩; exact ⟨s107, l103, hS106, p110, p111, p112, p113⟩
 rintro f103 w105 ⟨t103, hc105, hM101⟩
 have hm := hc105.elim (hn100 _) (hb100 _)
 clear hc105
 obtain ⟨s108, l104, hS107, p114, p115, p116, p117⟩ := hM101
 refine (Ze (Zc (Zd (Za rfl rfl (Zo (v := errV 39 (none)) rfl rfl (Zb (Ze (W_ret ?_))))))))
 have e108 := Zu hm
 subst r
 refine ⟨_, ret1 rfl, ?_⟩
 have hS108 := (hS107).drop
 exact ⟨s108, (Zt l100 l104), hS108, rfl⟩
theorem N58 : (Try.f58.name == "runtime.NumGoroutine") = false := by kernel_rfl
theorem project_count_sim {w0 w : World} {s : PHeap} {H : List Res} {t100 : Task} {vars100 : (List Int)} {v100 : Value} {v101 : Value} {v102 : Value} {v103 : Value} {v104 : Value} {r : Int × Bool} (hm : project_count_p t100 vars100 = some r) (hS : St w0 s (H) w) (a100 : SliceRep (encInt .i64) s v100 t100.Vars) (a101 : SliceRep (encInt .i64) s v101 t100.Init) (a102 : SliceRep encFact s v102 t100.Goal) (a103 : SliceRep encOp s v103 t100.Ops) (a104 : SliceRep (encInt .i64) s v104 vars100) :
  Calls Try.prog 58 #[Value.agg #[v100, v101, v102, v103], v104] w fun e w' => ∃ v, e = .returned v ∧ ((un2 fun (y100 : Int) (y101 : Bool) => ∃ (s100 : PHeap) , PHeap.le s s100 ∧ St w0 s100 (H) w' ∧ v = Value.tuple #[Value.int .i64 (y100), Value.bool (y101)]) r) := by
 unfold project_count_p at hm
 refine calls_of_W Try.func58 rfl rfl (Zc (Zd (Za rfl rfl (Exec.box (cs := [v100, v101, v102, v103]) hS rfl rfl rfl ?_))))
 intro b100 w100 hS100
 refine Za rfl rfl (Zo (v := Value.int .i64 (0)) rfl rfl (Za rfl rfl (Zo (v := Value.bool (false)) rfl rfl (Zb (Ze (Zc (Zd (Za rfl rfl (Zo (v := Value.int .i64 (1)) rfl rfl (Zb (Ze (Zc ?_))))))))))))
 refine Zc (Zd (Za rfl rfl (Zm (v := v104) rfl rfl (Za rfl rfl (Zr S22 rfl rfl a104 (Za rfl rfl (Zm (v := Value.int .i64 (0)) rfl rfl (Zb (Ze ?_)))))))))
 obtain ⟨c100, hB100, hr100, hn100, hb100⟩ := ctl_some hm
 refine W_mid (M := fun f' w' => ∃ s', (c100 = .next s' ∨ c100 = .brk s') ∧ (fun (n100 : Int) => ∃ (s101 : PHeap) , PHeap.le s s101 ∧ St w0 s101 (Res.box b100 55 [v100, v101, v102, v103] :: H) w' ∧ f' 2 = Value.pointer (some ⟨b100, 0, none⟩) ∧ f' 6 = Value.int .i64 (n100) ∧ f' 9 = v104 ∧ f' 10 = Value.int .i64 ((vars100.length : Int))) s') ?_ ?_
 ·refine W_block (W_forC (fun k' s' f' w' => (fun (n101 : Int) => ∃ (s102 : PHeap) , PHeap.le s s102 ∧ St w0 s102 (Res.box b100 55 [v100, v101, v102, v103] :: H) w' ∧ f' 2 = Value.pointer (some ⟨b100, 0, none⟩) ∧ f' 6 = Value.int .i64 (n101) ∧ f' 9 = v104 ∧ f' 10 = Value.int .i64 ((vars100.length : Int)) ∧ f' 11 = Value.int .i64 (k' : Int)) s') hB100 ?_ ?_ ?_)
  ·exact ⟨s, (Zv _), hS100, rfl, rfl, rfl, rfl, rfl⟩
  ·intro i100 n101 c101 f100 w101 hi100 hI100 hm100 hres100
   obtain ⟨s103, l100, hS101, p100, p101, p102, p103, x100⟩ := hI100
   refine Zc (Zd (Za rfl rfl (Zq rfl x100 p103 (Zb (Ze (Zc (W_true (congrArg Value.bool (decide_eq_true (by omega))) (W_skip (Ze (Zc ?_))))))))))
   refine W_block (Zc (Zd ?_))
   obtain ⟨x101, q100, hm100⟩ := Zg hm100
   refine Za rfl rfl (Exec.index_rep S22 rfl p102 x100 (a104.mono l100) q100 ?_)
   intro b101 o100 a105
   refine Za rfl rfl (Zw (E := (encInt .i64)) hS101 A3 rfl rfl rfl a105 ?_)
   intro v105 q101
   obtain rfl := encInt_val.1 q101
   refine Za rfl rfl (Zo (v := Value.int .i64 (x101)) rfl rfl (Zb (Ze (Zc (Zd (Za rfl rfl (Zm (v := Value.int .i64 (n101)) rfl p101 (Za rfl rfl (Zp F55_0 rfl p100 rfl (Za rfl rfl (Zn (hS101) A22 rfl rfl rfl (Za rfl rfl (Zm (v := Value.int .i64 (x101)) rfl rfl ?_)))))))))))))
   obtain ⟨x102, q102, hm100⟩ := Zg hm100
   refine Za rfl rfl (Exec.index_rep S22 rfl rfl rfl (a100.mono l100) q102 ?_)
   intro b102 o101 a106
   refine Za rfl rfl (Zw (E := (encInt .i64)) hS101 A3 rfl rfl rfl a106 ?_)
   intro v106 q103
   obtain rfl := encInt_val.1 q103
   refine Za rfl rfl (Exec.mul rfl rfl rfl (Za rfl rfl (Zo (v := Value.int .i64 (IntKind.i64.wrap (n101 * x102))) rfl rfl (Zb (Ze (Zc (Zd (Za rfl rfl (Zm (v := Value.int .i64 (IntKind.i64.wrap (n101 * x102))) rfl rfl (Za rfl rfl (Exec.gtr rfl rfl rfl (Zb (Ze ?_)))))))))))))
   rcases ite_some hm100 with ⟨hc100, hm100⟩ | ⟨hc100, hm100⟩
   ·refine W_cond_t rfl hc100 (Zc (Zd (Za rfl rfl (Zo (v := Value.int .i64 (0)) rfl rfl (Za rfl rfl (Zo (v := Value.bool (false)) rfl rfl (Zb (Ze (W_ret (ib_ret (at_ret (at_ret (ib_ret (at_ret (at_ret ?_)))))))))))))))
    have e100 := Zu hm100
    subst c101
    have hq100 := hr100 _ (hres100 (by intro _ h; cases h))
    have e101 := Zu hq100
    subst r
    refine ⟨_, ret2 rfl, ?_⟩
    have hS102 := (hS101).drop
    exact ⟨s103, l100, hS102, (tup2 rfl rfl)⟩
   refine W_cond_f rfl hc100 ?_
   replace hc100 := Zk hc100
   refine W_skip (ib_normal (Ze (Zd (Za rfl rfl (Exec.add rfl x100 rfl (Za rfl rfl (Zm (v := Value.int .i64 (IntKind.i64.wrap ((i100 : Int) + 1))) rfl rfl (Zb (Ze ?_)))))))))
   have e102 := Zu hm100
   subst c101
   refine ⟨_, rfl, ?_⟩; exact ⟨s103, l100, hS101, p100, rfl, p102, p103, (Eq.trans rfl (wrap_up hi100 (SliceRep.le a104)))⟩
  intro n101 f101 w102 hI101 hres101
  obtain ⟨s104, l101, hS103, p104, p105, p106, p107, x103⟩ := hI101
  refine Zc (Zd (Za rfl rfl (Zq rfl x103 p107 (Zb (Ze (Zc (W_false (congrArg Value.bool (decide_eq_false (by omega))) (W_exit (at_exit (at_exit (ib_here (Ze ?_))))))))))))
  refine ⟨_, .inl hres101, ?_⟩; exact ⟨s104, l101, hS103, p104, p105, p106, p107⟩
 rintro f102 w103 ⟨n100, hc101, hM100⟩
 have hm := hc101.elim (hn100 _) (hb100 _)
 clear hc101
 obtain ⟨s105, l102, hS104, p108, p109, p110, p111⟩ := hM100
 refine (Ze (Zc (Zd (Za rfl rfl (Zm (v := Value.int .i64 (n100)) rfl p109 (Za rfl rfl (Zo (v := Value.int .i64 (n100)) rfl rfl (Za rfl rfl (Zo (v := Value.bool (true)) rfl rfl (Zb (Ze (W_ret ?_))))))))))))
 have e103 := Zu hm
 subst r
 refine ⟨_, ret2 rfl, ?_⟩
 have hS105 := (hS104).drop
 exact ⟨s105, l102, hS105, (tup2 rfl rfl)⟩
theorem N59 : (Try.f59.name == "runtime.NumGoroutine") = false := by kernel_rfl
theorem project_number_sim {w0 w : World} {s : PHeap} {H : List Res} {t100 : Task} {vars100 : (List Int)} {s_100 : (List Int)} {v100 : Value} {v101 : Value} {v102 : Value} {v103 : Value} {v104 : Value} {v105 : Value} {r : Int} (hm : project_number_p t100 vars100 s_100 = some r) (hS : St w0 s (H) w) (a100 : SliceRep (encInt .i64) s v100 t100.Vars) (a101 : SliceRep (encInt .i64) s v101 t100.Init) (a102 : SliceRep encFact s v102 t100.Goal) (a103 : SliceRep encOp s v103 t100.Ops) (a104 : SliceRep (encInt .i64) s v104 vars100) (a105 : SliceRep (encInt .i64) s v105 s_100) :
  Calls Try.prog 59 #[Value.agg #[v100, v101, v102, v103], v104, v105] w fun e w' => ∃ v, e = .returned v ∧ ((fun (y100 : Int) => ∃ (s100 : PHeap) , PHeap.le s s100 ∧ St w0 s100 (H) w' ∧ v = Value.int .i64 (y100)) r) := by
 unfold project_number_p at hm
 refine calls_of_W Try.func59 rfl rfl (Zc (Zd (Za rfl rfl (Exec.box (cs := [v100, v101, v102, v103]) hS rfl rfl rfl ?_))))
 intro b100 w100 hS100
 refine Za rfl rfl (Zo (v := Value.int .i64 (0)) rfl rfl (Zb (Ze (Zc (Zd (Za rfl rfl (Zo (v := Value.int .i64 (0)) rfl rfl (Zb (Ze (Zc (Zc ?_)))))))))))
 refine Zd (Za rfl rfl (Zm (v := v104) rfl rfl (Za rfl rfl (Zr S22 rfl rfl a104 (Za rfl rfl (Zm (v := Value.int .i64 (0)) rfl rfl (Zb (Ze ?_))))))))
 obtain ⟨n100, hB100, hm⟩ := Zg hm
 refine W_block (W_forS (fun k' s' f' w' => (fun (n100 : Int) => ∃ (s101 : PHeap) , PHeap.le s s101 ∧ St w0 s101 (Res.box b100 55 [v100, v101, v102, v103] :: H) w' ∧ f' 2 = v105 ∧ f' 3 = Value.pointer (some ⟨b100, 0, none⟩) ∧ f' 7 = Value.int .i64 (n100) ∧ f' 10 = v104 ∧ f' 11 = Value.int .i64 ((vars100.length : Int)) ∧ f' 12 = Value.int .i64 (k' : Int)) s') hB100 ?_ ?_ ?_)
 ·exact ⟨s, (Zv _), hS100, rfl, rfl, rfl, rfl, rfl, rfl⟩
 ·intro i100 n100 s102 f100 w101 hi100 hI100 hm100
  obtain ⟨s103, l100, hS101, p100, p101, p102, p103, p104, x100⟩ := hI100
  refine Zc (Zd (Za rfl rfl (Zq rfl x100 p104 (Zb (Ze (Zc (W_true (congrArg Value.bool (decide_eq_true (by omega))) (W_skip (Ze (Zc ?_))))))))))
  refine W_block (Zc (Zd ?_))
  obtain ⟨x101, q100, hm100⟩ := Zg hm100
  refine Za rfl rfl (Exec.index_rep S22 rfl p103 x100 (a104.mono l100) q100 ?_)
  intro b101 o100 a106
  refine Za rfl rfl (Zw (E := (encInt .i64)) hS101 A3 rfl rfl rfl a106 ?_)
  intro v106 q101
  obtain rfl := encInt_val.1 q101
  refine Za rfl rfl (Zo (v := Value.int .i64 (x101)) rfl rfl (Zb (Ze (W_dl (n0 := 12) (.q 0 (.q 1 (.q 2 (.q 3 (.q 4 (.q 5 (.q 6 (.q 7 (.q 8 (.q 9 (.q 10 (.q 11 .done)))))))))))) hmix (by kernel_rfl) (by kernel_rfl) ?_))))
  have hS102 := hS101.drew
  refine DL_q rfl rfl (Zm (v := Value.int .i64 (n100)) rfl p102 ⟨rfl, ?_⟩)
  refine DL_q rfl rfl (Zp F55_0 rfl p101 rfl ⟨rfl, ?_⟩)
  refine DL_q rfl rfl (Zn (hS102) A22 rfl rfl rfl ⟨rfl, ?_⟩)
  refine DL_q rfl rfl (Zm (v := Value.int .i64 (x101)) rfl rfl ⟨rfl, ?_⟩)
  obtain ⟨x102, q102, hm100⟩ := Zg hm100
  refine DL_q rfl rfl (Exec.index_repE S22 rfl rfl rfl (a100.mono l100) q102 ?_)
  intro b102 o101 a107 e100
  refine ⟨rfl, ?_⟩
  refine DL_q rfl rfl (Zw (E := (encInt .i64)) hS102 A3 rfl rfl rfl a107 ?_)
  intro v107 q103
  obtain rfl := encInt_val.1 q103
  refine ⟨rfl, ?_⟩
  refine DL_q rfl rfl (Exec.mul rfl rfl rfl ⟨rfl, ?_⟩)
  refine DL_q rfl rfl (Zm (v := v105) rfl p100 ⟨rfl, ?_⟩)
  refine DL_q rfl rfl (Zm (v := Value.int .i64 (x101)) rfl rfl ⟨rfl, ?_⟩)
  obtain ⟨x103, q104, hm100⟩ := Zg hm100
  refine DL_q rfl rfl (Exec.index_repE S22 rfl rfl rfl (a105.mono l100) q104 ?_)
  intro b103 o102 a108 e101
  refine ⟨rfl, ?_⟩
  refine DL_q rfl rfl (Zw (E := (encInt .i64)) hS102 A3 rfl rfl rfl a108 ?_)
  intro v108 q105
  obtain rfl := encInt_val.1 q105
  refine ⟨rfl, ?_⟩
  refine DL_q rfl rfl (Exec.add rfl rfl rfl ⟨rfl, ?_⟩)
  refine DL_done (Za rfl rfl (Zo (v := Value.int .i64 (IntKind.i64.wrap ((IntKind.i64.wrap (n100 * x102)) + x103))) rfl rfl (Zb (ib_normal (Ze (Zd (Za rfl rfl (Exec.add rfl x100 rfl (Za rfl rfl (Zm (v := Value.int .i64 (IntKind.i64.wrap ((i100 : Int) + 1))) rfl rfl (Zb (Ze ?_))))))))))))
  have e102 := Zu hm100
  subst s102
  exact ⟨s103, l100, hS102, p100, p101, rfl, p103, p104, (Eq.trans rfl (wrap_up hi100 (SliceRep.le a104)))⟩
 intro f101 w102 hI101
 obtain ⟨s104, l101, hS103, p105, p106, p107, p108, p109, x104⟩ := hI101
 refine Zc (Zd (Za rfl rfl (Zq rfl x104 p109 (Zb (Ze (Zc (W_false (congrArg Value.bool (decide_eq_false (by omega))) (W_exit (at_exit (at_exit (ib_here (Ze (Zc ?_)))))))))))))
 refine Zd (Za rfl rfl (Zm (v := Value.int .i64 (n100)) rfl p107 (Za rfl rfl (Zo (v := Value.int .i64 (n100)) rfl rfl (Zb (Ze (W_ret ?_)))))))
 have e103 := Zu hm
 subst r
 refine ⟨_, ret1 rfl, ?_⟩
 have hS104 := (hS103).drop
 exact ⟨s104, l101, hS104, rfl⟩
theorem S83 : tySlice Try.prog 83 = some (22, 1, 24) := by kernel_rfl
theorem Z22 : tyZero Try.prog 22 = some (Value.slice none 0 0) := by kernel_rfl
theorem N80 : (Try.f80.name == "runtime.NumGoroutine") = false := by kernel_rfl
theorem slices_Index___int_int__sim {w0 w : World} {s : PHeap} {H : List Res} {s_100 : (List Int)} {v100 : Int} {v101 : Value} {r : Int} (hm : slices_Index___int_int__p s_100 v100 = some r) (hS : St w0 s (H) w) (a100 : SliceRep (encInt .i64) s v101 s_100) :
  Calls Try.prog 80 #[v101, Value.int .i64 (v100)] w fun e w' => ∃ v, e = .returned v ∧ ((fun (y100 : Int) => ∃ (s100 : PHeap) , PHeap.le s s100 ∧ St w0 s100 (H) w' ∧ v = Value.int .i64 (y100)) r) := by
 unfold slices_Index___int_int__p at hm
 refine calls_of_W Try.func80 rfl rfl (Zc (Zd (Za rfl rfl (Zo (v := Value.int .i64 (0)) rfl rfl (Zb (Ze (Zc (Zc (Zd ?_)))))))))
 refine Za rfl rfl (Zm (v := v101) rfl rfl (Za rfl rfl (Zr S22 rfl rfl a100 (Za rfl rfl (Zm (v := Value.int .i64 (0)) rfl rfl (Zb (Ze ?_)))))))
 obtain ⟨c100, hB100, hr100, hn100, hb100⟩ := ctl_some hm
 refine W_mid (M := fun f' w' => ∃ s', (c100 = .next s' ∨ c100 = .brk s') ∧ (fun (_ : Unit) => ∃ (s101 : PHeap) , PHeap.le s s101 ∧ St w0 s101 (H) w' ∧ f' 0 = v101 ∧ f' 1 = Value.int .i64 (v100) ∧ f' 7 = Value.int .i64 ((s_100.length : Int))) s') ?_ ?_
 ·refine W_block (W_forC (fun k' s' f' w' => (fun (_ : Unit) => ∃ (s102 : PHeap) , PHeap.le s s102 ∧ St w0 s102 (H) w' ∧ f' 0 = v101 ∧ f' 1 = Value.int .i64 (v100) ∧ f' 7 = Value.int .i64 ((s_100.length : Int)) ∧ f' 8 = Value.int .i64 (k' : Int)) s') hB100 ?_ ?_ ?_)
  ·exact ⟨s, (Zv _), hS, rfl, rfl, rfl, rfl⟩
  ·intro i100 t100 c101 f100 w100 hi100 hI100 hm100 hres100
   obtain ⟨s103, l100, hS100, p100, p101, p102, x100⟩ := hI100
   refine Zc (Zd (Za rfl rfl (Zq rfl x100 p102 (Zb (Ze (Zc (W_true (congrArg Value.bool (decide_eq_true (by omega))) (W_skip (Ze (Zc ?_))))))))))
   refine W_block (Zc (Zd (Za rfl rfl (Zm (v := Value.int .i64 ((i100 : Int))) rfl x100 (Za rfl rfl (Zo (v := Value.int .i64 ((i100 : Int))) rfl rfl (Zb (Ze (Zc (Zd ?_))))))))))
   refine Za rfl rfl (Zm (v := Value.int .i64 (v100)) rfl p101 (Za rfl rfl (Zm (v := v101) rfl p100 (Za rfl rfl (Zm (v := Value.int .i64 ((i100 : Int))) rfl rfl ?_)))))
   obtain ⟨x101, q100, hm100⟩ := Zg hm100
   refine Za rfl rfl (Exec.index_rep S22 rfl rfl rfl (a100.mono l100) q100 ?_)
   intro b100 o100 a101
   refine Za rfl rfl (Zw (E := (encInt .i64)) hS100 A3 rfl rfl rfl a101 ?_)
   intro v102 q101
   obtain rfl := encInt_val.1 q101
   refine Za rfl rfl (Exec.eql rfl rfl rfl (Zb (Ze ?_)))
   rcases ite_some hm100 with ⟨hc100, hm100⟩ | ⟨hc100, hm100⟩
   ·refine W_cond_t rfl hc100 (Zc (Zd (Za rfl rfl (Zm (v := Value.int .i64 ((i100 : Int))) rfl rfl (Za rfl rfl (Zo (v := Value.int .i64 ((i100 : Int))) rfl rfl (Zb (Ze (W_ret (ib_ret (at_ret (at_ret (ib_ret (at_ret (at_ret ?_)))))))))))))))
    have e100 := Zu hm100
    subst c101
    have hq100 := hr100 _ (hres100 (by intro _ h; cases h))
    have e101 := Zu hq100
    subst r
    refine ⟨_, ret1 rfl, ?_⟩
    exact ⟨s103, l100, hS100, rfl⟩
   refine W_cond_f rfl hc100 ?_
   replace hc100 := Zk hc100
   refine W_skip (ib_normal (Ze (Zd (Za rfl rfl (Exec.add rfl x100 rfl (Za rfl rfl (Zm (v := Value.int .i64 (IntKind.i64.wrap ((i100 : Int) + 1))) rfl rfl (Zb (Ze ?_)))))))))
   have e102 := Zu hm100
   subst c101
   refine ⟨_, rfl, ?_⟩; exact ⟨s103, l100, hS100, p100, p101, p102, (Eq.trans rfl (wrap_up hi100 (SliceRep.le a100)))⟩
  intro t101 f101 w101 hI101 hres101
  obtain ⟨s104, l101, hS101, p103, p104, p105, x102⟩ := hI101
  refine Zc (Zd (Za rfl rfl (Zq rfl x102 p105 (Zb (Ze (Zc (W_false (congrArg Value.bool (decide_eq_false (by omega))) (W_exit (at_exit (at_exit (ib_here (Ze ?_))))))))))))
  refine ⟨_, .inl hres101, ?_⟩; exact ⟨s104, l101, hS101, p103, p104, p105⟩
 rintro f102 w102 ⟨t102, hc101, hM100⟩
 have hm := hc101.elim (hn100 _) (hb100 _)
 clear hc101
 obtain ⟨s105, l102, hS102, p106, p107, p108⟩ := hM100
 refine (Ze (Zc (Zd (Za rfl rfl (Zo (v := Value.int .i64 ((-1))) rfl rfl (Zb (Ze (W_ret ?_))))))))
 have e103 := Zu hm
 subst r
 refine ⟨_, ret1 rfl, ?_⟩
 exact ⟨s105, l102, hS102, rfl⟩
theorem N62 : (Try.f62.name == "runtime.NumGoroutine") = false := by kernel_rfl
theorem slices_Contains___int_int__sim {w0 w : World} {s : PHeap} {H : List Res} {s_100 : (List Int)} {v100 : Int} {v101 : Value} {r : Bool} (hm : slices_Contains___int_int__p s_100 v100 = some r) (hS : St w0 s (H) w) (a100 : SliceRep (encInt .i64) s v101 s_100) :
  Calls Try.prog 62 #[v101, Value.int .i64 (v100)] w fun e w' => ∃ v, e = .returned v ∧ ((fun (y100 : Bool) => ∃ (s100 : PHeap) , PHeap.le s s100 ∧ St w0 s100 (H) w' ∧ v = Value.bool (y100)) r) := by
 unfold slices_Contains___int_int__p at hm
 refine calls_of_W Try.func62 rfl rfl (Zc (Zd (Za rfl rfl (Zo (v := Value.bool (false)) rfl rfl (Zb (Ze (Zc (Zd (Za rfl rfl (Zm (v := v101) rfl rfl ?_))))))))))
 refine Za rfl rfl (Zm (v := Value.int .i64 (v100)) rfl rfl ?_)
 obtain ⟨y101, q100, hm⟩ := Zg hm
 refine Za rfl rfl (Exec.call rfl rfl Try.func80 rfl N80 (Zi rfl (Zi rfl args_nil)) ((slices_Index___int_int__sim q100 hS a100).mono ?_))
 rintro _ w100 ⟨_, rfl, ⟨s101, l100, hS100, rfl⟩⟩
 refine ⟨_, rfl, ?_⟩
 refine Za rfl rfl (Exec.geq rfl rfl rfl (Za rfl rfl (Zo (v := Value.bool (decide (0 ≤ y101))) rfl rfl (Zb (Ze (W_ret ?_))))))
 have e100 := Zu hm
 subst r
 refine ⟨_, ret1 rfl, ?_⟩
 exact ⟨s101, l100, hS100, rfl⟩
theorem N94 : (Try.f94.name == "runtime.NumGoroutine") = false := by kernel_rfl
theorem project_has_c1_sim {w0 w : World} {s : PHeap} {H : List Res} {x100 : Fact} {c100 : Int} {b100 o100 : Nat} {r : Bool} (hm : project_has_c1_p x100 c100 = some r) (hS : St w0 s (H) w) (a100 : At s b100 o100 (encInt .i64) c100) :
  Calls Try.prog 94 #[Value.agg #[Value.int .i64 (x100.Var), Value.int .i64 (x100.Val)], Value.pointer (some ⟨b100, o100, none⟩)] w fun e w' => ∃ v, e = .returned v ∧ ((fun (y100 : Bool) => ∃ (s100 : PHeap) , PHeap.le s s100 ∧ St w0 s100 (H) w' ∧ v = Value.bool (y100)) r) := by
 unfold project_has_c1_p at hm
 refine calls_of_W Try.func94 rfl rfl (Zc (Zd (Za rfl rfl (Exec.box (cs := [Value.int .i64 (x100.Var), Value.int .i64 (x100.Val)]) hS rfl rfl rfl ?_))))
 intro b101 w100 hS100
 refine Za rfl rfl (Zo (v := Value.bool (false)) rfl rfl (Zb (Ze (Zc (Zd (Za rfl rfl (Zp F82_0 rfl rfl rfl (Za rfl rfl (Zn (hS100) A3 rfl rfl rfl (Za rfl rfl (Zw (E := (encInt .i64)) hS100 A3 rfl rfl rfl a100 ?_)))))))))))
 intro v100 q100
 obtain rfl := encInt_val.1 q100
 refine Za rfl rfl (Exec.eql rfl rfl rfl (Za rfl rfl (Zo (v := Value.bool (decide (x100.Var = c100))) rfl rfl (Zb (Ze (W_ret ?_))))))
 have e100 := Zu hm
 subst r
 refine ⟨_, ret1 rfl, ?_⟩
 have hS101 := (hS100).drop
 exact ⟨s, (Zv _), hS101, rfl⟩
theorem N100 : (Try.f100.name == "runtime.NumGoroutine") = false := by kernel_rfl
theorem api_Fact__f94_100_sim {w0 w : World} {s : PHeap} {H : List Res} {s_100 : (List Fact)} {c100 : Int} {v100 : Value} {b100 o100 : Nat} {r : Int} (hm : api_Fact__f94_100_p s_100 c100 = some r) (hS : St w0 s (H) w) (a100 : SliceRep encFact s v100 s_100) (a101 : At s b100 o100 (encInt .i64) c100) :
  Calls Try.prog 100 #[v100, Value.func (.func 94) #[] #[Value.pointer (some ⟨b100, o100, none⟩)]] w fun e w' => ∃ v, e = .returned v ∧ ((fun (y100 : Int) => ∃ (s100 : PHeap) , PHeap.le s s100 ∧ St w0 s100 (H) w' ∧ v = Value.int .i64 (y100)) r) := by
 unfold api_Fact__f94_100_p at hm
 refine calls_of_W Try.func100 rfl rfl (Zc (Zd (Za rfl rfl (Zo (v := Value.int .i64 (0)) rfl rfl (Zb (Ze (Zc (Zc (Zd ?_)))))))))
 refine Za rfl rfl (Zm (v := v100) rfl rfl (Za rfl rfl (Zr S52 rfl rfl a100 (Za rfl rfl (Zm (v := Value.int .i64 (0)) rfl rfl (Zb (Ze ?_)))))))
 obtain ⟨c101, hB100, hr100, hn100, hb100⟩ := ctl_some hm
 refine W_mid (M := fun f' w' => ∃ s', (c101 = .next s' ∨ c101 = .brk s') ∧ (fun (_ : Unit) => ∃ (s101 : PHeap) , PHeap.le s s101 ∧ St w0 s101 (H) w' ∧ f' 0 = v100 ∧ f' 1 = Value.func (.func 94) #[] #[Value.pointer (some ⟨b100, o100, none⟩)] ∧ f' 7 = Value.int .i64 ((s_100.length : Int))) s') ?_ ?_
 ·refine W_block (W_forC (fun k' s' f' w' => (fun (_ : Unit) => ∃ (s102 : PHeap) , PHeap.le s s102 ∧ St w0 s102 (H) w' ∧ f' 0 = v100 ∧ f' 1 = Value.func (.func 94) #[] #[Value.pointer (some ⟨b100, o100, none⟩)] ∧ f' 7 = Value.int .i64 ((s_100.length : Int)) ∧ f' 8 = Value.int .i64 (k' : Int)) s') hB100 ?_ ?_ ?_)
  ·exact ⟨s, (Zv _), hS, rfl, rfl, rfl, rfl⟩
  ·intro i100 t100 c102 f100 w100 hi100 hI100 hm100 hres100
   obtain ⟨s103, l100, hS100, p100, p101, p102, x100⟩ := hI100
   refine Zc (Zd (Za rfl rfl (Zq rfl x100 p102 (Zb (Ze (Zc (W_true (congrArg Value.bool (decide_eq_true (by omega))) (W_skip (Ze (Zc ?_))))))))))
   refine W_block (Zc (Zd (Za rfl rfl (Zm (v := Value.int .i64 ((i100 : Int))) rfl x100 (Za rfl rfl (Zo (v := Value.int .i64 ((i100 : Int))) rfl rfl (Zb (Ze (Zc (Zd ?_))))))))))
   refine Za rfl rfl (Zm (v := Value.func (.func 94) #[] #[Value.pointer (some ⟨b100, o100, none⟩)]) rfl p101 (Za rfl rfl (Zm (v := v100) rfl p100 (Za rfl rfl (Zm (v := Value.int .i64 ((i100 : Int))) rfl rfl ?_)))))
   obtain ⟨x101, q100, hm100⟩ := Zg hm100
   refine Za rfl rfl (Exec.index_rep S52 rfl rfl rfl (a100.mono l100) q100 ?_)
   intro b101 o101 a102
   refine Za rfl rfl (Zw (E := encFact) hS100 A82 rfl rfl rfl a102 ?_)
   intro v101 q101
   obtain rfl := encFact_val.1 q101
   refine Za rfl rfl (Exec.callc rfl rfl Try.func94 rfl N94 (Zi rfl args_nil) rfl ((project_has_c1_sim (project_has_c1_tot x101 c100) hS100 (a101.mono l100)).mono ?_))
   rintro _ w101 ⟨_, rfl, ⟨s104, l101, hS101, rfl⟩⟩
   refine ⟨_, rfl, ?_⟩
   refine Zb (Ze ?_)
   rcases ite_some hm100 with ⟨hc100, hm100⟩ | ⟨hc100, hm100⟩
   ·refine W_cond_t rfl hc100 (Zc (Zd (Za rfl rfl (Zm (v := Value.int .i64 ((i100 : Int))) rfl rfl (Za rfl rfl (Zo (v := Value.int .i64 ((i100 : Int))) rfl rfl (Zb (Ze (W_ret (ib_ret (at_ret (at_ret (ib_ret (at_ret (at_ret ?_)))))))))))))))
    have e100 := Zu hm100
    subst c102
    have hq100 := hr100 _ (hres100 (by intro _ h; cases h))
    have e101 := Zu hq100
    subst r
    refine ⟨_, ret1 rfl, ?_⟩
    exact ⟨s104, (Zt l100 l101), hS101, rfl⟩
   refine W_cond_f rfl hc100 ?_
   replace hc100 := Zk hc100
   refine W_skip (ib_normal (Ze (Zd (Za rfl rfl (Exec.add rfl x100 rfl (Za rfl rfl (Zm (v := Value.int .i64 (IntKind.i64.wrap ((i100 : Int) + 1))) rfl rfl (Zb (Ze ?_)))))))))
   have e102 := Zu hm100
   subst c102
   refine ⟨_, rfl, ?_⟩; exact ⟨s104, (Zt l100 l101), hS101, p100, p101, p102, (Eq.trans rfl (wrap_up hi100 (SliceRep.le a100)))⟩
  intro t101 f101 w102 hI101 hres101
  obtain ⟨s105, l102, hS102, p103, p104, p105, x102⟩ := hI101
  refine Zc (Zd (Za rfl rfl (Zq rfl x102 p105 (Zb (Ze (Zc (W_false (congrArg Value.bool (decide_eq_false (by omega))) (W_exit (at_exit (at_exit (ib_here (Ze ?_))))))))))))
  refine ⟨_, .inl hres101, ?_⟩; exact ⟨s105, l102, hS102, p103, p104, p105⟩
 rintro f102 w103 ⟨t102, hc101, hM100⟩
 have hm := hc101.elim (hn100 _) (hb100 _)
 clear hc101
 obtain ⟨s106, l103, hS103, p106, p107, p108⟩ := hM100
 refine (Ze (Zc (Zd (Za rfl rfl (Zo (v := Value.int .i64 ((-1))) rfl rfl (Zb (Ze (W_ret ?_))))))))
 have e103 := Zu hm
 subst r
 refine ⟨_, ret1 rfl, ?_⟩
 exact ⟨s106, l103, hS103, rfl⟩
theorem N93 : (Try.f93.name == "runtime.NumGoroutine") = false := by kernel_rfl
theorem api_Fact__f94_sim {w0 w : World} {s : PHeap} {H : List Res} {s_100 : (List Fact)} {c100 : Int} {v100 : Value} {b100 o100 : Nat} {r : Bool} (hm : api_Fact__f94_p s_100 c100 = some r) (hS : St w0 s (H) w) (a100 : SliceRep encFact s v100 s_100) (a101 : At s b100 o100 (encInt .i64) c100) :
  Calls Try.prog 93 #[v100, Value.func (.func 94) #[] #[Value.pointer (some ⟨b100, o100, none⟩)]] w fun e w' => ∃ v, e = .returned v ∧ ((fun (y100 : Bool) => ∃ (s100 : PHeap) , PHeap.le s s100 ∧ St w0 s100 (H) w' ∧ v = Value.bool (y100)) r) := by
 unfold api_Fact__f94_p at hm
 refine calls_of_W Try.func93 rfl rfl (Zc (Zd (Za rfl rfl (Zo (v := Value.bool (false)) rfl rfl (Zb (Ze (Zc (Zd (Za rfl rfl (Zm (v := v100) rfl rfl ?_))))))))))
 refine Za rfl rfl (Zm (v := Value.func (.func 94) #[] #[Value.pointer (some ⟨b100, o100, none⟩)]) rfl rfl ?_)
 obtain ⟨y101, q100, hm⟩ := Zg hm
 refine Za rfl rfl (Exec.call rfl rfl Try.func100 rfl N100 (Zi rfl (Zi rfl args_nil)) ((api_Fact__f94_100_sim q100 hS a100 a101).mono ?_))
 rintro _ w100 ⟨_, rfl, ⟨s101, l100, hS100, rfl⟩⟩
 refine ⟨_, rfl, ?_⟩
 refine Za rfl rfl (Exec.geq rfl rfl rfl (Za rfl rfl (Zo (v := Value.bool (decide (0 ≤ y101))) rfl rfl (Zb (Ze (W_ret ?_))))))
 have e100 := Zu hm
 subst r
 refine ⟨_, ret1 rfl, ?_⟩
 exact ⟨s101, l100, hS100, rfl⟩
theorem N77 : (Try.f77.name == "runtime.NumGoroutine") = false := by kernel_rfl
theorem project_has_sim {w0 w : World} {s : PHeap} {H : List Res} {f_100 : (List Fact)} {v100 : Int} {v101 : Value} {r : Bool} (hm : project_has_p f_100 v100 = some r) (hS : St w0 s (H) w) (a100 : SliceRep encFact s v101 f_100) :
  Calls Try.prog 77 #[v101, Value.int .i64 (v100)] w fun e w' => ∃ v, e = .returned v ∧ ((fun (y100 : Bool) => ∃ (s100 : PHeap) , PHeap.le s s100 ∧ St w0 s100 (H) w' ∧ v = Value.bool (y100)) r) := by
 unfold project_has_p at hm
 refine calls_of_W Try.func77 rfl rfl (Zc (Zd (Za rfl rfl (Exec.box (cs := [Value.int .i64 (v100)]) hS rfl rfl rfl ?_))))
 intro b100 w100 hS100
 refine Za rfl rfl (Zo (v := Value.bool (false)) rfl rfl (Zb (Ze (Zc (Zd (Za rfl rfl (Zm (v := v101) rfl rfl ?_)))))))
 obtain ⟨s101, l100, hS101, r100⟩ := St.freezeVar (E := (encInt .i64)) (y := v100) hS100 rfl
 refine Za rfl rfl (Exec.makeFunc rfl (Zi rfl args_nil) ?_)
 obtain ⟨y101, q100, hm⟩ := Zg hm
 refine Za rfl rfl (Exec.call rfl rfl Try.func93 rfl N93 (Zi rfl (Zi rfl args_nil)) ((api_Fact__f94_sim q100 hS101 (a100.mono l100) r100).mono ?_))
 rintro _ w101 ⟨_, rfl, ⟨s102, l101, hS102, rfl⟩⟩
 refine ⟨_, rfl, ?_⟩
 refine Za rfl rfl (Zo (v := Value.bool (y101)) rfl rfl (Zb (Ze (W_ret ?_))))
 have e100 := Zu hm
 subst r
 refine ⟨_, ret1 rfl, ?_⟩
 exact ⟨s102, (Zt l100 l101), hS102, rfl⟩
theorem slices_Index___int_int__o_sim {w0 w : World} {s : PHeap} {H : List Res} {s_100 : (List Int)} {v100 : Int} {v101 : Value} {r : Int} (hm : slices_Index___int_int__o_p s_100 v100 = some r) (hS : St w0 s (Res.arr (encInt .i64) 3 v101 s_100 :: H) w)  :
  Calls Try.prog 80 #[v101, Value.int .i64 (v100)] w fun e w' => ∃ v, e = .returned v ∧ ((fun (y100 : Int) => ∃ (s100 : PHeap) , PHeap.le s s100 ∧ St w0 s100 (Res.arr (encInt .i64) 3 v101 s_100 :: H) w' ∧ v = Value.int .i64 (y100)) r) := by
 unfold slices_Index___int_int__o_p at hm
 refine calls_of_W Try.func80 rfl rfl (Zc (Zd (Za rfl rfl (Zo (v := Value.int .i64 (0)) rfl rfl (Zb (Ze (Zc (Zc (Zd ?_)))))))))
 refine Za rfl rfl (Zm (v := v101) rfl rfl (Za rfl rfl (Exec.len_arr (hS) S22 rfl rfl (Za rfl rfl (Zm (v := Value.int .i64 (0)) rfl rfl (Zb (Ze ?_)))))))
 obtain ⟨c100, hB100, hr100, hn100, hb100⟩ := ctl_some hm
 refine W_mid (M := fun f' w' => ∃ s', (c100 = .next s' ∨ c100 = .brk s') ∧ (fun (_ : Unit) => ∃ (s101 : PHeap) , PHeap.le s s101 ∧ St w0 s101 (Res.arr (encInt .i64) 3 v101 s_100 :: H) w' ∧ f' 0 = v101 ∧ f' 1 = Value.int .i64 (v100) ∧ f' 7 = Value.int .i64 ((s_100.length : Int))) s') ?_ ?_
 ·refine W_block (W_forC (fun k' s' f' w' => (fun (_ : Unit) => ∃ (s102 : PHeap) , PHeap.le s s102 ∧ St w0 s102 (Res.arr (encInt .i64) 3 v101 s_100 :: H) w' ∧ f' 0 = v101 ∧ f' 1 = Value.int .i64 (v100) ∧ f' 7 = Value.int .i64 ((s_100.length : Int)) ∧ f' 8 = Value.int .i64 (k' : Int)) s') hB100 ?_ ?_ ?_)
  ·exact ⟨s, (Zv _), hS, rfl, rfl, rfl, rfl⟩
  ·intro i100 t100 c101 f100 w100 hi100 hI100 hm100 hres100
   obtain ⟨s103, l100, hS100, p100, p101, p102, x100⟩ := hI100
   refine Zc (Zd (Za rfl rfl (Zq rfl x100 p102 (Zb (Ze (Zc (W_true (congrArg Value.bool (decide_eq_true (by omega))) (W_skip (Ze (Zc ?_))))))))))
   refine W_block (Zc (Zd (Za rfl rfl (Zm (v := Value.int .i64 ((i100 : Int))) rfl x100 (Za rfl rfl (Zo (v := Value.int .i64 ((i100 : Int))) rfl rfl (Zb (Ze (Zc (Zd ?_))))))))))
   refine Za rfl rfl (Zm (v := Value.int .i64 (v100)) rfl p101 (Za rfl rfl (Zm (v := v101) rfl p100 (Za rfl rfl (Zm (v := Value.int .i64 ((i100 : Int))) rfl rfl ?_)))))
   obtain ⟨x101, q100, hm100⟩ := Zg hm100
   obtain ⟨g100, c102, e100⟩ := (hS100).arr_at q100
   refine Za rfl rfl (Exec.index_slice S22 rfl e100 rfl (idx_some q100).1 (idx_some q100).2.1 (Za rfl rfl (Exec.load_arr (F := (encInt .i64)) (hS100) e100 A3 rfl rfl rfl q100 (Sub.refl _) ?_)))
   intro v102 q101
   obtain rfl := encInt_val.1 q101
   refine Za rfl rfl (Exec.eql rfl rfl rfl (Zb (Ze ?_)))
   rcases ite_some hm100 with ⟨hc100, hm100⟩ | ⟨hc100, hm100⟩
   ·refine W_cond_t rfl hc100 (Zc (Zd (Za rfl rfl (Zm (v := Value.int .i64 ((i100 : Int))) rfl rfl (Za rfl rfl (Zo (v := Value.int .i64 ((i100 : Int))) rfl rfl (Zb (Ze (W_ret (ib_ret (at_ret (at_ret (ib_ret (at_ret (at_ret ?_)))))))))))))))
    have e101 := Zu hm100
    subst c101
    have hq100 := hr100 _ (hres100 (by intro _ h; cases h))
    have e102 := Zu hq100
    subst r
    refine ⟨_, ret1 rfl, ?_⟩
    exact ⟨s103, l100, hS100, rfl⟩
   refine W_cond_f rfl hc100 ?_
   replace hc100 := Zk hc100
   refine W_skip (ib_normal (Ze (Zd (Za rfl rfl (Exec.add rfl x100 rfl (Za rfl rfl (Zm (v := Value.int .i64 (IntKind.i64.wrap ((i100 : Int) + 1))) rfl rfl (Zb (Ze ?_)))))))))
   have e103 := Zu hm100
   subst c101
   refine ⟨_, rfl, ?_⟩; exact ⟨s103, l100, hS100, p100, p101, p102, (Eq.trans rfl (wrap_up hi100 (hS).arr_le))⟩
  intro t101 f101 w101 hI101 hres101
  obtain ⟨s104, l101, hS101, p103, p104, p105, x102⟩ := hI101
  refine Zc (Zd (Za rfl rfl (Zq rfl x102 p105 (Zb (Ze (Zc (W_false (congrArg Value.bool (decide_eq_false (by omega))) (W_exit (at_exit (at_exit (ib_here (Ze ?_))))))))))))
  refine ⟨_, .inl hres101, ?_⟩; exact ⟨s104, l101, hS101, p103, p104, p105⟩
 rintro f102 w102 ⟨t102, hc101, hM100⟩
 have hm := hc101.elim (hn100 _) (hb100 _)
 clear hc101
 obtain ⟨s105, l102, hS102, p106, p107, p108⟩ := hM100
 refine (Ze (Zc (Zd (Za rfl rfl (Zo (v := Value.int .i64 ((-1))) rfl rfl (Zb (Ze (W_ret ?_))))))))
 have e104 := Zu hm
 subst r
 refine ⟨_, ret1 rfl, ?_⟩
 exact ⟨s105, l102, hS102, rfl⟩
theorem slices_Contains___int_int__o_sim {w0 w : World} {s : PHeap} {H : List Res} {s_100 : (List Int)} {v100 : Int} {v101 : Value} {r : Bool} (hm : slices_Contains___int_int__o_p s_100 v100 = some r) (hS : St w0 s (Res.arr (encInt .i64) 3 v101 s_100 :: H) w)  :
  Calls Try.prog 62 #[v101, Value.int .i64 (v100)] w fun e w' => ∃ v, e = .returned v ∧ ((fun (y100 : Bool) => ∃ (s100 : PHeap) , PHeap.le s s100 ∧ St w0 s100 (Res.arr (encInt .i64) 3 v101 s_100 :: H) w' ∧ v = Value.bool (y100)) r) := by
 unfold slices_Contains___int_int__o_p at hm
 refine calls_of_W Try.func62 rfl rfl (Zc (Zd (Za rfl rfl (Zo (v := Value.bool (false)) rfl rfl (Zb (Ze (Zc (Zd (Za rfl rfl (Zm (v := v101) rfl rfl ?_))))))))))
 refine Za rfl rfl (Zm (v := Value.int .i64 (v100)) rfl rfl ?_)
 obtain ⟨y101, q100, hm⟩ := Zg hm
 refine Za rfl rfl (Exec.call rfl rfl Try.func80 rfl N80 (Zi rfl (Zi rfl args_nil)) ((slices_Index___int_int__o_sim q100 hS ).mono ?_))
 rintro _ w100 ⟨_, rfl, ⟨s101, l100, hS100, rfl⟩⟩
 refine ⟨_, rfl, ?_⟩
 refine Za rfl rfl (Exec.geq rfl rfl rfl (Za rfl rfl (Zo (v := Value.bool (decide (0 ≤ y101))) rfl rfl (Zb (Ze (W_ret ?_))))))
 have e100 := Zu hm
 subst r
 refine ⟨_, ret1 rfl, ?_⟩
 exact ⟨s101, l100, hS100, rfl⟩
theorem N78 : (Try.f78.name == "runtime.NumGoroutine") = false := by kernel_rfl
end Go.Pw
