/-
  The walks (printed by my generator).
-/
import Derived.Test.YtdhfofhginfdnaaWh3
import Derived.Test.YtdhfofhginfdnaaWhPu
set_option maxRecDepth 100000
set_option maxHeartbeats 4000000
set_option linter.unusedVariables false
namespace Go.Pw
open Go.Proofs
theorem slices_Clone___int_int__o_sim {w0 w : World} {s : PHeap} {H : List Res} {s_100 : (List Int)} {v100 : Value} {r : (List Int)} (hm : slices_Clone___int_int__o_p s_100 = some r) (hS : St w0 s (Res.arr (encInt .i64) 3 v100 s_100 :: H) w)  :
  Calls Try.prog 36 #[v100] w fun e w' => ∃ v, e = .returned v ∧ ((fun (y100 : (List Int)) => ∃ (s100 : PHeap) (v101 : Value), PHeap.le s s100 ∧ St w0 s100 (Res.arr (encInt .i64) 3 v100 s_100 :: Res.arr (encInt .i64) 3 v101 y100 :: H) w' ∧ v = v101) r) := by
 unfold slices_Clone___int_int__o_p at hm
 refine calls_of_W Try.func36 rfl rfl (Zc (Zd (Za rfl rfl (Zo (v := Value.slice none 0 0) rfl rfl (Zb (Ze (Zc (Zc (Zd ?_)))))))))
 refine Za rfl rfl (Zm (v := v100) rfl rfl ?_)
 obtain ⟨a100, n100, c100, e100, hn100⟩ := (hS).nilShape
 refine Za rfl rfl (Exec.slice_eql_nil Try.underlying22 rfl e100 rfl (Zb (Ze ?_)))
 by_cases hc100 : a100.isNone = true
 ·have hq100 := hn100 hc100
  replace hm := (show (some []) = ((app 8 [] s_100).bind fun l100 => some l100) from by simp [hq100, app]).trans hm
  refine W_true ((congrArg Value.bool hc100)) (Zc (Zd (Za rfl rfl (Zo (v := Value.slice none 0 0) rfl rfl (Zb (Ze (W_ret (at_ret ?_))))))))
  have e101 := Zu hm
  subst r
  refine ⟨_, ret1 rfl, ?_⟩
  have hS100 := hS.nilArr (encInt .i64) 3
  have hS101 := (hS100).f1
  exact ⟨s, (Value.slice none 0 0), (Zv _), hS101, rfl⟩
 replace hc100 := Zk hc100
 refine W_false ((congrArg Value.bool hc100)) (W_skip (Ze (Zc (Zd (Za rfl rfl (Exec.buildSlice (Te := 3) (cs := []) hS rfl parts_nil (fun _ => by kernel_rfl) ?_))))))
 intro b100 w100 hS102
 refine Za rfl rfl (Zm (v := v100) rfl rfl ?_)
 have hS103 := St.boxArr (E := (encInt .i64)) (xs := []) hS102 rfl (by simp [maxLen])
 obtain ⟨l100, q100, hm⟩ := Zg hm
 have hS104 := (hS103).f1
 have hS105 := (hS104).f1
 refine Za rfl rfl (Exec.append_arr (E := (encInt .i64)) hS105 S22 Z3 rfl (by decide) rfl rfl rfl q100 ?_)
 intro v102 w101 hS106
 refine Za rfl rfl (Zo (v := v102) rfl rfl (Zb (Ze (W_ret ?_))))
 have e102 := Zu hm
 subst r
 refine ⟨_, ret1 rfl, ?_⟩
 have hS107 := (hS106).f1
 exact ⟨s, v102, (Zv _), hS107, rfl⟩
theorem N81 : (Try.f81.name == "runtime.NumGoroutine") = false := by kernel_rfl
theorem task_Holds_o_sim {w0 w : World} {s : PHeap} {H : List Res} {f_100 : (List Fact)} {s_100 : (List Int)} {v100 : Value} {v101 : Value} {r : Bool} (hm : task_Holds_o_p f_100 s_100 = some r) (hS : St w0 s (Res.arr (encInt .i64) 3 v101 s_100 :: H) w) (a100 : SliceRep encFact s v100 f_100) :
  Calls Try.prog 81 #[v100, v101] w fun e w' => ∃ v, e = .returned v ∧ ((fun (y100 : Bool) => ∃ (s100 : PHeap) , PHeap.le s s100 ∧ St w0 s100 (Res.arr (encInt .i64) 3 v101 s_100 :: H) w' ∧ v = Value.bool (y100)) r) := by
 unfold task_Holds_o_p at hm
 refine calls_of_W Try.func81 rfl rfl (Zc (Zd (Za rfl rfl (Zo (v := Value.bool (false)) rfl rfl (Zb (Ze (Zc (Zc (Zd ?_)))))))))
 refine Za rfl rfl (Zm (v := v100) rfl rfl (Za rfl rfl (Zr S52 rfl rfl a100 (Za rfl rfl (Zm (v := Value.int .i64 (0)) rfl rfl (Zb (Ze ?_)))))))
 obtain ⟨c100, hB100, hr100, hn100, hb100⟩ := ctl_some hm
 refine W_mid (M := fun f' w' => ∃ s', (c100 = .next s' ∨ c100 = .brk s') ∧ (fun (_ : Unit) => ∃ (s101 : PHeap) , PHeap.le s s101 ∧ St w0 s101 (Res.arr (encInt .i64) 3 v101 s_100 :: H) w' ∧ f' 1 = v101 ∧ f' 7 = v100 ∧ f' 8 = Value.int .i64 ((f_100.length : Int))) s') ?_ ?_
 ·refine W_block (W_forC (fun k' s' f' w' => (fun (_ : Unit) => ∃ (s102 : PHeap) , PHeap.le s s102 ∧ St w0 s102 (Res.arr (encInt .i64) 3 v101 s_100 :: H) w' ∧ f' 1 = v101 ∧ f' 7 = v100 ∧ f' 8 = Value.int .i64 ((f_100.length : Int)) ∧ f' 9 = Value.int .i64 (k' : Int)) s') hB100 ?_ ?_ ?_)
  ·exact ⟨s, (Zv _), hS, rfl, rfl, rfl, rfl⟩
  ·intro i100 t100 c101 f100 w100 hi100 hI100 hm100 hres100
   obtain ⟨s103, l100, hS100, p100, p101, p102, x100⟩ := hI100
   refine Zc (Zd (Za rfl rfl (Zq rfl x100 p102 (Zb (Ze (Zc (W_true (congrArg Value.bool (decide_eq_true (by omega))) (W_skip (Ze (Zc ?_))))))))))
   refine W_block (Zc (Zd ?_))
   obtain ⟨x101, q100, hm100⟩ := Zg hm100
   refine Za rfl rfl (Exec.index_rep S52 rfl p101 x100 (a100.mono l100) q100 ?_)
   intro b100 o100 a101
   refine Za rfl rfl (Zw (E := encFact) hS100 A82 rfl rfl rfl a101 ?_)
   intro v102 q101
   obtain rfl := encFact_val.1 q101
   refine Za rfl rfl (Exec.alloc (cs := [Value.int .i64 (0), Value.int .i64 (0)]) hS100 Z82 rfl rfl ?_)
   intro b101 w101 hS101
   refine Za rfl rfl (Exec.store_box (ds := [Value.int .i64 (x101.Var), Value.int .i64 (x101.Val)]) (es := [Value.int .i64 (x101.Var), Value.int .i64 (x101.Val)]) hS101 A82 rfl rfl rfl rfl (Zj rfl (Zj rfl one_nil)) (Nat.le_of_ble_eq_true rfl) rfl ?_)
   intro w102 hS102
   refine Zb (Ze (Zc ?_))
   obtain ⟨z100, ht100, hm100⟩ := Zg hm100
   refine W_mid (M := fun f' w' => (fun (z100 : Bool) => ∃ (s104 : PHeap) , PHeap.le s103 s104 ∧ St w0 s104 (Res.arr (encInt .i64) 3 v101 s_100 :: H) w' ∧ f' 1 = v101 ∧ f' 7 = v100 ∧ f' 8 = Value.int .i64 ((f_100.length : Int)) ∧ f' 9 = Value.int .i64 ((i100 : Int)) ∧ f' 32 = Value.bool (z100)) z100) ?_ ?_
   ·refine W_dl (n0 := 20) (.q 0 (.q 1 (.q 2 (.q 3 (.q 4 (.q 5 (.q 6 (.q 7 (.q 8 (.q 9 (.q 10 (.q 11 (.q 12 (.q 13 (.q 14 (.q 15 (.q 16 (.q 17 (.q 18 (.q 19 .done)))))))))))))))))))) hmix (by kernel_rfl) (by kernel_rfl) ?_
    have hS103 := hS102.drew
    refine DL_q rfl rfl (Zp F82_0 rfl rfl rfl ⟨rfl, ?_⟩)
    refine DL_q rfl rfl (Zn (hS103) A3 rfl rfl rfl ⟨rfl, ?_⟩)
    refine DL_q rfl rfl (Zq rfl rfl rfl ⟨rfl, ?_⟩)
    refine DL_q rfl rfl (Zm (v := Value.bool (decide (x101.Var < 0))) rfl rfl ⟨rfl, ?_⟩)
    rcases ite_some ht100 with ⟨hc100, ht100⟩ | ⟨hc100, ht100⟩
    ·refine DL_qp rfl rfl (Zf rfl (congrArg Value.bool hc100)) rfl (DL_qp rfl rfl (Zf rfl (congrArg Value.bool hc100)) rfl (DL_qp rfl rfl (Zf rfl (congrArg Value.bool hc100)) rfl (DL_qp rfl rfl (Zf rfl (congrArg Value.bool hc100)) rfl (DL_qp rfl rfl (Zf rfl (congrArg Value.bool hc100)) rfl (DL_q rfl rfl (Zs (v := Value.bool (true)) rfl (congrArg Value.bool hc100) rfl ⟨rfl, ?_⟩))))))
     refine DL_q rfl rfl (Zm (v := Value.bool (true)) rfl rfl ⟨rfl, ?_⟩)
     refine DL_qp rfl rfl (Zf rfl rfl) rfl (DL_qp rfl rfl (Zf rfl rfl) rfl (DL_qp rfl rfl (Zf rfl rfl) rfl (DL_qp rfl rfl (Zf rfl rfl) rfl (DL_qp rfl rfl (Zf rfl rfl) rfl (DL_qp rfl rfl (Zf rfl rfl) rfl (DL_qp rfl rfl (Zf rfl rfl) rfl (DL_qp rfl rfl (Zf rfl rfl) rfl ?_)))))))
     refine DL_q rfl rfl (Zs (v := Value.bool (true)) rfl rfl rfl ⟨rfl, ?_⟩)
     refine DL_done (Zb (Ze ?_))
     have e100 := Zu ht100
     subst z100
     have hS104 := (hS103).drop
     exact ⟨s103, (Zv _), hS104, p100, p101, p102, x100, rfl⟩
    replace hc100 := Zk hc100
    refine DL_qg rfl rfl (Zf rfl (congrArg Value.bool hc100)) (Zp F82_0 rfl rfl rfl ⟨rfl, ?_⟩)
    refine DL_qg rfl rfl (Zf rfl (congrArg Value.bool hc100)) (Zn (hS103) A3 rfl rfl rfl ⟨rfl, ?_⟩)
    refine DL_qg rfl rfl (Zf rfl (congrArg Value.bool hc100)) (Zm (v := v101) rfl p100 ⟨rfl, ?_⟩)
    refine DL_qg rfl rfl (Zf rfl (congrArg Value.bool hc100)) (Exec.len_arr ((hS103).f1) S22 rfl rfl ⟨rfl, ?_⟩)
    refine DL_qg rfl rfl (Zf rfl (congrArg Value.bool hc100)) (Exec.geq rfl rfl rfl ⟨rfl, ?_⟩)
    refine DL_q rfl rfl (Exec.pick_f (v := Value.bool (decide ((s_100.length : Int) ≤ x101.Var))) rfl (congrArg Value.bool hc100) rfl ⟨rfl, ?_⟩)
    refine DL_q rfl rfl (Zm (v := Value.bool (decide ((s_100.length : Int) ≤ x101.Var))) rfl rfl ⟨rfl, ?_⟩)
    rcases ite_some ht100 with ⟨hc101, ht100⟩ | ⟨hc101, ht100⟩
    ·refine DL_qp rfl rfl (Zf rfl (congrArg Value.bool hc101)) rfl (DL_qp rfl rfl (Zf rfl (congrArg Value.bool hc101)) rfl (DL_qp rfl rfl (Zf rfl (congrArg Value.bool hc101)) rfl (DL_qp rfl rfl (Zf rfl (congrArg Value.bool hc101)) rfl (DL_qp rfl rfl (Zf rfl (congrArg Value.bool hc101)) rfl (DL_qp rfl rfl (Zf rfl (congrArg Value.bool hc101)) rfl (DL_qp rfl rfl (Zf rfl (congrArg Value.bool hc101)) rfl (DL_qp rfl rfl (Zf rfl (congrArg Value.bool hc101)) rfl ?_)))))))
     refine DL_q rfl rfl (Zs (v := Value.bool (true)) rfl (congrArg Value.bool hc101) rfl ⟨rfl, ?_⟩)
     refine DL_done (Zb (Ze ?_))
     have e101 := Zu ht100
     subst z100
     have hS105 := (hS103).drop
     exact ⟨s103, (Zv _), hS105, p100, p101, p102, x100, rfl⟩
    replace hc101 := Zk hc101
    refine DL_qg rfl rfl (Zf rfl (congrArg Value.bool hc101)) (Zm (v := v101) rfl p100 ⟨rfl, ?_⟩)
    refine DL_qg rfl rfl (Zf rfl (congrArg Value.bool hc101)) (Zp F82_0 rfl rfl rfl ⟨rfl, ?_⟩)
    refine DL_qg rfl rfl (Zf rfl (congrArg Value.bool hc101)) (Zn (hS103) A3 rfl rfl rfl ⟨rfl, ?_⟩)
    obtain ⟨x102, q102, ht100⟩ := Zg ht100
    obtain ⟨g100, c102, e102⟩ := ((hS103).f1).arr_at q102
    refine DL_qg rfl rfl (Zf rfl (congrArg Value.bool hc101)) (Exec.index_slice S22 rfl e102 rfl (idx_some q102).1 (idx_some q102).2.1 ⟨rfl, ?_⟩)
    refine DL_qg rfl rfl (Zf rfl (congrArg Value.bool hc101)) (Exec.load_arr (F := (encInt .i64)) ((hS103).f1) e102 A3 rfl rfl rfl q102 (Sub.refl _) ?_)
    intro v103 q103
    obtain rfl := encInt_val.1 q103
    refine ⟨rfl, ?_⟩
    refine DL_qg rfl rfl (Zf rfl (congrArg Value.bool hc101)) (Zp F82_1 rfl rfl rfl ⟨rfl, ?_⟩)
    refine DL_qg rfl rfl (Zf rfl (congrArg Value.bool hc101)) (Zn (hS103) A3 rfl rfl rfl ⟨rfl, ?_⟩)
    refine DL_qg rfl rfl (Zf rfl (congrArg Value.bool hc101)) (Exec.neq rfl rfl rfl ⟨rfl, ?_⟩)
    refine DL_q rfl rfl (Exec.pick_f (v := Value.bool (!decide (x102 = x101.Val))) rfl (congrArg Value.bool hc101) rfl ⟨rfl, ?_⟩)
    refine DL_done (Zb (Ze ?_))
    have e103 := Zu ht100
    subst z100
    have hS106 := (hS103).drop
    exact ⟨s103, (Zv _), hS106, p100, p101, p102, x100, rfl⟩
   intro f101 w103 hM100
   obtain ⟨s105, l101, hS107, p103, p104, p105, p106, p107⟩ := hM100
   refine (Ze ?_)
   rcases ite_some hm100 with ⟨hc102, hm100⟩ | ⟨hc102, hm100⟩
   ·refine W_cond_t p107 hc102 (Zc (Zd (Za rfl rfl (Zo (v := Value.bool (false)) rfl rfl (Zb (Ze (W_ret (ib_ret (at_ret (at_ret (ib_ret (at_ret (at_ret ?_)))))))))))))
    have e104 := Zu hm100
    subst c101
    have hq100 := hr100 _ (hres100 (by intro _ h; cases h))
    have e105 := Zu hq100
    subst r
    refine ⟨_, ret1 rfl, ?_⟩
    exact ⟨s105, (Zt l100 l101), hS107, rfl⟩
   refine W_cond_f p107 hc102 ?_
   replace hc102 := Zk hc102
   refine W_skip (ib_normal (Ze (Zd (Za rfl rfl (Exec.add rfl p106 rfl (Za rfl rfl (Zm (v := Value.int .i64 (IntKind.i64.wrap ((i100 : Int) + 1))) rfl rfl (Zb (Ze ?_)))))))))
   have e106 := Zu hm100
   subst c101
   refine ⟨_, rfl, ?_⟩; exact ⟨s105, (Zt l100 l101), hS107, p103, p104, p105, (Eq.trans rfl (wrap_up hi100 (SliceRep.le a100)))⟩
  intro t101 f102 w104 hI101 hres101
  obtain ⟨s106, l102, hS108, p108, p109, p110, x103⟩ := hI101
  refine Zc (Zd (Za rfl rfl (Zq rfl x103 p110 (Zb (Ze (Zc (W_false (congrArg Value.bool (decide_eq_false (by omega))) (W_exit (at_exit (at_exit (ib_here (Ze ?_))))))))))))
  refine ⟨_, .inl hres101, ?_⟩; exact ⟨s106, l102, hS108, p108, p109, p110⟩
 rintro f103 w105 ⟨t102, hc103, hM101⟩
 have hm := hc103.elim (hn100 _) (hb100 _)
 clear hc103
 obtain ⟨s107, l103, hS109, p111, p112, p113⟩ := hM101
 refine (Ze (Zc (Zd (Za rfl rfl (Zo (v := Value.bool (true)) rfl rfl (Zb (Ze (W_ret ?_))))))))
 have e107 := Zu hm
 subst r
 refine ⟨_, ret1 rfl, ?_⟩
 exact ⟨s107, l103, hS109, rfl⟩
theorem project_number_o_sim {w0 w : World} {s : PHeap} {H : List Res} {t100 : Task} {vars100 : (List Int)} {s_100 : (List Int)} {v100 : Value} {v101 : Value} {v102 : Value} {v103 : Value} {v104 : Value} {v105 : Value} {r : Int} (hm : project_number_o_p t100 vars100 s_100 = some r) (hS : St w0 s (Res.arr (encInt .i64) 3 v105 s_100 :: H) w) (a100 : SliceRep (encInt .i64) s v100 t100.Vars) (a101 : SliceRep (encInt .i64) s v101 t100.Init) (a102 : SliceRep encFact s v102 t100.Goal) (a103 : SliceRep encOp s v103 t100.Ops) (a104 : SliceRep (encInt .i64) s v104 vars100) :
  Calls Try.prog 59 #[Value.agg #[v100, v101, v102, v103], v104, v105] w fun e w' => ∃ v, e = .returned v ∧ ((fun (y100 : Int) => ∃ (s100 : PHeap) , PHeap.le s s100 ∧ St w0 s100 (Res.arr (encInt .i64) 3 v105 s_100 :: H) w' ∧ v = Value.int .i64 (y100)) r) := by
 unfold project_number_o_p at hm
 refine calls_of_W Try.func59 rfl rfl (Zc (Zd (Za rfl rfl (Exec.box (cs := [v100, v101, v102, v103]) hS rfl rfl rfl ?_))))
 intro b100 w100 hS100
 refine Za rfl rfl (Zo (v := Value.int .i64 (0)) rfl rfl (Zb (Ze (Zc (Zd (Za rfl rfl (Zo (v := Value.int .i64 (0)) rfl rfl (Zb (Ze (Zc (Zc ?_)))))))))))
 refine Zd (Za rfl rfl (Zm (v := v104) rfl rfl (Za rfl rfl (Zr S22 rfl rfl a104 (Za rfl rfl (Zm (v := Value.int .i64 (0)) rfl rfl (Zb (Ze ?_))))))))
 obtain ⟨n100, hB100, hm⟩ := Zg hm
 refine W_block (W_forS (fun k' s' f' w' => (fun (n100 : Int) => ∃ (s101 : PHeap) , PHeap.le s s101 ∧ St w0 s101 (Res.arr (encInt .i64) 3 v105 s_100 :: Res.box b100 55 [v100, v101, v102, v103] :: H) w' ∧ f' 2 = v105 ∧ f' 3 = Value.pointer (some ⟨b100, 0, none⟩) ∧ f' 7 = Value.int .i64 (n100) ∧ f' 10 = v104 ∧ f' 11 = Value.int .i64 ((vars100.length : Int)) ∧ f' 12 = Value.int .i64 (k' : Int)) s') hB100 ?_ ?_ ?_)
 ·have hS101 := (hS100).f1
  exact ⟨s, (Zv _), hS101, rfl, rfl, rfl, rfl, rfl, rfl⟩
 ·intro i100 n100 s102 f100 w101 hi100 hI100 hm100
  obtain ⟨s103, l100, hS102, p100, p101, p102, p103, p104, x100⟩ := hI100
  refine Zc (Zd (Za rfl rfl (Zq rfl x100 p104 (Zb (Ze (Zc (W_true (congrArg Value.bool (decide_eq_true (by omega))) (W_skip (Ze (Zc ?_))))))))))
  refine W_block (Zc (Zd ?_))
  obtain ⟨x101, q100, hm100⟩ := Zg hm100
  refine Za rfl rfl (Exec.index_rep S22 rfl p103 x100 (a104.mono l100) q100 ?_)
  intro b101 o100 a105
  refine Za rfl rfl (Zw (E := (encInt .i64)) hS102 A3 rfl rfl rfl a105 ?_)
  intro v106 q101
  obtain rfl := encInt_val.1 q101
  refine Za rfl rfl (Zo (v := Value.int .i64 (x101)) rfl rfl (Zb (Ze (W_dl (n0 := 12) (.q 0 (.q 1 (.q 2 (.q 3 (.q 4 (.q 5 (.q 6 (.q 7 (.q 8 (.q 9 (.q 10 (.q 11 .done)))))))))))) hmix (by kernel_rfl) (by kernel_rfl) ?_))))
  have hS103 := hS102.drew
  refine DL_q rfl rfl (Zm (v := Value.int .i64 (n100)) rfl p102 ⟨rfl, ?_⟩)
  refine DL_q rfl rfl (Zp F55_0 rfl p101 rfl ⟨rfl, ?_⟩)
  refine DL_q rfl rfl (Zn ((hS103).f1) A22 rfl rfl rfl ⟨rfl, ?_⟩)
  refine DL_q rfl rfl (Zm (v := Value.int .i64 (x101)) rfl rfl ⟨rfl, ?_⟩)
  obtain ⟨x102, q102, hm100⟩ := Zg hm100
  refine DL_q rfl rfl (Exec.index_repE S22 rfl rfl rfl (a100.mono l100) q102 ?_)
  intro b102 o101 a106 e100
  refine ⟨rfl, ?_⟩
  refine DL_q rfl rfl (Zw (E := (encInt .i64)) hS103 A3 rfl rfl rfl a106 ?_)
  intro v107 q103
  obtain rfl := encInt_val.1 q103
  refine ⟨rfl, ?_⟩
  refine DL_q rfl rfl (Exec.mul rfl rfl rfl ⟨rfl, ?_⟩)
  refine DL_q rfl rfl (Zm (v := v105) rfl p100 ⟨rfl, ?_⟩)
  refine DL_q rfl rfl (Zm (v := Value.int .i64 (x101)) rfl rfl ⟨rfl, ?_⟩)
  obtain ⟨x103, q104, hm100⟩ := Zg hm100
  obtain ⟨g100, c100, e101⟩ := (hS103).arr_at q104
  refine DL_q rfl rfl (Exec.index_slice S22 rfl e101 rfl (idx_some q104).1 (idx_some q104).2.1 ⟨rfl, ?_⟩)
  refine DL_q rfl rfl (Exec.load_arr (F := (encInt .i64)) (hS103) e101 A3 rfl rfl rfl q104 (Sub.refl _) ?_)
  intro v108 q105
  obtain rfl := encInt_val.1 q105
  refine ⟨rfl, ?_⟩
  refine DL_q rfl rfl (Exec.add rfl rfl rfl ⟨rfl, ?_⟩)
  refine DL_done (Za rfl rfl (Zo (v := Value.int .i64 (IntKind.i64.wrap ((IntKind.i64.wrap (n100 * x102)) + x103))) rfl rfl (Zb (ib_normal (Ze (Zd (Za rfl rfl (Exec.add rfl x100 rfl (Za rfl rfl (Zm (v := Value.int .i64 (IntKind.i64.wrap ((i100 : Int) + 1))) rfl rfl (Zb (Ze ?_))))))))))))
  have e102 := Zu hm100
  subst s102
  have hS104 := (hS103).f1
  have hS105 := (hS104).f1
  exact ⟨s103, l100, hS105, p100, p101, rfl, p103, p104, (Eq.trans rfl (wrap_up hi100 (SliceRep.le a104)))⟩
 intro f101 w102 hI101
 obtain ⟨s104, l101, hS106, p105, p106, p107, p108, p109, x104⟩ := hI101
 refine Zc (Zd (Za rfl rfl (Zq rfl x104 p109 (Zb (Ze (Zc (W_false (congrArg Value.bool (decide_eq_false (by omega))) (W_exit (at_exit (at_exit (ib_here (Ze (Zc ?_)))))))))))))
 refine Zd (Za rfl rfl (Zm (v := Value.int .i64 (n100)) rfl p107 (Za rfl rfl (Zo (v := Value.int .i64 (n100)) rfl rfl (Zb (Ze (W_ret ?_)))))))
 have e103 := Zu hm
 subst r
 refine ⟨_, ret1 rfl, ?_⟩
 have hS107 := ((hS106).f1).drop
 exact ⟨s104, l101, hS107, rfl⟩
theorem N82 : (Try.f82.name == "runtime.NumGoroutine") = false := by kernel_rfl
theorem slices_Compact___int_int__o_sim {w0 w : World} {s : PHeap} {H : List Res} {s_100 : (List Int)} {v100 : Value} {r : Nat × (List Int)} (hm : slices_Compact___int_int__o_p s_100 = some r) (hS : St w0 s (Res.arr (encInt .i64) 3 v100 s_100 :: H) w)  :
  Calls Try.prog 82 #[v100] w fun e w' => ∃ v, e = .returned v ∧ ((un2 fun (y100 : Nat) (l100 : (List Int)) => ∃ (s100 : PHeap) (v101 : Value), PHeap.le s s100 ∧ St w0 s100 (Res.arr (encInt .i64) 3 v100 l100 :: H) w' ∧ v = v101 ∧ SubOf 1 v100 v101 0 y100) r) := by
 unfold slices_Compact___int_int__o_p at hm
 refine calls_of_W Try.func82 rfl rfl (Zc (Zd (Za rfl rfl (Zo (v := Value.slice none 0 0) rfl rfl (Zb (Ze (Zc (Zc (Zd ?_)))))))))
 refine Za rfl rfl (Zm (v := v100) rfl rfl (Za rfl rfl (Exec.len_arr (hS) S22 rfl rfl (Za rfl rfl (Zq rfl rfl rfl (Zb (Ze ?_)))))))
 rcases ite_some hm with ⟨hc100, hm⟩ | ⟨hc100, hm⟩
 ·refine W_cond_t rfl hc100 (Zc (Zd (Za rfl rfl (Zm (v := v100) rfl rfl (Za rfl rfl (Zo (v := v100) rfl rfl (Zb (Ze (W_ret (at_ret ?_))))))))))
  have e100 := Zu hm
  subst r
  refine ⟨_, ret1 rfl, ?_⟩
  exact ⟨s, v100, (Zv _), hS, rfl, (Or.inl ⟨rfl, rfl, (hS).arr_shape⟩)⟩
 refine W_cond_f rfl hc100 ?_
 replace hc100 := Zk hc100
 refine W_skip (Ze (Zc (Zc (Zd (Za rfl rfl (Zo (v := Value.int .i64 (1)) rfl rfl (Zb (Ze ?_))))))))
 obtain ⟨c100, hB100, hr100, hn100, hb100⟩ := ctl_some hm
 refine W_mid (M := fun f' w' => ∃ s', (c100 = .next s' ∨ c100 = .brk s') ∧ (fun (k100 : Int) => ∃ (s101 : PHeap) , PHeap.le s s101 ∧ St w0 s101 (Res.arr (encInt .i64) 3 v100 s_100 :: H) w' ∧ f' 0 = v100 ∧ f' 3 = Value.int .i64 (k100)) s') ?_ ?_
 ·refine W_block (W_while (fun s' f' w' => (fun (k101 : Int) => ∃ (s102 : PHeap) , PHeap.le s s102 ∧ St w0 s102 (Res.arr (encInt .i64) 3 v100 s_100 :: H) w' ∧ f' 0 = v100 ∧ f' 3 = Value.int .i64 (k101)) s') hB100 ?_ ?_)
  ·exact ⟨s, (Zv _), hS, rfl, rfl⟩
  intro k101 c101 f100 w100 hI100 hm100 hres100
  obtain ⟨s103, l101, hS100, p100, p101⟩ := hI100
  refine Zc (Zc (Zd (Za rfl rfl (Zm (v := Value.int .i64 (k101)) rfl p101 (Za rfl rfl (Zm (v := v100) rfl p100 (Za rfl rfl (Exec.len_arr (hS100) S22 rfl rfl (Za rfl rfl (Zq rfl rfl rfl (Zb (Ze ?_))))))))))))
  rcases ite_some hm100 with ⟨hc101, hm100⟩ | ⟨hc101, hm100⟩
  ·refine W_cond_t rfl hc101 (W_skip (Ze (Zc (W_block (Zc (W_dl (n0 := 10) (.q 0 (.q 1 (.q 2 (.q 3 (.q 4 (.q 5 (.q 6 (.q 7 (.q 8 (.q 9 .done)))))))))) hmix (by kernel_rfl) (by kernel_rfl) ?_))))))
   have hS101 := hS100.drew
   refine DL_q rfl rfl (Zm (v := v100) rfl p100 ⟨rfl, ?_⟩)
   refine DL_q rfl rfl (Zm (v := Value.int .i64 (k101)) rfl p101 ⟨rfl, ?_⟩)
   obtain ⟨x100, q100, hm100⟩ := Zg hm100
   obtain ⟨g100, c102, e101⟩ := (hS101).arr_at q100
   refine DL_q rfl rfl (Exec.index_slice S22 rfl e101 rfl (idx_some q100).1 (idx_some q100).2.1 ⟨rfl, ?_⟩)
   refine DL_q rfl rfl (Exec.load_arr (F := (encInt .i64)) (hS101) e101 A3 rfl rfl rfl q100 (Sub.refl _) ?_)
   intro v102 q101
   obtain rfl := encInt_val.1 q101
   refine ⟨rfl, ?_⟩
   refine DL_q rfl rfl (Zm (v := v100) rfl p100 ⟨rfl, ?_⟩)
   refine DL_q rfl rfl (Zm (v := Value.int .i64 (k101)) rfl p101 ⟨rfl, ?_⟩)
   refine DL_q rfl rfl (Exec.sub rfl rfl rfl ⟨rfl, ?_⟩)
   obtain ⟨x101, q102, hm100⟩ := Zg hm100
   obtain ⟨g101, c103, e102⟩ := (hS101).arr_at q102
   refine DL_q rfl rfl (Exec.index_slice S22 rfl e102 rfl (idx_some q102).1 (idx_some q102).2.1 ⟨rfl, ?_⟩)
   refine DL_q rfl rfl (Exec.load_arr (F := (encInt .i64)) (hS101) e102 A3 rfl rfl rfl q102 (Sub.refl _) ?_)
   intro v103 q103
   obtain rfl := encInt_val.1 q103
   refine ⟨rfl, ?_⟩
   refine DL_q rfl rfl (Exec.eql rfl rfl rfl ⟨rfl, ?_⟩)
   refine DL_done (Zb (Ze ?_))
   rcases ite_some hm100 with ⟨hc102, hm100⟩ | ⟨hc102, hm100⟩
   ·refine W_cond_t rfl hc102 (Zc (Zd (Za rfl rfl (Zm (v := v100) rfl p100 (Za rfl rfl (Zm (v := Value.int .i64 (k101)) rfl p101 ?_))))))
    obtain ⟨n100, q104, hm100⟩ := Zg hm100
    refine Za rfl rfl (Exec.sub_from (hS101) S22 rfl rfl rfl q104 ?_)
    intro v104 h100
    refine Za rfl rfl (Zo (v := v104) rfl rfl (Zb (Ze (Zc (Zc (Zd (Za rfl rfl (Zo (v := Value.int .i64 (1)) rfl rfl (Zb (Ze ?_))))))))))
    obtain ⟨c104, hB101, hr101, hn101, hb101⟩ := ctl_some hm100
    refine W_mid (M := fun f' w' => ∃ s', (c104 = .next s' ∨ c104 = .brk s') ∧ (un3 fun (k102 : Int) (k103 : Int) (l102 : (List Int)) => ∃ (s104 : PHeap) , PHeap.le s103 s104 ∧ St w0 s104 (Res.arr (encInt .i64) 3 v100 l102 :: H) w' ∧ f' 0 = v100 ∧ f' 3 = Value.int .i64 (k102) ∧ f' 4 = v104 ∧ f' 5 = Value.int .i64 (k103)) s') ?_ ?_
    ·refine W_block (W_while (fun s' f' w' => (un3 fun (k104 : Int) (k105 : Int) (l103 : (List Int)) => ∃ (s105 : PHeap) , PHeap.le s103 s105 ∧ St w0 s105 (Res.arr (encInt .i64) 3 v100 l103 :: H) w' ∧ f' 0 = v100 ∧ f' 3 = Value.int .i64 (k104) ∧ f' 4 = v104 ∧ f' 5 = Value.int .i64 (k105)) s') hB101 ?_ ?_)
     ·exact ⟨s103, (Zv _), hS101, p100, p101, rfl, rfl⟩
     intro t100 c105 f101 w101 hI101 hm101 hres101
     obtain ⟨k104, k105, l103⟩ := t100
     replace hm101 := un3_eq hm101
     obtain ⟨s106, l104, hS102, p102, p103, p104, p105⟩ := hI101
     refine Zc (Zc (Zd (Za rfl rfl (Zm (v := Value.int .i64 (k105)) rfl p105 (Za rfl rfl (Zm (v := v104) rfl p104 (Za rfl rfl (Exec.len_sub S22 h100 rfl rfl (Za rfl rfl (Zq rfl rfl rfl (Zb (Ze ?_))))))))))))
     rcases ite_some hm101 with ⟨hc103, hm101⟩ | ⟨hc103, hm101⟩
     ·refine W_cond_t rfl hc103 (W_skip (Ze (Zc (W_block (Zc (W_dl (n0 := 10) (.q 0 (.q 1 (.q 2 (.q 3 (.q 4 (.q 5 (.q 6 (.q 7 (.q 8 (.q 9 .done)))))))))) hmix (by kernel_rfl) (by kernel_rfl) ?_))))))
      have hS103 := hS102.drew
      refine DL_q rfl rfl (Zm (v := v104) rfl p104 ⟨rfl, ?_⟩)
      refine DL_q rfl rfl (Zm (v := Value.int .i64 (k105)) rfl p105 ⟨rfl, ?_⟩)
      obtain ⟨x102, q105, hm101⟩ := Zg hm101
      obtain ⟨g102, c106, e103⟩ := (hS103).arr_at (idxV_some q105).2.2
      refine DL_q rfl rfl (Exec.index_sub S22 (view_some q104).1 h100 e103 rfl rfl rfl (idxV_some q105).1 (idxV_some q105).2.1 ⟨rfl, ?_⟩)
      refine DL_q rfl rfl (Exec.load_arr (F := (encInt .i64)) (hS103) e103 A3 rfl rfl rfl (idxV_some q105).2.2 (Sub.refl _) ?_)
      intro v105 q106
      obtain rfl := encInt_val.1 q106
      refine ⟨rfl, ?_⟩
      refine DL_q rfl rfl (Zm (v := v104) rfl p104 ⟨rfl, ?_⟩)
      refine DL_q rfl rfl (Zm (v := Value.int .i64 (k105)) rfl p105 ⟨rfl, ?_⟩)
      refine DL_q rfl rfl (Exec.sub rfl rfl rfl ⟨rfl, ?_⟩)
      obtain ⟨x103, q107, hm101⟩ := Zg hm101
      obtain ⟨g103, c107, e104⟩ := (hS103).arr_at (idxV_some q107).2.2
      refine DL_q rfl rfl (Exec.index_sub S22 (view_some q104).1 h100 e104 rfl rfl rfl (idxV_some q107).1 (idxV_some q107).2.1 ⟨rfl, ?_⟩)
      refine DL_q rfl rfl (Exec.load_arr (F := (encInt .i64)) (hS103) e104 A3 rfl rfl rfl (idxV_some q107).2.2 (Sub.refl _) ?_)
      intro v106 q108
      obtain rfl := encInt_val.1 q108
      refine ⟨rfl, ?_⟩
      refine DL_q rfl rfl (Exec.neq rfl rfl rfl ⟨rfl, ?_⟩)
      refine DL_done (Zb (Ze ?_))
      obtain ⟨t101, ht100, hm101⟩ := Zg hm101
      refine W_mid (M := fun f' w' => (un2 fun (k106 : Int) (l105 : (List Int)) => ∃ (s107 : PHeap) , PHeap.le s106 s107 ∧ St w0 s107 (Res.arr (encInt .i64) 3 v100 l105 :: H) w' ∧ f' 0 = v100 ∧ f' 3 = Value.int .i64 (k106) ∧ f' 4 = v104 ∧ f' 5 = Value.int .i64 (k105)) t101) ?_ ?_
      ·rcases ite_some ht100 with ⟨hc104, ht100⟩ | ⟨hc104, ht100⟩
       ·refine W_cond_t rfl hc104 (Zc (Zd (Za rfl rfl (Zm (v := v100) rfl p102 (Za rfl rfl (Zm (v := Value.int .i64 (k104)) rfl p103 (Za rfl rfl (Zm (v := v104) rfl p104 (Za rfl rfl (Zm (v := Value.int .i64 (k105)) rfl p105 ?_))))))))))
        obtain ⟨x104, q109, ht100⟩ := Zg ht100
        obtain ⟨g104, c108, e105⟩ := (hS103).arr_at (idxV_some q109).2.2
        refine Za rfl rfl (Exec.index_sub S22 (view_some q104).1 h100 e105 rfl rfl rfl (idxV_some q109).1 (idxV_some q109).2.1 (Za rfl rfl (Exec.load_arr (F := (encInt .i64)) (hS103) e105 A3 rfl rfl rfl (idxV_some q109).2.2 (Sub.refl _) ?_)))
        intro v107 q110
        obtain rfl := encInt_val.1 q110
        obtain ⟨x105, q111, ht100⟩ := Zg ht100
        obtain ⟨g105, c109, e106⟩ := (hS103).arr_at q111
        refine Za rfl rfl (Exec.index_slice S22 rfl e106 rfl (idx_some q111).1 (idx_some q111).2.1 ?_)
        obtain ⟨l106, q112, ht100⟩ := Zg ht100
        refine Za rfl rfl (Exec.store_arr hS103 e106 A3 rfl rfl rfl rfl (encInt_val.2 rfl) q112 ?_)
        intro w102 hS104
        refine Zb (Ze (Zd (Za rfl rfl (Zm (v := Value.int .i64 (k104)) rfl p103 (Za rfl rfl (Exec.add rfl rfl rfl (Za rfl rfl (Zo (v := Value.int .i64 (IntKind.i64.wrap (k104 + 1))) rfl rfl (Zb (Ze ?_))))))))))
        have e107 := Zu ht100
        subst t101
        exact ⟨s106, (Zv _), hS104, p102, rfl, p104, p105⟩
       refine W_cond_f rfl hc104 ?_
       replace hc104 := Zk hc104
       refine W_skip (Ze ?_)
       have e108 := Zu ht100
       subst t101
       exact ⟨s106, (Zv _), hS103, p102, p103, p104, p105⟩
      intro f102 w103 hM100
      obtain ⟨k106, l105⟩ := t101
      replace hm101 := un2_eq hm101
      obtain ⟨s108, l107, hS105, p106, p107, p108, p109⟩ := hM100
      refine (ib_normal (Ze (Zd (Za rfl rfl (Zm (v := Value.int .i64 (k105)) rfl p109 (Za rfl rfl (Exec.add rfl rfl rfl (Za rfl rfl (Zo (v := Value.int .i64 (IntKind.i64.wrap (k105 + 1))) rfl rfl (Zb (Ze ?_)))))))))))
      have e109 := Zu hm101
      subst c105
      refine ⟨_, rfl, ?_⟩; exact ⟨s108, (Zt l104 l107), hS105, p106, p107, p108, rfl⟩
     refine W_cond_f rfl hc103 ?_
     replace hc103 := Zk hc103
     refine W_exit (at_exit (at_exit (ib_here (Ze ?_))))
     have e110 := Zu hm101
     subst c105
     refine ⟨_, .inr (hres101 (by intro _ h; cases h)), ?_⟩; exact ⟨s106, l104, hS102, p102, p103, p104, p105⟩
    rintro f103 w104 ⟨t102, hc105, hM101⟩
    have hm100 := hc105.elim (hn101 _) (hb101 _)
    clear hc105
    obtain ⟨k102, k103, l102⟩ := t102
    replace hm100 := un3_eq hm100
    obtain ⟨s109, l108, hS106, p110, p111, p112, p113⟩ := hM101
    refine (Ze (Zc (Zd (Za rfl rfl (Zm (v := v100) rfl p110 (Za rfl rfl (Zm (v := Value.int .i64 (k102)) rfl p111 ?_)))))))
    obtain ⟨n101, q113, hm100⟩ := Zg hm100
    refine Za rfl rfl (Exec.sub_from (hS106) S22 rfl rfl rfl q113 ?_)
    intro v108 h101
    refine Za rfl rfl (Exec.clear_sub (E := (encInt .i64)) (y := 0) hS106 h101 (view_some q113).2.2.2.2.2 S22 Z3 rfl rfl rfl ?_)
    intro w105 hS107
    refine Zb (Ze (Zc (Zd (Za rfl rfl (Zm (v := v100) rfl p110 (Za rfl rfl (Zm (v := Value.int .i64 (k102)) rfl p111 ?_)))))))
    obtain ⟨n102, q114, hm100⟩ := Zg hm100
    refine Za rfl rfl (Exec.sub_to (hS107) S22 rfl rfl rfl q114 ?_)
    intro v109 h102
    refine Za rfl rfl (Zo (v := v109) rfl rfl (Zb (Ze (W_ret (ib_ret (at_ret (at_ret (ib_ret (at_ret (at_ret ?_))))))))))
    have e111 := Zu hm100
    subst c101
    have hq100 := hr100 _ (hres100 (by intro _ h; cases h))
    have e112 := Zu hq100
    subst r
    refine ⟨_, ret1 rfl, ?_⟩
    exact ⟨s109, v109, (Zt l101 l108), hS107, rfl, h102⟩
   refine W_cond_f rfl hc102 ?_
   replace hc102 := Zk hc102
   refine W_skip (ib_normal (Ze (Zd (Za rfl rfl (Zm (v := Value.int .i64 (k101)) rfl p101 (Za rfl rfl (Exec.add rfl rfl rfl (Za rfl rfl (Zo (v := Value.int .i64 (IntKind.i64.wrap (k101 + 1))) rfl rfl (Zb (Ze ?_)))))))))))
   have e113 := Zu hm100
   subst c101
   refine ⟨_, rfl, ?_⟩; exact ⟨s103, l101, hS101, p100, rfl⟩
  refine W_cond_f rfl hc101 ?_
  replace hc101 := Zk hc101
  refine W_exit (at_exit (at_exit (ib_here (Ze ?_))))
  have e114 := Zu hm100
  subst c101
  refine ⟨_, .inr (hres100 (by intro _ h; cases h)), ?_⟩; exact ⟨s103, l101, hS100, p100, p101⟩
 rintro f104 w106 ⟨k100, hc106, hM102⟩
 have hm := hc106.elim (hn100 _) (hb100 _)
 clear hc106
 obtain ⟨s110, l109, hS108, p114, p115⟩ := hM102
 refine (Ze (Zc (Zd (Za rfl rfl (Zm (v := v100) rfl p114 (Za rfl rfl (Zo (v := v100) rfl rfl (Zb (Ze (W_ret ?_))))))))))
 have e115 := Zu hm
 subst r
 refine ⟨_, ret1 rfl, ?_⟩
 exact ⟨s110, v100, l109, hS108, rfl, (Or.inl ⟨rfl, rfl, (hS108).arr_shape⟩)⟩
theorem N63 : (Try.f63.name == "runtime.NumGoroutine") = false := by kernel_rfl
theorem project_targets_sim {w0 w : World} {s : PHeap} {H : List Res} {t100 : Task} {op100 : Int} {pattern100 : (List Int)} {free100 : (List Int)} {from_100 : Int} {v100 : Value} {v101 : Value} {v102 : Value} {v103 : Value} {v104 : Value} {v105 : Value} {r : (List Int)} (hm : project_targets_p t100 op100 pattern100 free100 from_100 = some r) (hS : St w0 s (H) w) (a100 : SliceRep (encInt .i64) s v100 t100.Vars) (a101 : SliceRep (encInt .i64) s v101 t100.Init) (a102 : SliceRep encFact s v102 t100.Goal) (a103 : SliceRep encOp s v103 t100.Ops) (a104 : SliceRep (encInt .i64) s v104 pattern100) (a105 : SliceRep (encInt .i64) s v105 free100) :
  Calls Try.prog 63 #[Value.agg #[v100, v101, v102, v103], Value.int .i64 (op100), v104, v105, Value.int .i64 (from_100)] w fun e w' => ∃ v, e = .returned v ∧ ((fun (y100 : (List Int)) => ∃ (s100 : PHeap) (v106 : Value), PHeap.le s s100 ∧ St w0 s100 (H) w' ∧ v = v106 ∧ SliceRep (encInt .i64) s100 v106 y100) r) := by
 unfold project_targets_p at hm
 refine calls_of_W Try.func63 rfl rfl (Zc (Zd (Za rfl rfl (Exec.box (cs := [v100, v101, v102, v103]) hS rfl rfl rfl ?_))))
 intro b100 w100 hS100
 refine Za rfl rfl (Zo (v := Value.slice none 0 0) rfl rfl (Zb (Ze (Zc (Zd (Za rfl rfl (Zp F55_3 rfl rfl rfl (Za rfl rfl (Zn (hS100) A53 rfl rfl rfl (Za rfl rfl (Zm (v := Value.int .i64 (op100)) rfl rfl ?_)))))))))))
 obtain ⟨x100, q100, hm⟩ := Zg hm
 refine Za rfl rfl (Exec.index_rep S53 rfl rfl rfl a103 q100 ?_)
 intro b101 o100 a106
 refine Za rfl rfl (Zw (E := encOp) hS100 A79 rfl rfl rfl a106 ?_)
 intro v107 q101
 obtain ⟨u100, u101, rfl, r100, r101⟩ := encOp_val.1 q101
 refine Za rfl rfl (Exec.alloc (cs := [Value.string (⟨#[]⟩), Value.int .i64 (0), Value.slice none 0 0, Value.slice none 0 0]) hS100 Z79 rfl rfl ?_)
 intro b102 w101 hS101
 refine Za rfl rfl (Exec.store_box (ds := [Value.string (x100.Name), Value.int .i64 (x100.Cost), u100, u101]) (es := [Value.string (x100.Name), Value.int .i64 (x100.Cost), u100, u101]) hS101 A79 rfl rfl rfl rfl (Zj rfl (Zj rfl (Zj (r100).one (Zj (r101).one one_nil)))) (Nat.le_of_ble_eq_true rfl) rfl ?_)
 intro w102 hS102
 refine Zb (Ze (Zc (Zd (Za rfl rfl (Zp F55_0 rfl rfl rfl (Za rfl rfl (Zn ((hS102).f1) A22 rfl rfl rfl (Za rfl rfl (Zr S22 rfl rfl a100 ?_)))))))))
 obtain ⟨l100, q102, hm⟩ := Zg hm
 refine Za rfl rfl (Exec.make (E := (encInt .i64)) hS102 S22 Z3 rfl rfl rfl rfl q102 ?_)
 intro v108 w103 hS103
 refine Za rfl rfl (Zo (v := v108) rfl rfl (Zb (Ze (Zc (Zd (Za rfl rfl (Exec.load_box_agg (ds := [v100, v101, v102, v103]) ((hS103).f2) A55 rfl rfl rfl (Za rfl rfl (Zm (v := v104) rfl rfl (Za rfl rfl (Zm (v := v108) rfl rfl (Za rfl rfl (Zm (v := Value.int .i64 (from_100)) rfl rfl ?_)))))))))))))
 obtain ⟨l101, q103, hm⟩ := Zg hm
 refine Za rfl rfl (Exec.call rfl rfl Try.func61 rfl N61 (Zi rfl (Zi rfl (Zi rfl (Zi rfl args_nil)))) ((put_sim q103 hS103 a100 a101 a102 a103 a104).mono ?_))
 rintro _ w104 ⟨_, rfl, ⟨s101, l102, hS104, rfl⟩⟩
 refine ⟨_, rfl, ?_⟩
 refine Zb (Ze (Zc (Zc (Zd (Za rfl rfl (Zp F79_2 rfl rfl rfl (Za rfl rfl (Zn ((hS104).f1) A52 rfl rfl rfl (Za rfl rfl (Zr S52 rfl rfl (r100.mono l102) (Za rfl rfl (Zm (v := Value.int .i64 (0)) rfl rfl ?_))))))))))))
 refine Zb (Ze ?_)
 obtain ⟨c100, hB100, hr100, hn100, hb100⟩ := ctl_some hm
 refine W_mid (M := fun f' w' => ∃ s', (c100 = .next s' ∨ c100 = .brk s') ∧ (fun (l103 : (List Int)) => ∃ (s102 : PHeap) , PHeap.le s101 s102 ∧ St w0 s102 (Res.box b100 55 [v100, v101, v102, v103] :: Res.box b102 79 [Value.string (x100.Name), Value.int .i64 (x100.Cost), u100, u101] :: Res.arr (encInt .i64) 3 v108 l103 :: H) w' ∧ f' 2 = v104 ∧ f' 3 = v105 ∧ f' 5 = Value.pointer (some ⟨b100, 0, none⟩) ∧ f' 11 = Value.pointer (some ⟨b102, 0, none⟩) ∧ f' 12 = v108 ∧ f' 37 = u100 ∧ f' 38 = Value.int .i64 ((x100.Pre.length : Int))) s') ?_ ?_
 ·refine W_block (W_forC (fun k' s' f' w' => (fun (l104 : (List Int)) => ∃ (s103 : PHeap) , PHeap.le s101 s103 ∧ St w0 s103 (Res.box b100 55 [v100, v101, v102, v103] :: Res.box b102 79 [Value.string (x100.Name), Value.int .i64 (x100.Cost), u100, u101] :: Res.arr (encInt .i64) 3 v108 l104 :: H) w' ∧ f' 2 = v104 ∧ f' 3 = v105 ∧ f' 5 = Value.pointer (some ⟨b100, 0, none⟩) ∧ f' 11 = Value.pointer (some ⟨b102, 0, none⟩) ∧ f' 12 = v108 ∧ f' 37 = u100 ∧ f' 38 = Value.int .i64 ((x100.Pre.length : Int)) ∧ f' 39 = Value.int .i64 (k' : Int)) s') hB100 ?_ ?_ ?_)
  ·have hS105 := (hS104).f1
   have hS106 := (hS105).f2
   exact ⟨s101, (Zv _), hS106, rfl, rfl, rfl, rfl, rfl, rfl, rfl, rfl⟩
  ·intro i100 l104 c101 f100 w105 hi100 hI100 hm100 hres100
   obtain ⟨s104, l105, hS107, p100, p101, p102, p103, p104, p105, p106, x101⟩ := hI100
   refine Zc (Zd (Za rfl rfl (Zq rfl x101 p106 (Zb (Ze (Zc (W_true (congrArg Value.bool (decide_eq_true (by omega))) (W_skip (Ze (Zc ?_))))))))))
   refine W_block (Zc (Zd ?_))
   obtain ⟨x102, q104, hm100⟩ := Zg hm100
   refine Za rfl rfl (Exec.index_rep S52 rfl p105 x101 (r100.mono (Zt l102 l105)) q104 ?_)
   intro b103 o101 a107
   refine Za rfl rfl (Zw (E := encFact) hS107 A82 rfl rfl rfl a107 ?_)
   intro v109 q105
   obtain rfl := encFact_val.1 q105
   refine Za rfl rfl (Exec.alloc (cs := [Value.int .i64 (0), Value.int .i64 (0)]) hS107 Z82 rfl rfl ?_)
   intro b104 w106 hS108
   refine Za rfl rfl (Exec.store_box (ds := [Value.int .i64 (x102.Var), Value.int .i64 (x102.Val)]) (es := [Value.int .i64 (x102.Var), Value.int .i64 (x102.Val)]) hS108 A82 rfl rfl rfl rfl (Zj rfl (Zj rfl one_nil)) (Nat.le_of_ble_eq_true rfl) rfl ?_)
   intro w107 hS109
   refine Zb (Ze (Zc (Zd (Za rfl rfl (Zm (v := v104) rfl p100 (Za rfl rfl (Zp F82_0 rfl rfl rfl (Za rfl rfl (Zn (hS109) A3 rfl rfl rfl ?_)))))))))
   obtain ⟨y101, q106, hm100⟩ := Zg hm100
   refine Za rfl rfl (Exec.call rfl rfl Try.func62 rfl N62 (Zi rfl (Zi rfl args_nil)) ((slices_Contains___int_int__sim q106 hS109 (a104.mono (Zt l102 l105))).mono ?_))
   rintro _ w108 ⟨_, rfl, ⟨s105, l106, hS110, rfl⟩⟩
   refine ⟨_, rfl, ?_⟩
   refine Zb (Ze ?_)
   rcases ite_some hm100 with ⟨hc100, hm100⟩ | ⟨hc100, hm100⟩
   ·refine W_cond_t rfl hc100 (Zc (W_dl (n0 := 8) (.q 0 (.q 1 (.q 2 (.q 3 (.q 4 (.q 5 (.q 6 (.q 7 .done)))))))) hmix (by kernel_rfl) (by kernel_rfl) ?_))
    have hS111 := hS110.drew
    refine DL_q rfl rfl (Zm (v := v108) rfl p104 ⟨rfl, ?_⟩)
    refine DL_q rfl rfl (Zp F82_0 rfl rfl rfl ⟨rfl, ?_⟩)
    refine DL_q rfl rfl (Zn (hS111) A3 rfl rfl rfl ⟨rfl, ?_⟩)
    obtain ⟨x103, q107, hm100⟩ := Zg hm100
    obtain ⟨g100, c102, e100⟩ := ((hS111).f3).arr_at q107
    refine DL_q rfl rfl (Exec.index_slice S22 rfl e100 rfl (idx_some q107).1 (idx_some q107).2.1 ⟨rfl, ?_⟩)
    refine DL_q rfl rfl (Exec.load_arr (F := (encInt .i64)) ((hS111).f3) e100 A3 rfl rfl rfl q107 (Sub.refl _) ?_)
    intro v110 q108
    obtain rfl := encInt_val.1 q108
    refine ⟨rfl, ?_⟩
    refine DL_q rfl rfl (Zp F82_1 rfl rfl rfl ⟨rfl, ?_⟩)
    refine DL_q rfl rfl (Zn (hS111) A3 rfl rfl rfl ⟨rfl, ?_⟩)
    refine DL_q rfl rfl (Exec.neq rfl rfl rfl ⟨rfl, ?_⟩)
    refine DL_done (Zb (Ze ?_))
    rcases ite_some hm100 with ⟨hc101, hm100⟩ | ⟨hc101, hm100⟩
    ·refine W_cond_t rfl hc101 (Zc (Zd (Za rfl rfl (Zo (v := Value.slice none 0 0) rfl rfl (Zb (Ze (W_ret (ib_ret (at_ret (at_ret (ib_ret (at_ret (at_ret ?_)))))))))))))
     have e101 := Zu hm100
     subst c101
     have hq100 := hr100 _ (hres100 (by intro _ h; cases h))
     have e102 := Zu hq100
     subst r
     refine ⟨_, ret1 rfl, ?_⟩
     have hS112 := (hS111).drop
     have hS113 := (hS112).drop
     have hS114 := (hS113).drop
     have hS115 := (hS114).drop
     exact ⟨s105, (Value.slice none 0 0), (Zt (Zt l102 l105) l106), hS115, rfl, (SliceRep.nil _ _)⟩
    refine W_cond_f rfl hc101 ?_
    replace hc101 := Zk hc101
    refine W_skip (ib_normal (Ze (Zd (Za rfl rfl (Exec.add rfl x101 rfl (Za rfl rfl (Zm (v := Value.int .i64 (IntKind.i64.wrap ((i100 : Int) + 1))) rfl rfl (Zb (Ze ?_)))))))))
    have e103 := Zu hm100
    subst c101
    have hS116 := (hS111).drop
    have hS117 := (hS116).f2
    have hS118 := (hS117).f2
    have hS119 := (hS118).f2
    refine ⟨_, rfl, ?_⟩; exact ⟨s105, (Zt l105 l106), hS119, p100, p101, p102, p103, p104, p105, p106, (Eq.trans rfl (wrap_up hi100 (SliceRep.le (r100.mono l102))))⟩
   refine W_cond_f rfl hc100 ?_
   replace hc100 := Zk hc100
   refine Zd (Za rfl rfl (Zm (v := v108) rfl p104 (Za rfl rfl (Zp F82_0 rfl rfl rfl (Za rfl rfl (Zn (hS110) A3 rfl rfl rfl (Za rfl rfl (Zp F82_1 rfl rfl rfl (Za rfl rfl (Zn (hS110) A3 rfl rfl rfl ?_))))))))))
   obtain ⟨x104, q109, hm100⟩ := Zg hm100
   obtain ⟨g101, c103, e104⟩ := ((hS110).f3).arr_at q109
   refine Za rfl rfl (Exec.index_slice S22 rfl e104 rfl (idx_some q109).1 (idx_some q109).2.1 ?_)
   obtain ⟨l107, q110, hm100⟩ := Zg hm100
   have hS120 := (hS110).f3
   refine Za rfl rfl (Exec.store_arr hS120 e104 A3 rfl rfl rfl rfl (encInt_val.2 rfl) q110 ?_)
   intro w109 hS121
   refine Zb (ib_normal (Ze (Zd (Za rfl rfl (Exec.add rfl x101 rfl (Za rfl rfl (Zm (v := Value.int .i64 (IntKind.i64.wrap ((i100 : Int) + 1))) rfl rfl (Zb (Ze ?_)))))))))
   have e105 := Zu hm100
   subst c101
   have hS122 := ((hS121).f1).drop
   have hS123 := (hS122).f2
   have hS124 := (hS123).f2
   refine ⟨_, rfl, ?_⟩; exact ⟨s105, (Zt l105 l106), hS124, p100, p101, p102, p103, p104, p105, p106, (Eq.trans rfl (wrap_up hi100 (SliceRep.le (r100.mono l102))))⟩
  intro l104 f101 w110 hI101 hres101
  obtain ⟨s106, l108, hS125, p107, p108, p109, p110, p111, p112, p113, x105⟩ := hI101
  refine Zc (Zd (Za rfl rfl (Zq rfl x105 p113 (Zb (Ze (Zc (W_false (congrArg Value.bool (decide_eq_false (by omega))) (W_exit (at_exit (at_exit (ib_here (Ze ?_))))))))))))
  have hS126 := (hS125).f2
  have hS127 := (hS126).f2
  have hS128 := (hS127).f2
  refine ⟨_, .inl hres101, ?_⟩; exact ⟨s106, l108, hS128, p107, p108, p109, p110, p111, p112, p113⟩
 rintro f102 w111 ⟨l103, hc102, hM100⟩
 have hm := hc102.elim (hn100 _) (hb100 _)
 clear hc102
 obtain ⟨s107, l109, hS129, p114, p115, p116, p117, p118, p119, p120⟩ := hM100
 refine (Ze (Zc (Zd (Za rfl rfl (Exec.load_box_agg (ds := [v100, v101, v102, v103]) (hS129) A55 rfl p116 rfl (Za rfl rfl (Zm (v := v105) rfl p115 ?_)))))))
 obtain ⟨t101, q111, hm⟩ := Zg hm
 obtain ⟨y102, y103⟩ := t101
 replace hm := un2_eq hm
 refine Za rfl rfl (Exec.call rfl rfl Try.func58 rfl N58 (Zi rfl (Zi rfl args_nil)) ((project_count_sim q111 hS129 (a100.mono (Zt l102 l109)) (a101.mono (Zt l102 l109)) (a102.mono (Zt l102 l109)) (a103.mono (Zt l102 l109)) (a105.mono (Zt l102 l109))).mono ?_))
 rintro _ w112 ⟨_, rfl, ⟨s108, l110, hS130, rfl⟩⟩
 refine ⟨_, rfl, ?_⟩
 refine Za rfl rfl (Zm (v := Value.tuple #[Value.int .i64 (y102), Value.bool (y103)]) rfl rfl (Za rfl rfl (Exec.extract (v := Value.int .i64 (y102)) rfl rfl rfl (Za rfl rfl (Exec.extract (v := Value.bool (y103)) rfl rfl rfl (Za rfl rfl (Zo (v := Value.int .i64 (y102)) rfl rfl (Za rfl rfl (Zo (v := Value.bool (y103)) rfl rfl (Zb (Ze (Zc (Zd ?_)))))))))))))
 refine Za rfl rfl (Zo (v := Value.slice none 0 0) rfl rfl (Zb (Ze (Zc (Zc (Zd (Za rfl rfl (Zm (v := Value.int .i64 (y102)) rfl rfl (Za rfl rfl (Zm (v := Value.int .i64 (0)) rfl rfl (Zb (Ze ?_))))))))))))
 obtain ⟨u102, q112, hm⟩ := Zg hm
 obtain ⟨t102, hB101, hm⟩ := Zg hm
 refine W_block (W_forS (fun k' s' f' w' => (un2 fun (out100 : (List Int)) (l111 : (List Int)) => ∃ (s109 : PHeap) (v111 : Value), PHeap.le s108 s109 ∧ St w0 s109 (Res.box b100 55 [v100, v101, v102, v103] :: Res.box b102 79 [Value.string (x100.Name), Value.int .i64 (x100.Cost), u100, u101] :: Res.arr (encInt .i64) 3 v108 l111 :: Res.arr (encInt .i64) 3 v111 out100 :: H) w' ∧ f' 2 = v104 ∧ f' 3 = v105 ∧ f' 5 = Value.pointer (some ⟨b100, 0, none⟩) ∧ f' 11 = Value.pointer (some ⟨b102, 0, none⟩) ∧ f' 12 = v108 ∧ f' 17 = v111 ∧ f' 68 = Value.int .i64 (y102) ∧ f' 69 = Value.int .i64 (k' : Int)) s') hB101 ?_ ?_ ?_)
 ·have hS131 := hS130.nilArr (encInt .i64) 3
  have hS132 := (hS131).f3
  have hS133 := (hS132).f3
  have hS134 := (hS133).f3
  exact ⟨s108, (Value.slice none 0 0), (Zv _), hS134, p114, p115, p116, p117, p118, rfl, rfl, rfl⟩
 ·intro i101 t103 s110 f103 w113 hi101 hI102 hm101
  obtain ⟨out100, l111⟩ := t103
  replace hm101 := un2_eq hm101
  obtain ⟨s111, v111, l112, hS135, p121, p122, p123, p124, p125, p126, p127, x106⟩ := hI102
  refine Zc (Zd (Za rfl rfl (Zq rfl x106 p127 (Zb (Ze (Zc (W_true (congrArg Value.bool (decide_eq_true (by omega))) (W_skip (Ze (Zc ?_))))))))))
  refine W_block (Zc (Zd (Za rfl rfl (Zm (v := Value.int .i64 ((i101 : Int))) rfl x106 (Za rfl rfl (Zo (v := Value.int .i64 ((i101 : Int))) rfl rfl (Zb (Ze (Zc (Zd ?_))))))))))
  refine Za rfl rfl (Exec.load_box_agg (ds := [v100, v101, v102, v103]) (hS135) A55 rfl p123 rfl (Za rfl rfl (Zm (v := v105) rfl p122 (Za rfl rfl (Zm (v := v108) rfl p125 (Za rfl rfl (Zm (v := Value.int .i64 ((i101 : Int))) rfl rfl ?_)))))))
  obtain ⟨l113, q113, hm101⟩ := Zg hm101
  have hS136 := (hS135).f2
  refine Za rfl rfl (Exec.call rfl rfl Try.func61 rfl N61 (Zi rfl (Zi rfl (Zi rfl (Zi rfl args_nil)))) ((put_sim q113 hS136 (a100.mono (Zt (Zt (Zt l102 l109) l110) l112)) (a101.mono (Zt (Zt (Zt l102 l109) l110) l112)) (a102.mono (Zt (Zt (Zt l102 l109) l110) l112)) (a103.mono (Zt (Zt (Zt l102 l109) l110) l112)) (a105.mono (Zt (Zt (Zt l102 l109) l110) l112))).mono ?_))
  rintro _ w114 ⟨_, rfl, ⟨s112, l114, hS137, rfl⟩⟩
  refine ⟨_, rfl, ?_⟩
  refine Zb (Ze (Zc (Zd (Za rfl rfl (Zm (v := v108) rfl p125 ?_)))))
  obtain ⟨y104, q114, hm101⟩ := Zg hm101
  refine Za rfl rfl (Exec.call rfl rfl Try.func36 rfl N36 (Zi rfl args_nil) ((slices_Clone___int_int__o_sim q114 hS137 ).mono ?_))
  rintro _ w115 ⟨v112, rfl, ⟨s113, _, l115, hS138, rfl⟩⟩
  refine ⟨_, rfl, ?_⟩
  refine Za rfl rfl (Zo (v := v112) rfl rfl (Zb (Ze (Zc (Zc (Zd (Za rfl rfl (Zp F79_3 rfl p124 rfl (Za rfl rfl (Zn ((hS138).f3) A77 rfl rfl rfl (Za rfl rfl (Zr S77 rfl rfl (r101.mono (Zt (Zt (Zt (Zt (Zt l102 l109) l110) l112) l114) l115)) ?_))))))))))))
  refine Za rfl rfl (Zm (v := Value.int .i64 (0)) rfl rfl (Zb (Ze ?_)))
  obtain ⟨l116, hB102, hm101⟩ := Zg hm101
  refine W_block (W_forS (fun k' s' f' w' => (fun (l116 : (List Int)) => ∃ (s114 : PHeap) , PHeap.le s113 s114 ∧ St w0 s114 (Res.box b100 55 [v100, v101, v102, v103] :: Res.box b102 79 [Value.string (x100.Name), Value.int .i64 (x100.Cost), u100, u101] :: Res.arr (encInt .i64) 3 v108 l113 :: Res.arr (encInt .i64) 3 v111 out100 :: Res.arr (encInt .i64) 3 v112 l116 :: H) w' ∧ f' 2 = v104 ∧ f' 3 = v105 ∧ f' 5 = Value.pointer (some ⟨b100, 0, none⟩) ∧ f' 11 = Value.pointer (some ⟨b102, 0, none⟩) ∧ f' 12 = v108 ∧ f' 17 = v111 ∧ f' 19 = v112 ∧ f' 68 = Value.int .i64 (y102) ∧ f' 69 = Value.int .i64 ((i101 : Int)) ∧ f' 80 = u101 ∧ f' 81 = Value.int .i64 ((x100.Effs.length : Int)) ∧ f' 82 = Value.int .i64 (k' : Int)) s') hB102 ?_ ?_ ?_)
  ·have hS139 := (hS138).f1
   have hS140 := (hS139).f4
   have hS141 := (hS140).f2
   have hS142 := (hS141).f4
   have hS143 := (hS142).f4
   exact ⟨s113, (Zv _), hS143, p121, p122, p123, p124, p125, p126, rfl, p127, x106, rfl, rfl, rfl⟩
  ·intro i102 l116 s115 f104 w116 hi102 hI103 hm102
   obtain ⟨s116, l117, hS144, p128, p129, p130, p131, p132, p133, p134, p135, p136, p137, p138, x107⟩ := hI103
   refine Zc (Zd (Za rfl rfl (Zq rfl x107 p138 (Zb (Ze (Zc (W_true (congrArg Value.bool (decide_eq_true (by omega))) (W_skip (Ze (Zc ?_))))))))))
   refine W_block (Zc (Zd ?_))
   obtain ⟨x108, q115, hm102⟩ := Zg hm102
   refine Za rfl rfl (Exec.index_rep S77 rfl p137 x107 (r101.mono (Zt (Zt (Zt (Zt (Zt (Zt l102 l109) l110) l112) l114) l115) l117)) q115 ?_)
   intro b105 o102 a108
   refine Za rfl rfl (Zw (E := encEffect) hS144 A93 rfl rfl rfl a108 ?_)
   intro v113 q116
   obtain ⟨u103, rfl, r102⟩ := encEffect_val.1 q116
   refine Za rfl rfl (Exec.alloc (cs := [Value.slice none 0 0, Value.int .i64 (0), Value.int .i64 (0)]) hS144 Z93 rfl rfl ?_)
   intro b106 w117 hS145
   refine Za rfl rfl (Exec.store_box (ds := [u103, Value.int .i64 (x108.Var), Value.int .i64 (x108.Val)]) (es := [u103, Value.int .i64 (x108.Var), Value.int .i64 (x108.Val)]) hS145 A93 rfl rfl rfl rfl (Zj (r102).one (Zj rfl (Zj rfl one_nil))) (Nat.le_of_ble_eq_true rfl) rfl ?_)
   intro w118 hS146
   refine Zb (Ze (Zc ?_))
   obtain ⟨z100, ht100, hm102⟩ := Zg hm102
   refine W_mid (M := fun f' w' => (fun (z100 : Bool) => ∃ (s117 : PHeap) , PHeap.le s116 s117 ∧ St w0 s117 (Res.box b100 55 [v100, v101, v102, v103] :: Res.box b102 79 [Value.string (x100.Name), Value.int .i64 (x100.Cost), u100, u101] :: Res.arr (encInt .i64) 3 v108 l113 :: Res.arr (encInt .i64) 3 v111 out100 :: Res.arr (encInt .i64) 3 v112 l116 :: Res.box b106 93 [u103, Value.int .i64 (x108.Var), Value.int .i64 (x108.Val)] :: H) w' ∧ f' 2 = v104 ∧ f' 3 = v105 ∧ f' 5 = Value.pointer (some ⟨b100, 0, none⟩) ∧ f' 11 = Value.pointer (some ⟨b102, 0, none⟩) ∧ f' 12 = v108 ∧ f' 17 = v111 ∧ f' 19 = v112 ∧ f' 21 = Value.pointer (some ⟨b106, 0, none⟩) ∧ f' 68 = Value.int .i64 (y102) ∧ f' 69 = Value.int .i64 ((i101 : Int)) ∧ f' 80 = u101 ∧ f' 81 = Value.int .i64 ((x100.Effs.length : Int)) ∧ f' 82 = Value.int .i64 ((i102 : Int)) ∧ f' 95 = Value.bool (z100)) z100) ?_ ?_
   ·refine Zd (Za rfl rfl (Zm (v := v104) rfl p128 (Za rfl rfl (Zp F93_1 rfl rfl rfl (Za rfl rfl (Zn (hS146) A3 rfl rfl rfl ?_))))))
    obtain ⟨y105, q117, ht100⟩ := Zg ht100
    refine Za rfl rfl (Exec.call rfl rfl Try.func62 rfl N62 (Zi rfl (Zi rfl args_nil)) ((slices_Contains___int_int__sim q117 hS146 (a104.mono (Zt (Zt (Zt (Zt (Zt (Zt l102 l109) l110) l112) l114) l115) l117))).mono ?_))
    rintro _ w119 ⟨_, rfl, ⟨s118, l118, hS147, rfl⟩⟩
    refine ⟨_, rfl, ?_⟩
    refine Za rfl rfl (Zm (v := Value.bool (y105)) rfl rfl ?_)
    rcases ite_some ht100 with ⟨hc103, ht100⟩ | ⟨hc103, ht100⟩
    ·refine WL_run rfl (Zf rfl (congrArg Value.bool hc103)) rfl (Zp F93_0 rfl rfl rfl (WL_run rfl (Zf rfl (congrArg Value.bool hc103)) rfl (Zn (hS147) A52 rfl rfl rfl (WL_run rfl (Zf rfl (congrArg Value.bool hc103)) rfl (Zm (v := v108) rfl p132 ?_)))))
     obtain ⟨y106, q118, ht100⟩ := Zg ht100
     have hS148 := (hS147).f3
     refine WL_run rfl (Zf rfl (congrArg Value.bool hc103)) rfl (Exec.call rfl rfl Try.func81 rfl N81 (Zi rfl (Zi rfl args_nil)) ((task_Holds_o_sim q118 hS148 (r102.mono l118)).mono ?_))
     rintro _ w120 ⟨_, rfl, ⟨s119, l119, hS149, rfl⟩⟩
     refine ⟨_, rfl, ?_⟩
     refine Za rfl rfl (Zs (v := Value.bool (y106)) rfl (congrArg Value.bool hc103) rfl (Zb (Ze ?_)))
     have e106 := Zu ht100
     subst z100
     have hS150 := (hS149).f1
     have hS151 := (hS150).f5
     have hS152 := (hS151).f5
     have hS153 := (hS152).f3
     have hS154 := (hS153).f5
     have hS155 := (hS154).f5
     exact ⟨s119, (Zt l118 l119), hS155, p128, p129, p130, p131, p132, p133, p134, rfl, p135, p136, p137, p138, x107, rfl⟩
    replace hc103 := Zk hc103
    refine Zl rfl (Zf rfl (congrArg Value.bool hc103)) rfl rfl (Zl rfl (Zf rfl (congrArg Value.bool hc103)) rfl rfl (Zl rfl (Zf rfl (congrArg Value.bool hc103)) rfl rfl (Zl rfl (Zf rfl (congrArg Value.bool hc103)) rfl rfl (Za rfl rfl (Exec.pick_f (v := Value.bool (false)) rfl (congrArg Value.bool hc103) rfl (Zb (Ze ?_)))))))
    have e107 := Zu ht100
    subst z100
    have hS156 := (hS147).f5
    have hS157 := (hS156).f5
    have hS158 := (hS157).f5
    have hS159 := (hS158).f5
    have hS160 := (hS159).f5
    exact ⟨s118, l118, hS160, p128, p129, p130, p131, p132, p133, p134, rfl, p135, p136, p137, p138, x107, rfl⟩
   intro f105 w121 hM101
   obtain ⟨s120, l120, hS161, p139, p140, p141, p142, p143, p144, p145, p146, p147, p148, p149, p150, p151, p152⟩ := hM101
   refine (Ze ?_)
   obtain ⟨l121, ht101, hm102⟩ := Zg hm102
   refine W_mid (M := fun f' w' => (fun (l121 : (List Int)) => ∃ (s121 : PHeap) , PHeap.le s120 s121 ∧ St w0 s121 (Res.box b100 55 [v100, v101, v102, v103] :: Res.box b102 79 [Value.string (x100.Name), Value.int .i64 (x100.Cost), u100, u101] :: Res.arr (encInt .i64) 3 v108 l113 :: Res.arr (encInt .i64) 3 v111 out100 :: Res.arr (encInt .i64) 3 v112 l121 :: H) w' ∧ f' 2 = v104 ∧ f' 3 = v105 ∧ f' 5 = Value.pointer (some ⟨b100, 0, none⟩) ∧ f' 11 = Value.pointer (some ⟨b102, 0, none⟩) ∧ f' 12 = v108 ∧ f' 17 = v111 ∧ f' 19 = v112 ∧ f' 68 = Value.int .i64 (y102) ∧ f' 69 = Value.int .i64 ((i101 : Int)) ∧ f' 80 = u101 ∧ f' 81 = Value.int .i64 ((x100.Effs.length : Int)) ∧ f' 82 = Value.int .i64 ((i102 : Int))) l121) ?_ ?_
   ·rcases ite_some ht101 with ⟨hc104, ht101⟩ | ⟨hc104, ht101⟩
    ·refine W_cond_t p152 hc104 (Zd (Za rfl rfl (Zm (v := v112) rfl p145 (Za rfl rfl (Zp F93_1 rfl p146 rfl (Za rfl rfl (Zn ((hS161).f5) A3 rfl rfl rfl (Za rfl rfl (Zp F93_2 rfl p146 rfl (Za rfl rfl (Zn ((hS161).f5) A3 rfl rfl rfl ?_)))))))))))
     obtain ⟨x109, q119, ht101⟩ := Zg ht101
     obtain ⟨g102, c104, e108⟩ := ((hS161).f4).arr_at q119
     refine Za rfl rfl (Exec.index_slice S22 rfl e108 rfl (idx_some q119).1 (idx_some q119).2.1 ?_)
     obtain ⟨l122, q120, ht101⟩ := Zg ht101
     have hS162 := (hS161).f4
     refine Za rfl rfl (Exec.store_arr hS162 e108 A3 rfl rfl rfl rfl (encInt_val.2 rfl) q120 ?_)
     intro w122 hS163
     refine Zb (Ze ?_)
     have e109 := Zu ht101
     subst l121
     have hS164 := ((hS163).f5).drop
     have hS165 := (hS164).f4
     have hS166 := (hS165).f4
     have hS167 := (hS166).f4
     have hS168 := (hS167).f4
     exact ⟨s120, (Zv _), hS168, p139, p140, p141, p142, p143, p144, p145, p147, p148, p149, p150, p151⟩
    refine W_cond_f p152 hc104 ?_
    replace hc104 := Zk hc104
    refine W_skip (Ze ?_)
    have e110 := Zu ht101
    subst l121
    have hS169 := ((hS161).f5).drop
    have hS170 := (hS169).f4
    have hS171 := (hS170).f4
    have hS172 := (hS171).f4
    have hS173 := (hS172).f4
    have hS174 := (hS173).f4
    exact ⟨s120, (Zv _), hS174, p139, p140, p141, p142, p143, p144, p145, p147, p148, p149, p150, p151⟩
   intro f106 w123 hM102
   obtain ⟨s122, l123, hS175, p153, p154, p155, p156, p157, p158, p159, p160, p161, p162, p163, p164⟩ := hM102
   refine (ib_normal (Ze (Zd (Za rfl rfl (Exec.add rfl p164 rfl (Za rfl rfl (Zm (v := Value.int .i64 (IntKind.i64.wrap ((i102 : Int) + 1))) rfl rfl (Zb (Ze ?_)))))))))
   have e111 := Zu hm102
   subst s115
   have hS176 := (hS175).f4
   have hS177 := (hS176).f4
   have hS178 := (hS177).f4
   have hS179 := (hS178).f4
   have hS180 := (hS179).f4
   exact ⟨s122, (Zt (Zt l117 l120) l123), hS180, p153, p154, p155, p156, p157, p158, p159, p160, p161, p162, p163, (Eq.trans rfl (wrap_up hi102 (SliceRep.le (r101.mono (Zt (Zt (Zt (Zt (Zt l102 l109) l110) l112) l114) l115)))))⟩
  intro f107 w124 hI104
  obtain ⟨s123, l124, hS181, p165, p166, p167, p168, p169, p170, p171, p172, p173, p174, p175, x110⟩ := hI104
  refine Zc (Zd (Za rfl rfl (Zq rfl x110 p175 (Zb (Ze (Zc (W_false (congrArg Value.bool (decide_eq_false (by omega))) (W_exit (at_exit (at_exit (ib_here (Ze (Zd ?_)))))))))))))
  refine Za rfl rfl (Zm (v := v111) rfl p170 (Za rfl rfl (Exec.load_box_agg (ds := [v100, v101, v102, v103]) (hS181) A55 rfl p167 rfl (Za rfl rfl (Zm (v := v104) rfl p165 (Za rfl rfl (Zm (v := v112) rfl p171 ?_)))))))
  obtain ⟨y107, q121, hm101⟩ := Zg hm101
  have hS182 := (hS181).f4
  refine Za rfl rfl (Exec.call rfl rfl Try.func59 rfl N59 (Zi rfl (Zi rfl (Zi rfl args_nil))) ((project_number_o_sim q121 hS182 (a100.mono (Zt (Zt (Zt (Zt (Zt (Zt l102 l109) l110) l112) l114) l115) l124)) (a101.mono (Zt (Zt (Zt (Zt (Zt (Zt l102 l109) l110) l112) l114) l115) l124)) (a102.mono (Zt (Zt (Zt (Zt (Zt (Zt l102 l109) l110) l112) l114) l115) l124)) (a103.mono (Zt (Zt (Zt (Zt (Zt (Zt l102 l109) l110) l112) l114) l115) l124)) (a104.mono (Zt (Zt (Zt (Zt (Zt (Zt l102 l109) l110) l112) l114) l115) l124))).mono ?_))
  rintro _ w125 ⟨_, rfl, ⟨s124, l125, hS183, rfl⟩⟩
  refine ⟨_, rfl, ?_⟩
  refine Za rfl rfl (Exec.buildSlice (Te := 3) (cs := [Value.int .i64 (y107)]) hS183 rfl (parts_cons (c := [Value.int .i64 (y107)]) (cells_of rfl rfl) parts_nil) (fun _ => by kernel_rfl) ?_)
  intro b107 w126 hS184
  obtain ⟨l126, q122, hm101⟩ := Zg hm101
  have hS185 := (hS184).f5
  refine Za rfl rfl (Exec.append_box (E := (encInt .i64)) (ys := [y107]) hS185 S22 Z3 rfl (by decide) rfl rfl rfl rfl ⟨[Value.int .i64 (y107)], [], rfl, rfl, rfl⟩ rfl q122 ?_)
  intro v114 w127 hS186
  refine Za rfl rfl (Zo (v := v114) rfl rfl (Zb (ib_normal (Ze (Zd (Za rfl rfl (Exec.add rfl p173 rfl (Za rfl rfl (Zm (v := Value.int .i64 (IntKind.i64.wrap ((i101 : Int) + 1))) rfl rfl (Zb (Ze ?_)))))))))))
  have e112 := Zu hm101
  subst s110
  have hS187 := ((hS186).f1).drop
  have hS188 := (hS187).f3
  have hS189 := (hS188).f3
  have hS190 := (hS189).f3
  exact ⟨s124, v114, (Zt (Zt (Zt (Zt l112 l114) l115) l124) l125), hS190, p165, p166, p167, p168, p169, rfl, p172, (Eq.trans rfl (wrap_up hi101 (by have h := must_some q112; simp at h; simp only [maxLen]; omega)))⟩
 intro f108 w128 hI105
 obtain ⟨out100, l111⟩ := t102
 replace hm := un2_eq hm
 obtain ⟨s125, v111, l127, hS191, p176, p177, p178, p179, p180, p181, p182, x111⟩ := hI105
 refine Zc (Zd (Za rfl rfl (Zq rfl x111 p182 (Zb (Ze (Zc (W_false (congrArg Value.bool (decide_eq_false (by omega))) (W_exit (at_exit (at_exit (ib_here (Ze (Zc ?_)))))))))))))
 refine Zd (Za rfl rfl (Zm (v := v111) rfl p181 ?_))
 obtain ⟨l128, q123, hm⟩ := Zg hm
 have hS192 := (hS191).f3
 refine Za rfl rfl (Exec.call rfl rfl Try.func78 rfl N78 (Zi rfl args_nil) ((sortInts_sim q123 hS192 ).mono ?_))
 rintro _ w129 ⟨_, rfl, ⟨s126, l129, hS193, rfl⟩⟩
 refine ⟨_, rfl, ?_⟩
 refine Zb (Ze (Zc (Zd (Za rfl rfl (Zm (v := v111) rfl p181 ?_)))))
 obtain ⟨t104, q124, hm⟩ := Zg hm
 obtain ⟨y108, l130⟩ := t104
 replace hm := un2_eq hm
 refine Za rfl rfl (Exec.call rfl rfl Try.func82 rfl N82 (Zi rfl args_nil) ((slices_Compact___int_int__o_sim q124 hS193 ).mono ?_))
 rintro _ w130 ⟨v115, rfl, ⟨s127, _, l131, hS194, rfl, r103⟩⟩
 refine ⟨_, rfl, ?_⟩
 obtain ⟨u104, q125, hm⟩ := Zg hm
 have hS195 := (hS194).arr_head r103 (by simpa using must_some q125)
 refine Za rfl rfl (Zo (v := v115) rfl rfl (Zb (Ze (W_ret ?_))))
 have e113 := Zu hm
 subst r
 refine ⟨_, ret1 rfl, ?_⟩
 obtain ⟨s128, l132, hS196, r104⟩ := hS195.freezeArr
 have hS197 := (hS196).drop
 have hS198 := (hS197).drop
 have hS199 := (hS198).drop
 exact ⟨s128, v115, (Zt (Zt (Zt (Zt (Zt (Zt l102 l109) l110) l127) l129) l131) l132), hS199, rfl, r104⟩
theorem N45 : (Try.f45.name == "runtime.NumGoroutine") = false := by kernel_rfl
theorem project_Project_sim {w0 w : World} {s : PHeap} {H : List Res} {t100 : Task} {pattern100 : (List Int)} {v100 : Value} {v101 : Value} {v102 : Value} {v103 : Value} {v104 : Value} {r : (Option Int) × System} (hm : project_Project_p t100 pattern100 = some r) (hS : St w0 s (H) w) (a100 : SliceRep (encInt .i64) s v100 t100.Vars) (a101 : SliceRep (encInt .i64) s v101 t100.Init) (a102 : SliceRep encFact s v102 t100.Goal) (a103 : SliceRep encOp s v103 t100.Ops) (a104 : SliceRep (encInt .i64) s v104 pattern100) :
  Calls Try.prog 45 #[Value.agg #[v100, v101, v102, v103], v104] w fun e w' => ∃ v, e = .returned v ∧ ((un2 fun (y100 : (Option Int)) (y101 : System) => ∃ (s100 : PHeap) (v105 : Value) (v106 : Value) (v107 : Value), PHeap.le s s100 ∧ St w0 s100 (H) w' ∧ v = Value.tuple #[Value.agg #[Value.int .i64 (y101.States), Value.int .i64 (y101.Init), v105, v106, v107], errV 39 (y100)] ∧ SliceRep (encInt .i64) s100 v105 y101.Costs ∧ SliceRep encEdge s100 v106 y101.Edges ∧ SliceRep encBool s100 v107 y101.Goals) r) := by
 unfold project_Project_p at hm
 refine calls_of_W Try.func45 rfl rfl (Zc (Zd (Za rfl rfl (Exec.box (cs := [v100, v101, v102, v103]) hS rfl rfl rfl ?_))))
 intro b100 w100 hS100
 refine Za rfl rfl (Exec.alloc (cs := [Value.int .i64 (0), Value.int .i64 (0), Value.slice none 0 0, Value.slice none 0 0, Value.slice none 0 0]) hS100 Z26 rfl rfl ?_)
 intro b101 w101 hS101
 refine Za rfl rfl (Zo (v := errV 39 (none)) rfl rfl (Zb (Ze (Zc (Zc (Zd (Za rfl rfl (Exec.load_box_agg (ds := [v100, v101, v102, v103]) ((hS101).f1) A55 rfl rfl rfl (Za rfl rfl (Zm (v := v104) rfl rfl ?_))))))))))
 obtain ⟨y102, q100, hm⟩ := Zg hm
 refine Za rfl rfl (Exec.call rfl rfl Try.func57 rfl N57 (Zi rfl (Zi rfl args_nil)) ((project_check_sim q100 hS101 a100 a101 a102 a103 a104).mono ?_))
 rintro _ w102 ⟨_, rfl, ⟨s101, l100, hS102, rfl⟩⟩
 refine ⟨_, rfl, ?_⟩
 refine Za rfl rfl (Zo (v := errV 39 (y102)) rfl rfl (Zb (Ze (Zc (Zd (Za rfl rfl (Zm (v := errV 39 (y102)) rfl rfl (Za rfl rfl (Exec.err_neq_nil (T := 39) Try.underlying30 rfl rfl rfl (Zb (Ze ?_)))))))))))
 rcases ite_some hm with ⟨hc100, hm⟩ | ⟨hc100, hm⟩
 ·refine W_cond_t rfl hc100 (Zc (Zd (Za rfl rfl (Exec.build rfl parts_nil (v := Value.agg #[Value.int .i64 (0), Value.int .i64 (0), Value.slice none 0 0, Value.slice none 0 0, Value.slice none 0 0]) (fun _ => by kernel_rfl) (Za rfl rfl (Zm (v := errV 39 (y102)) rfl rfl (Za rfl rfl (Exec.store_box (ds := [Value.int .i64 (0), Value.int .i64 (0), Value.slice none 0 0, Value.slice none 0 0, Value.slice none 0 0]) (es := [Value.int .i64 (0), Value.int .i64 (0), Value.slice none 0 0, Value.slice none 0 0, Value.slice none 0 0]) hS102 A26 rfl rfl rfl rfl (Zj rfl (Zj rfl (Zj rfl (Zj rfl (Zj rfl one_nil))))) (Nat.le_of_ble_eq_true rfl) rfl ?_))))))))
  intro w103 hS103
  refine Za rfl rfl (Zo (v := errV 39 (y102)) rfl rfl (Zb (Ze (W_ret (at_ret ?_)))))
  have e100 := Zu hm
  subst r
  refine ⟨_, retG2 rfl ⟨_, _, rfl, cellRes (hS103) A26⟩ rfl, ?_⟩
  have hS104 := (hS103).drop
  have hS105 := (hS104).drop
  exact ⟨s101, (Value.slice none 0 0), (Value.slice none 0 0), (Value.slice none 0 0), l100, hS105, (tup2 rfl rfl), (SliceRep.nil _ _), (SliceRep.nil _ _), (SliceRep.nil _ _)⟩
 refine W_cond_f rfl hc100 ?_
 replace hc100 := Zk hc100
 refine W_skip (Ze (Zc (Zd (Za rfl rfl (Exec.load_box_agg (ds := [v100, v101, v102, v103]) ((hS102).f1) A55 rfl rfl rfl (Za rfl rfl (Zm (v := v104) rfl rfl ?_)))))))
 obtain ⟨t101, q101, hm⟩ := Zg hm
 obtain ⟨y103, y104⟩ := t101
 replace hm := un2_eq hm
 refine Za rfl rfl (Exec.call rfl rfl Try.func58 rfl N58 (Zi rfl (Zi rfl args_nil)) ((project_count_sim q101 hS102 (a100.mono l100) (a101.mono l100) (a102.mono l100) (a103.mono l100) (a104.mono l100)).mono ?_))
 rintro _ w104 ⟨_, rfl, ⟨s102, l101, hS106, rfl⟩⟩
 refine ⟨_, rfl, ?_⟩
 refine Za rfl rfl (Zm (v := Value.tuple #[Value.int .i64 (y103), Value.bool (y104)]) rfl rfl (Za rfl rfl (Exec.extract (v := Value.int .i64 (y103)) rfl rfl rfl (Za rfl rfl (Exec.extract (v := Value.bool (y104)) rfl rfl rfl (Za rfl rfl (Zo (v := Value.int .i64 (y103)) rfl rfl (Za rfl rfl (Zo (v := Value.bool (y104)) rfl rfl (Zb (Ze (Zc (Zc ?_)))))))))))))
 refine Zd (Za rfl rfl (Zm (v := Value.bool (y104)) rfl rfl (Za rfl rfl (Exec.not rfl rfl (Zb (Ze ?_))))))
 rcases ite_some hm with ⟨hc101, hm⟩ | ⟨hc101, hm⟩
 ·refine W_cond_t rfl hc101 (Zc (Zd (Za rfl rfl (Exec.build rfl parts_nil (v := Value.agg #[Value.int .i64 (0), Value.int .i64 (0), Value.slice none 0 0, Value.slice none 0 0, Value.slice none 0 0]) (fun _ => by kernel_rfl) (Za rfl rfl (Exec.makeInterface C39 rfl rfl (Za rfl rfl (Exec.store_box (ds := [Value.int .i64 (0), Value.int .i64 (0), Value.slice none 0 0, Value.slice none 0 0, Value.slice none 0 0]) (es := [Value.int .i64 (0), Value.int .i64 (0), Value.slice none 0 0, Value.slice none 0 0, Value.slice none 0 0]) hS106 A26 rfl rfl rfl rfl (Zj rfl (Zj rfl (Zj rfl (Zj rfl (Zj rfl one_nil))))) (Nat.le_of_ble_eq_true rfl) rfl ?_))))))))
  intro w105 hS107
  refine Za rfl rfl (Zo (v := errV 39 (some 5)) rfl rfl (Zb (Ze (W_ret (at_ret ?_)))))
  have e101 := Zu hm
  subst r
  refine ⟨_, retG2 rfl ⟨_, _, rfl, cellRes (hS107) A26⟩ rfl, ?_⟩
  have hS108 := (hS107).drop
  have hS109 := (hS108).drop
  exact ⟨s102, (Value.slice none 0 0), (Value.slice none 0 0), (Value.slice none 0 0), (Zt l100 l101), hS109, (tup2 rfl rfl), (SliceRep.nil _ _), (SliceRep.nil _ _), (SliceRep.nil _ _)⟩
 refine W_cond_f rfl hc101 ?_
 replace hc101 := Zk hc101
 refine W_skip (Ze (Zc (Zd (Za rfl rfl (Zm (v := Value.int .i64 (y103)) rfl rfl (Za rfl rfl (Exec.load_box_agg (ds := [v100, v101, v102, v103]) ((hS106).f1) A55 rfl rfl rfl (Za rfl rfl (Zm (v := v104) rfl rfl (Za rfl rfl (Zp F55_1 rfl rfl rfl (Za rfl rfl (Zn ((hS106).f1) A22 rfl rfl rfl ?_)))))))))))))
 obtain ⟨y105, q102, hm⟩ := Zg hm
 refine Za rfl rfl (Exec.call rfl rfl Try.func59 rfl N59 (Zi rfl (Zi rfl (Zi rfl args_nil))) ((project_number_sim q102 hS106 (a100.mono (Zt l100 l101)) (a101.mono (Zt l100 l101)) (a102.mono (Zt l100 l101)) (a103.mono (Zt l100 l101)) (a104.mono (Zt l100 l101)) (a101.mono (Zt l100 l101))).mono ?_))
 rintro _ w106 ⟨_, rfl, ⟨s103, l102, hS110, rfl⟩⟩
 refine ⟨_, rfl, ?_⟩
 refine Za rfl rfl (Exec.build rfl (parts_cons (c := [Value.int .i64 (y103)]) (cells_of rfl rfl) (parts_cons (c := [Value.int .i64 (y105)]) (cells_of rfl rfl) parts_nil)) (v := Value.agg #[Value.int .i64 (y103), Value.int .i64 (y105), Value.slice none 0 0, Value.slice none 0 0, Value.slice none 0 0]) (fun _ => by kernel_rfl) (Za rfl rfl (Exec.alloc (cs := [Value.int .i64 (0), Value.int .i64 (0), Value.slice none 0 0, Value.slice none 0 0, Value.slice none 0 0]) hS110 Z26 rfl rfl ?_)))
 intro b102 w107 hS111
 refine Za rfl rfl (Exec.store_box (ds := [Value.int .i64 (y103), Value.int .i64 (y105), Value.slice none 0 0, Value.slice none 0 0, Value.slice none 0 0]) (es := [Value.int .i64 (y103), Value.int .i64 (y105), Value.slice none 0 0, Value.slice none 0 0, Value.slice none 0 0]) hS111 A26 rfl rfl rfl rfl (Zj rfl (Zj rfl (Zj rfl (Zj rfl (Zj rfl one_nil))))) (Nat.le_of_ble_eq_true rfl) rfl ?_)
 intro w108 hS112
 refine Zb (Ze (Zc (Zd (Za rfl rfl (Zp F55_3 rfl rfl rfl (Za rfl rfl (Zn ((hS112).f2) A53 rfl rfl rfl (Za rfl rfl (Zr S53 rfl rfl (a103.mono (Zt (Zt l100 l101) l102)) ?_)))))))))
 obtain ⟨l103, q103, hm⟩ := Zg hm
 refine Za rfl rfl (Exec.make (E := (encSlice (encInt .i64))) hS112 S83 Z22 ⟨_, rfl, (SliceRep.nil _ _)⟩ rfl rfl rfl q103 ?_)
 intro v108 w109 hS113
 refine Za rfl rfl (Zo (v := v108) rfl rfl (Zb (Ze (Zc (Zc (Zd (Za rfl rfl (Zp F55_3 rfl rfl rfl (Za rfl rfl (Zn ((hS113).f3) A53 rfl rfl rfl (Za rfl rfl (Zr S53 rfl rfl (a103.mono (Zt (Zt l100 l101) l102)) ?_))))))))))))
 refine Za rfl rfl (Zm (v := Value.int .i64 (0)) rfl rfl (Zb (Ze ?_)))
 obtain ⟨c100, hB100, hr100, hn100, hb100⟩ := ctl_some hm
 refine W_mid (M := fun f' w' => ∃ s', (c100 = .next s' ∨ c100 = .brk s') ∧ (un2 fun (z100 : (List Int)) (l104 : (List (List Int))) => ∃ (s104 : PHeap) (v109 : Value), PHeap.le s103 s104 ∧ St w0 s104 (Res.box b100 55 [v100, v101, v102, v103] :: Res.box b101 26 [Value.int .i64 (0), Value.int .i64 (0), Value.slice none 0 0, Value.slice none 0 0, Value.slice none 0 0] :: Res.box b102 26 [Value.int .i64 (y103), Value.int .i64 (y105), v109, Value.slice none 0 0, Value.slice none 0 0] :: Res.arr (encSlice (encInt .i64)) 22 v108 l104 :: Res.arr (encInt .i64) 3 v109 z100 :: H) w' ∧ f' 1 = v104 ∧ f' 2 = Value.pointer (some ⟨b100, 0, none⟩) ∧ f' 4 = Value.pointer (some ⟨b101, 0, none⟩) ∧ f' 7 = Value.int .i64 (y103) ∧ f' 9 = Value.pointer (some ⟨b102, 0, none⟩) ∧ f' 10 = v108 ∧ f' 52 = v103 ∧ f' 53 = Value.int .i64 ((t100.Ops.length : Int))) s') ?_ ?_
 ·refine W_block (W_forC (fun k' s' f' w' => (un2 fun (z101 : (List Int)) (l105 : (List (List Int))) => ∃ (s105 : PHeap) (v110 : Value), PHeap.le s103 s105 ∧ St w0 s105 (Res.box b100 55 [v100, v101, v102, v103] :: Res.box b101 26 [Value.int .i64 (0), Value.int .i64 (0), Value.slice none 0 0, Value.slice none 0 0, Value.slice none 0 0] :: Res.box b102 26 [Value.int .i64 (y103), Value.int .i64 (y105), v110, Value.slice none 0 0, Value.slice none 0 0] :: Res.arr (encSlice (encInt .i64)) 22 v108 l105 :: Res.arr (encInt .i64) 3 v110 z101 :: H) w' ∧ f' 1 = v104 ∧ f' 2 = Value.pointer (some ⟨b100, 0, none⟩) ∧ f' 4 = Value.pointer (some ⟨b101, 0, none⟩) ∧ f' 7 = Value.int .i64 (y103) ∧ f' 9 = Value.pointer (some ⟨b102, 0, none⟩) ∧ f' 10 = v108 ∧ f' 52 = v103 ∧ f' 53 = Value.int .i64 ((t100.Ops.length : Int)) ∧ f' 54 = Value.int .i64 (k' : Int)) s') hB100 ?_ ?_ ?_)
  ·have hS114 := hS113.nilArr (encInt .i64) 3
   have hS115 := (hS114).f1
   have hS116 := (hS115).f2
   have hS117 := (hS116).f3
   have hS118 := (hS117).f4
   exact ⟨s103, (Value.slice none 0 0), (Zv _), hS118, rfl, rfl, rfl, rfl, rfl, rfl, rfl, rfl, rfl⟩
  ·intro i100 t102 c101 f100 w110 hi100 hI100 hm100 hres100
   obtain ⟨z101, l105⟩ := t102
   replace hm100 := un2_eq hm100
   obtain ⟨s106, v110, l106, hS119, p100, p101, p102, p103, p104, p105, p106, p107, x100⟩ := hI100
   refine Zc (Zd (Za rfl rfl (Zq rfl x100 p107 (Zb (Ze (Zc (W_true (congrArg Value.bool (decide_eq_true (by omega))) (W_skip (Ze (Zc ?_))))))))))
   refine W_block (Zc (Zd (Za rfl rfl (Zm (v := Value.int .i64 ((i100 : Int))) rfl x100 ?_))))
   obtain ⟨x101, q104, hm100⟩ := Zg hm100
   refine Za rfl rfl (Exec.index_rep S53 rfl p106 x100 (a103.mono (Zt (Zt (Zt l100 l101) l102) l106)) q104 ?_)
   intro b103 o100 a105
   refine Za rfl rfl (Zw (E := encOp) hS119 A79 rfl rfl rfl a105 ?_)
   intro v111 q105
   obtain ⟨u100, u101, rfl, r100, r101⟩ := encOp_val.1 q105
   refine Za rfl rfl (Exec.alloc (cs := [Value.string (⟨#[]⟩), Value.int .i64 (0), Value.slice none 0 0, Value.slice none 0 0]) hS119 Z79 rfl rfl ?_)
   intro b104 w111 hS120
   refine Za rfl rfl (Zo (v := Value.int .i64 ((i100 : Int))) rfl rfl (Za rfl rfl (Exec.store_box (ds := [Value.string (x101.Name), Value.int .i64 (x101.Cost), u100, u101]) (es := [Value.string (x101.Name), Value.int .i64 (x101.Cost), u100, u101]) hS120 A79 rfl rfl rfl rfl (Zj rfl (Zj rfl (Zj (r100).one (Zj (r101).one one_nil)))) (Nat.le_of_ble_eq_true rfl) rfl ?_)))
   intro w112 hS121
   refine Zb (Ze (Zc (Zd (Za rfl rfl (Zp F26_2 rfl p104 rfl (Za rfl rfl (Zn ((hS121).f3) A22 rfl rfl rfl (Za rfl rfl (Zp F79_1 rfl rfl rfl (Za rfl rfl (Zn (hS121) A3 rfl rfl rfl (Za rfl rfl (Exec.buildSlice (Te := 3) (cs := [Value.int .i64 (x101.Cost)]) hS121 rfl (parts_cons (c := [Value.int .i64 (x101.Cost)]) (cells_of rfl rfl) parts_nil) (fun _ => by kernel_rfl) ?_)))))))))))))
   intro b105 w113 hS122
   obtain ⟨l107, q106, hm100⟩ := Zg hm100
   have hS123 := (hS122).f6
   refine Za rfl rfl (Exec.append_box (E := (encInt .i64)) (ys := [x101.Cost]) hS123 S22 Z3 rfl (by decide) rfl rfl rfl rfl ⟨[Value.int .i64 (x101.Cost)], [], rfl, rfl, rfl⟩ rfl q106 ?_)
   intro v112 w114 hS124
   refine Za rfl rfl (Zp F26_2 rfl p104 rfl ?_)
   have hS125 := (hS124).f4
   refine Za rfl rfl (Exec.store_box (ds := [v112]) (es := [Value.int .i64 (y103), Value.int .i64 (y105), v112, Value.slice none 0 0, Value.slice none 0 0]) hS125 A22 rfl rfl rfl (cells_one ((hS125).f1).arr_one) (Zj ((hS125).f1).arr_one one_nil) (Nat.le_of_ble_eq_true rfl) rfl ?_)
   intro w115 hS126
   refine Zb (Ze (Zc (Zd (Za rfl rfl (Zm (v := v108) rfl p105 (Za rfl rfl (Zm (v := Value.int .i64 ((i100 : Int))) rfl rfl (Za rfl rfl (Exec.load_box_agg (ds := [Value.string (x101.Name), Value.int .i64 (x101.Cost), u100, u101]) ((hS126).f2) A79 rfl rfl rfl (Za rfl rfl (Zm (v := v104) rfl p100 ?_)))))))))))
   obtain ⟨y106, q107, hm100⟩ := Zg hm100
   refine Za rfl rfl (Exec.call rfl rfl Try.func60 rfl N60 (Zi rfl (Zi rfl args_nil)) ((project_outside_sim q107 hS126 r100 r101 (a104.mono (Zt (Zt (Zt l100 l101) l102) l106))).mono ?_))
   rintro _ w116 ⟨v113, rfl, ⟨s107, _, l108, hS127, rfl, r102⟩⟩
   refine ⟨_, rfl, ?_⟩
   obtain ⟨x102, q108, hm100⟩ := Zg hm100
   obtain ⟨g100, c102, e102⟩ := ((hS127).f5).arr_at q108
   refine Za rfl rfl (Exec.index_slice S83 rfl e102 rfl (idx_some q108).1 (idx_some q108).2.1 ?_)
   obtain ⟨l109, q109, hm100⟩ := Zg hm100
   have hS128 := (hS127).f5
   refine Za rfl rfl (Exec.store_arr hS128 e102 A22 rfl rfl rfl rfl (encSlice_val.2 r102) q109 ?_)
   intro w117 hS129
   refine Zb (Ze (Zc (W_dl (n0 := 10) (.q 0 (.q 1 (.q 2 (.q 3 (.q 4 (.e 5 [] (.q 6 (.q 7 (.q 8 (.q 9 .done)))))))))) hmix (by kernel_rfl) (by kernel_rfl) ?_)))
   have hS130 := hS129.drew
   refine DL_q rfl rfl (Exec.load_box_agg (ds := [v100, v101, v102, v103]) ((hS130).f4) A55 rfl p101 rfl ⟨rfl, ?_⟩)
   refine DL_q rfl rfl (Zm (v := v108) rfl p105 ⟨rfl, ?_⟩)
   refine DL_q rfl rfl (Zm (v := Value.int .i64 ((i100 : Int))) rfl rfl ⟨rfl, ?_⟩)
   obtain ⟨x103, q110, hm100⟩ := Zg hm100
   obtain ⟨g101, c103, e103⟩ := (hS130).arr_at q110
   refine DL_q rfl rfl (Exec.index_slice S83 rfl e103 rfl (idx_some q110).1 (idx_some q110).2.1 ⟨rfl, ?_⟩)
   refine DL_q rfl rfl (Exec.load_arr (F := (encSlice (encInt .i64))) (hS130) e103 A22 rfl rfl rfl q110 (Sub.refl _) ?_)
   intro v114 q111
   have r103 := encSlice_val.1 q111
   refine ⟨rfl, ?_⟩
   obtain ⟨t103, q112, hm100⟩ := Zg hm100
   obtain ⟨y107, y108⟩ := t103
   replace hm100 := un2_eq hm100
   refine DL_e rfl rfl (Exec.call rfl rfl Try.func58 rfl N58 (Zi rfl (Zi rfl args_nil)) ((project_count_sim q112 hS130 (a100.mono (Zt (Zt (Zt (Zt l100 l101) l102) l106) l108)) (a101.mono (Zt (Zt (Zt (Zt l100 l101) l102) l106) l108)) (a102.mono (Zt (Zt (Zt (Zt l100 l101) l102) l106) l108)) (a103.mono (Zt (Zt (Zt (Zt l100 l101) l102) l106) l108)) r103).mono ?_))
   rintro _ w118 ⟨_, rfl, ⟨s108, l110, hS131, rfl⟩⟩
   refine ⟨_, rfl, ?_⟩
   refine ⟨ag_nil, ?_⟩
   refine DL_q rfl rfl (Zm (v := Value.tuple #[Value.int .i64 (y107), Value.bool (y108)]) rfl rfl ⟨rfl, ?_⟩)
   refine DL_q rfl rfl (Exec.extract (v := Value.int .i64 (y107)) rfl rfl rfl ⟨rfl, ?_⟩)
   refine DL_q rfl rfl (Exec.extract (v := Value.bool (y108)) rfl rfl rfl ⟨rfl, ?_⟩)
   refine DL_q rfl rfl (Zo (v := Value.int .i64 (y107)) rfl rfl ⟨rfl, ?_⟩)
   refine DL_done (Za rfl rfl (Zo (v := Value.bool (y108)) rfl rfl (Zb (Ze (Zc (Zd (Za rfl rfl (Zm (v := Value.bool (y108)) rfl rfl (Za rfl rfl (Exec.not rfl rfl (Zb (Ze ?_))))))))))))
   rcases ite_some hm100 with ⟨hc102, hm100⟩ | ⟨hc102, hm100⟩
   ·refine W_cond_t rfl hc102 (Zc (Zd (Za rfl rfl (Exec.build rfl parts_nil (v := Value.agg #[Value.int .i64 (0), Value.int .i64 (0), Value.slice none 0 0, Value.slice none 0 0, Value.slice none 0 0]) (fun _ => by kernel_rfl) (Za rfl rfl (Exec.makeInterface C39 rfl rfl ?_))))))
    have hS132 := (hS131).f5
    refine Za rfl rfl (Exec.store_box (ds := [Value.int .i64 (0), Value.int .i64 (0), Value.slice none 0 0, Value.slice none 0 0, Value.slice none 0 0]) (es := [Value.int .i64 (0), Value.int .i64 (0), Value.slice none 0 0, Value.slice none 0 0, Value.slice none 0 0]) hS132 A26 rfl p102 rfl rfl (Zj rfl (Zj rfl (Zj rfl (Zj rfl (Zj rfl one_nil))))) (Nat.le_of_ble_eq_true rfl) rfl ?_)
    intro w119 hS133
    refine Za rfl rfl (Zo (v := errV 39 (some 5)) rfl rfl (Zb (Ze (W_ret (ib_ret (at_ret (at_ret (ib_ret (at_ret (at_ret ?_))))))))))
    have e104 := Zu hm100
    subst c101
    have hq100 := hr100 _ (hres100 (by intro _ h; cases h))
    have e105 := Zu hq100
    subst r
    refine ⟨_, retG2 rfl ⟨_, _, p102, cellRes (hS133) A26⟩ rfl, ?_⟩
    have hS134 := (hS133).drop
    have hS135 := (hS134).drop
    have hS136 := (hS135).drop
    have hS137 := (hS136).drop
    have hS138 := (hS137).drop
    have hS139 := (hS138).drop
    exact ⟨s108, (Value.slice none 0 0), (Value.slice none 0 0), (Value.slice none 0 0), (Zt (Zt (Zt (Zt (Zt l100 l101) l102) l106) l108) l110), hS139, (tup2 rfl rfl), (SliceRep.nil _ _), (SliceRep.nil _ _), (SliceRep.nil _ _)⟩
   refine W_cond_f rfl hc102 ?_
   replace hc102 := Zk hc102
   refine W_skip (ib_normal (Ze (Zd (Za rfl rfl (Exec.add rfl x100 rfl (Za rfl rfl (Zm (v := Value.int .i64 (IntKind.i64.wrap ((i100 : Int) + 1))) rfl rfl (Zb (Ze ?_)))))))))
   have e106 := Zu hm100
   subst c101
   have hS140 := ((hS131).f3).drop
   have hS141 := (hS140).f2
   have hS142 := (hS141).f1
   have hS143 := (hS142).f2
   have hS144 := (hS143).f4
   have hS145 := (hS144).f4
   refine ⟨_, rfl, ?_⟩; exact ⟨s108, v112, (Zt (Zt l106 l108) l110), hS145, p100, p101, p102, p103, p104, p105, p106, p107, (Eq.trans rfl (wrap_up hi100 (SliceRep.le (a103.mono (Zt (Zt l100 l101) l102)))))⟩
  intro t104 f101 w120 hI101 hres101
  obtain ⟨z101, l105⟩ := t104
  obtain ⟨s109, v110, l111, hS146, p108, p109, p110, p111, p112, p113, p114, p115, x104⟩ := hI101
  refine Zc (Zd (Za rfl rfl (Zq rfl x104 p115 (Zb (Ze (Zc (W_false (congrArg Value.bool (decide_eq_false (by omega))) (W_exit (at_exit (at_exit (ib_here (Ze ?_))))))))))))
  have hS147 := (hS146).f4
  have hS148 := (hS147).f4
  have hS149 := (hS148).f4
  have hS150 := (hS149).f4
  have hS151 := (hS150).f4
  refine ⟨_, .inl hres101, ?_⟩; exact ⟨s109, v110, l111, hS151, p108, p109, p110, p111, p112, p113, p114, p115⟩
 rintro f102 w121 ⟨t105, hc103, hM100⟩
 have hm := hc103.elim (hn100 _) (hb100 _)
 clear hc103
 obtain ⟨z100, l104⟩ := t105
 replace hm := un2_eq hm
 obtain ⟨s110, v109, l112, hS152, p116, p117, p118, p119, p120, p121, p122, p123⟩ := hM100
 refine (Ze (Zc (Zd (Za rfl rfl (Zp F55_0 rfl p117 rfl (Za rfl rfl (Zn (hS152) A22 rfl rfl rfl (Za rfl rfl (Zr S22 rfl rfl (a100.mono (Zt (Zt (Zt l100 l101) l102) l112)) ?_)))))))))
 obtain ⟨l113, q113, hm⟩ := Zg hm
 refine Za rfl rfl (Exec.make (E := (encInt .i64)) hS152 S22 Z3 rfl rfl rfl rfl q113 ?_)
 intro v115 w122 hS153
 refine Za rfl rfl (Zo (v := v115) rfl rfl (Zb (Ze (Zc (Zc (Zd (Za rfl rfl (Zm (v := Value.int .i64 (y103)) rfl p119 (Za rfl rfl (Zm (v := Value.int .i64 (0)) rfl rfl (Zb (Ze ?_))))))))))))
 obtain ⟨u102, q114, hm⟩ := Zg hm
 obtain ⟨c104, hB101, hr101, hn101, hb101⟩ := ctl_some hm
 refine W_mid (M := fun f' w' => ∃ s', (c104 = .next s' ∨ c104 = .brk s') ∧ (un3 fun (z102 : (List Edge)) (z103 : (List Bool)) (l114 : (List Int)) => ∃ (s111 : PHeap) (v116 : Value) (v117 : Value), PHeap.le s110 s111 ∧ St w0 s111 (Res.box b100 55 [v100, v101, v102, v103] :: Res.box b101 26 [Value.int .i64 (0), Value.int .i64 (0), Value.slice none 0 0, Value.slice none 0 0, Value.slice none 0 0] :: Res.box b102 26 [Value.int .i64 (y103), Value.int .i64 (y105), v109, v116, v117] :: Res.arr (encSlice (encInt .i64)) 22 v108 l104 :: Res.arr (encInt .i64) 3 v115 l114 :: Res.arr (encInt .i64) 3 v109 z100 :: Res.arr encEdge 66 v116 z102 :: Res.arr encBool 4 v117 z103 :: H) w' ∧ f' 1 = v104 ∧ f' 2 = Value.pointer (some ⟨b100, 0, none⟩) ∧ f' 4 = Value.pointer (some ⟨b101, 0, none⟩) ∧ f' 9 = Value.pointer (some ⟨b102, 0, none⟩) ∧ f' 10 = v108 ∧ f' 15 = v115 ∧ f' 90 = Value.int .i64 (y103)) s') ?_ ?_
 ·refine W_block (W_forC (fun k' s' f' w' => (un3 fun (z104 : (List Edge)) (z105 : (List Bool)) (l115 : (List Int)) => ∃ (s112 : PHeap) (v118 : Value) (v119 : Value), PHeap.le s110 s112 ∧ St w0 s112 (Res.box b100 55 [v100, v101, v102, v103] :: Res.box b101 26 [Value.int .i64 (0), Value.int .i64 (0), Value.slice none 0 0, Value.slice none 0 0, Value.slice none 0 0] :: Res.box b102 26 [Value.int .i64 (y103), Value.int .i64 (y105), v109, v118, v119] :: Res.arr (encSlice (encInt .i64)) 22 v108 l104 :: Res.arr (encInt .i64) 3 v115 l115 :: Res.arr (encInt .i64) 3 v109 z100 :: Res.arr encEdge 66 v118 z104 :: Res.arr encBool 4 v119 z105 :: H) w' ∧ f' 1 = v104 ∧ f' 2 = Value.pointer (some ⟨b100, 0, none⟩) ∧ f' 4 = Value.pointer (some ⟨b101, 0, none⟩) ∧ f' 9 = Value.pointer (some ⟨b102, 0, none⟩) ∧ f' 10 = v108 ∧ f' 15 = v115 ∧ f' 90 = Value.int .i64 (y103) ∧ f' 91 = Value.int .i64 (k' : Int)) s') hB101 ?_ ?_ ?_)
  ·have hS154 := hS153.nilArr encEdge 66
   have hS155 := hS154.nilArr encBool 4
   have hS156 := (hS155).f1
   have hS157 := (hS156).f7
   have hS158 := (hS157).f3
   have hS159 := (hS158).f7
   have hS160 := (hS159).f7
   have hS161 := (hS160).f7
   have hS162 := (hS161).f7
   exact ⟨s110, (Value.slice none 0 0), (Value.slice none 0 0), (Zv _), hS162, p116, p117, p118, p120, p121, rfl, rfl, rfl⟩
  ·intro i101 t106 c105 f103 w123 hi101 hI102 hm101 hres102
   obtain ⟨z104, z105, l115⟩ := t106
   replace hm101 := un3_eq hm101
   obtain ⟨s113, v118, v119, l116, hS163, p124, p125, p126, p127, p128, p129, p130, x105⟩ := hI102
   refine Zc (Zd (Za rfl rfl (Zq rfl x105 p130 (Zb (Ze (Zc (W_true (congrArg Value.bool (decide_eq_true (by omega))) (W_skip (Ze (Zc ?_))))))))))
   refine W_block (Zc (Zd (Za rfl rfl (Zm (v := Value.int .i64 ((i101 : Int))) rfl x105 (Za rfl rfl (Zo (v := Value.int .i64 ((i101 : Int))) rfl rfl (Zb (Ze (Zc (Zd ?_))))))))))
   refine Za rfl rfl (Exec.load_box_agg (ds := [v100, v101, v102, v103]) (hS163) A55 rfl p125 rfl (Za rfl rfl (Zm (v := v104) rfl p124 (Za rfl rfl (Zm (v := v115) rfl p129 (Za rfl rfl (Zm (v := Value.int .i64 ((i101 : Int))) rfl rfl ?_)))))))
   obtain ⟨l117, q115, hm101⟩ := Zg hm101
   have hS164 := (hS163).f4
   refine Za rfl rfl (Exec.call rfl rfl Try.func61 rfl N61 (Zi rfl (Zi rfl (Zi rfl (Zi rfl args_nil)))) ((put_sim q115 hS164 (a100.mono (Zt (Zt (Zt (Zt l100 l101) l102) l112) l116)) (a101.mono (Zt (Zt (Zt (Zt l100 l101) l102) l112) l116)) (a102.mono (Zt (Zt (Zt (Zt l100 l101) l102) l112) l116)) (a103.mono (Zt (Zt (Zt (Zt l100 l101) l102) l112) l116)) (a104.mono (Zt (Zt (Zt (Zt l100 l101) l102) l112) l116))).mono ?_))
   rintro _ w124 ⟨_, rfl, ⟨s114, l118, hS165, rfl⟩⟩
   refine ⟨_, rfl, ?_⟩
   refine Zb (Ze (Zc (Zd (Za rfl rfl (Zo (v := Value.bool (true)) rfl rfl (Zb (Ze (Zc (Zc (Zd ?_))))))))))
   refine Za rfl rfl (Zp F55_2 rfl p125 rfl (Za rfl rfl (Zn ((hS165).f1) A52 rfl rfl rfl (Za rfl rfl (Zr S52 rfl rfl (a102.mono (Zt (Zt (Zt (Zt (Zt l100 l101) l102) l112) l116) l118)) (Za rfl rfl (Zm (v := Value.int .i64 (0)) rfl rfl (Zb (Ze ?_)))))))))
   obtain ⟨goal100, hB102, hm101⟩ := Zg hm101
   refine W_block (W_forS (fun k' s' f' w' => (fun (goal100 : Bool) => ∃ (s115 : PHeap) , PHeap.le s114 s115 ∧ St w0 s115 (Res.box b100 55 [v100, v101, v102, v103] :: Res.box b101 26 [Value.int .i64 (0), Value.int .i64 (0), Value.slice none 0 0, Value.slice none 0 0, Value.slice none 0 0] :: Res.box b102 26 [Value.int .i64 (y103), Value.int .i64 (y105), v109, v118, v119] :: Res.arr (encSlice (encInt .i64)) 22 v108 l104 :: Res.arr (encInt .i64) 3 v115 l117 :: Res.arr (encInt .i64) 3 v109 z100 :: Res.arr encEdge 66 v118 z104 :: Res.arr encBool 4 v119 z105 :: H) w' ∧ f' 1 = v104 ∧ f' 2 = Value.pointer (some ⟨b100, 0, none⟩) ∧ f' 4 = Value.pointer (some ⟨b101, 0, none⟩) ∧ f' 9 = Value.pointer (some ⟨b102, 0, none⟩) ∧ f' 10 = v108 ∧ f' 15 = v115 ∧ f' 16 = Value.int .i64 ((i101 : Int)) ∧ f' 17 = Value.bool (goal100) ∧ f' 90 = Value.int .i64 (y103) ∧ f' 91 = Value.int .i64 ((i101 : Int)) ∧ f' 100 = v102 ∧ f' 101 = Value.int .i64 ((t100.Goal.length : Int)) ∧ f' 102 = Value.int .i64 (k' : Int)) s') hB102 ?_ ?_ ?_)
   ·have hS166 := (hS165).f7
    have hS167 := (hS166).f7
    have hS168 := (hS167).f7
    have hS169 := (hS168).f3
    have hS170 := (hS169).f7
    have hS171 := (hS170).f7
    have hS172 := (hS171).f7
    have hS173 := (hS172).f7
    exact ⟨s114, (Zv _), hS173, p124, p125, p126, p127, p128, p129, rfl, rfl, p130, x105, rfl, rfl, rfl⟩
   ·intro i102 goal100 s116 f104 w125 hi102 hI103 hm102
    obtain ⟨s117, l119, hS174, p131, p132, p133, p134, p135, p136, p137, p138, p139, p140, p141, p142, x106⟩ := hI103
    refine Zc (Zd (Za rfl rfl (Zq rfl x106 p142 (Zb (Ze (Zc (W_true (congrArg Value.bool (decide_eq_true (by omega))) (W_skip (Ze (Zc ?_))))))))))
    refine W_block (Zc (Zd ?_))
    obtain ⟨x107, q116, hm102⟩ := Zg hm102
    refine Za rfl rfl (Exec.index_rep S52 rfl p141 x106 (a102.mono (Zt (Zt (Zt (Zt (Zt (Zt l100 l101) l102) l112) l116) l118) l119)) q116 ?_)
    intro b106 o101 a106
    refine Za rfl rfl (Zw (E := encFact) hS174 A82 rfl rfl rfl a106 ?_)
    intro v120 q117
    obtain rfl := encFact_val.1 q117
    refine Za rfl rfl (Exec.alloc (cs := [Value.int .i64 (0), Value.int .i64 (0)]) hS174 Z82 rfl rfl ?_)
    intro b107 w126 hS175
    refine Za rfl rfl (Exec.store_box (ds := [Value.int .i64 (x107.Var), Value.int .i64 (x107.Val)]) (es := [Value.int .i64 (x107.Var), Value.int .i64 (x107.Val)]) hS175 A82 rfl rfl rfl rfl (Zj rfl (Zj rfl one_nil)) (Nat.le_of_ble_eq_true rfl) rfl ?_)
    intro w127 hS176
    refine Zb (Ze ?_)
    obtain ⟨goal101, ht100, hm102⟩ := Zg hm102
    refine W_mid (M := fun f' w' => (fun (goal101 : Bool) => ∃ (s118 : PHeap) , PHeap.le s117 s118 ∧ St w0 s118 (Res.box b100 55 [v100, v101, v102, v103] :: Res.box b101 26 [Value.int .i64 (0), Value.int .i64 (0), Value.slice none 0 0, Value.slice none 0 0, Value.slice none 0 0] :: Res.box b102 26 [Value.int .i64 (y103), Value.int .i64 (y105), v109, v118, v119] :: Res.arr (encSlice (encInt .i64)) 22 v108 l104 :: Res.arr (encInt .i64) 3 v115 l117 :: Res.arr (encInt .i64) 3 v109 z100 :: Res.arr encEdge 66 v118 z104 :: Res.arr encBool 4 v119 z105 :: H) w' ∧ f' 1 = v104 ∧ f' 2 = Value.pointer (some ⟨b100, 0, none⟩) ∧ f' 4 = Value.pointer (some ⟨b101, 0, none⟩) ∧ f' 9 = Value.pointer (some ⟨b102, 0, none⟩) ∧ f' 10 = v108 ∧ f' 15 = v115 ∧ f' 16 = Value.int .i64 ((i101 : Int)) ∧ f' 17 = Value.bool (goal101) ∧ f' 90 = Value.int .i64 (y103) ∧ f' 91 = Value.int .i64 ((i101 : Int)) ∧ f' 100 = v102 ∧ f' 101 = Value.int .i64 ((t100.Goal.length : Int)) ∧ f' 102 = Value.int .i64 ((i102 : Int))) goal101) ?_ ?_
    ·refine W_dl (n0 := 18) (.q 0 (.q 1 (.q 2 (.q 3 (.q 4 (.e 5 [] (.q 6 (.q 7 (.q 8 (.q 9 (.q 10 (.q 11 (.q 12 (.q 13 (.q 14 (.q 15 (.q 16 (.q 17 .done)))))))))))))))))) hmix (by kernel_rfl) (by kernel_rfl) ?_
     have hS177 := hS176.drew
     refine DL_q rfl rfl (Zm (v := Value.bool (goal100)) rfl p138 ⟨rfl, ?_⟩)
     refine DL_q rfl rfl (Zm (v := Value.bool (goal100)) rfl rfl ⟨rfl, ?_⟩)
     rcases ite_some ht100 with ⟨hc104, ht100⟩ | ⟨hc104, ht100⟩
     ·refine DL_qg rfl rfl (Zf rfl (congrArg Value.bool hc104)) (Zm (v := v104) rfl p131 ⟨rfl, ?_⟩)
      refine DL_qg rfl rfl (Zf rfl (congrArg Value.bool hc104)) (Zp F82_0 rfl rfl rfl ⟨rfl, ?_⟩)
      refine DL_qg rfl rfl (Zf rfl (congrArg Value.bool hc104)) (Zn (hS177) A3 rfl rfl rfl ⟨rfl, ?_⟩)
      obtain ⟨y109, q118, ht100⟩ := Zg ht100
      refine DL_eg rfl rfl (Zf rfl (congrArg Value.bool hc104)) (Exec.call rfl rfl Try.func62 rfl N62 (Zi rfl (Zi rfl args_nil)) ((slices_Contains___int_int__sim q118 hS177 (a104.mono (Zt (Zt (Zt (Zt (Zt (Zt l100 l101) l102) l112) l116) l118) l119))).mono ?_))
      rintro _ w128 ⟨_, rfl, ⟨s119, l120, hS178, rfl⟩⟩
      refine ⟨_, rfl, ?_⟩
      refine ⟨ag_nil, ?_⟩
      refine DL_qg rfl rfl (Zf rfl (congrArg Value.bool hc104)) (Exec.not rfl rfl ⟨rfl, ?_⟩)
      refine DL_qg rfl rfl (Zf rfl (congrArg Value.bool hc104)) (Zm (v := Value.bool (!y109)) rfl rfl ⟨rfl, ?_⟩)
      rcases ite_some ht100 with ⟨hc105, ht100⟩ | ⟨hc105, ht100⟩
      ·refine DL_qp rfl rfl (Zf rfl (congrArg Value.bool hc105)) rfl (DL_qp rfl rfl (Zf rfl (congrArg Value.bool hc105)) rfl (DL_qp rfl rfl (Zf rfl (congrArg Value.bool hc105)) rfl (DL_qp rfl rfl (Zf rfl (congrArg Value.bool hc105)) rfl (DL_qp rfl rfl (Zf rfl (congrArg Value.bool hc105)) rfl (DL_qp rfl rfl (Zf rfl (congrArg Value.bool hc105)) rfl (DL_qp rfl rfl (Zf rfl (congrArg Value.bool hc105)) rfl (DL_qp rfl rfl (Zf rfl (congrArg Value.bool hc105)) rfl ?_)))))))
       refine DL_qg rfl rfl (Zf rfl (congrArg Value.bool hc104)) (Zs (v := Value.bool (true)) rfl (congrArg Value.bool hc105) rfl ⟨rfl, ?_⟩)
       refine DL_q rfl rfl (Zs (v := Value.bool (true)) rfl (congrArg Value.bool hc104) rfl ⟨rfl, ?_⟩)
       refine DL_done (Za rfl rfl (Zo (v := Value.bool (true)) rfl rfl (Zb (Ze ?_))))
       have e107 := Zu ht100
       subst goal101
       have hS179 := (hS178).drop
       have hS180 := (hS179).f7
       have hS181 := (hS180).f7
       have hS182 := (hS181).f7
       have hS183 := (hS182).f7
       have hS184 := (hS183).f7
       have hS185 := (hS184).f7
       have hS186 := (hS185).f7
       have hS187 := (hS186).f7
       exact ⟨s119, l120, hS187, p131, p132, p133, p134, p135, p136, p137, rfl, p139, p140, p141, p142, x106⟩
      replace hc105 := Zk hc105
      refine DL_qg rfl rfl (Zf rfl (congrArg Value.bool hc105)) (Zm (v := v115) rfl p136 ⟨rfl, ?_⟩)
      refine DL_qg rfl rfl (Zf rfl (congrArg Value.bool hc105)) (Zp F82_0 rfl rfl rfl ⟨rfl, ?_⟩)
      refine DL_qg rfl rfl (Zf rfl (congrArg Value.bool hc105)) (Zn (hS178) A3 rfl rfl rfl ⟨rfl, ?_⟩)
      obtain ⟨x108, q119, ht100⟩ := Zg ht100
      obtain ⟨g102, c106, e108⟩ := ((hS178).f5).arr_at q119
      refine DL_qg rfl rfl (Zf rfl (congrArg Value.bool hc105)) (Exec.index_slice S22 rfl e108 rfl (idx_some q119).1 (idx_some q119).2.1 ⟨rfl, ?_⟩)
      refine DL_qg rfl rfl (Zf rfl (congrArg Value.bool hc105)) (Exec.load_arr (F := (encInt .i64)) ((hS178).f5) e108 A3 rfl rfl rfl q119 (Sub.refl _) ?_)
      intro v121 q120
      obtain rfl := encInt_val.1 q120
      refine ⟨rfl, ?_⟩
      refine DL_qg rfl rfl (Zf rfl (congrArg Value.bool hc105)) (Zp F82_1 rfl rfl rfl ⟨rfl, ?_⟩)
      refine DL_qg rfl rfl (Zf rfl (congrArg Value.bool hc105)) (Zn (hS178) A3 rfl rfl rfl ⟨rfl, ?_⟩)
      refine DL_qg rfl rfl (Zf rfl (congrArg Value.bool hc105)) (Exec.eql rfl rfl rfl ⟨rfl, ?_⟩)
      refine DL_qg rfl rfl (Zf rfl (congrArg Value.bool hc104)) (Exec.pick_f (v := Value.bool (decide (x108 = x107.Val))) rfl (congrArg Value.bool hc105) rfl ⟨rfl, ?_⟩)
      refine DL_q rfl rfl (Zs (v := Value.bool (decide (x108 = x107.Val))) rfl (congrArg Value.bool hc104) rfl ⟨rfl, ?_⟩)
      refine DL_done (Za rfl rfl (Zo (v := Value.bool (decide (x108 = x107.Val))) rfl rfl (Zb (Ze ?_))))
      have e109 := Zu ht100
      subst goal101
      have hS188 := (hS178).drop
      have hS189 := (hS188).f7
      have hS190 := (hS189).f7
      have hS191 := (hS190).f7
      have hS192 := (hS191).f7
      have hS193 := (hS192).f7
      have hS194 := (hS193).f7
      have hS195 := (hS194).f7
      have hS196 := (hS195).f7
      exact ⟨s119, l120, hS196, p131, p132, p133, p134, p135, p136, p137, rfl, p139, p140, p141, p142, x106⟩
     replace hc104 := Zk hc104
     refine DL_qp rfl rfl (Zf rfl (congrArg Value.bool hc104)) rfl (DL_qp rfl rfl (Zf rfl (congrArg Value.bool hc104)) rfl (DL_qp rfl rfl (Zf rfl (congrArg Value.bool hc104)) rfl (DL_ep rfl rfl (Zf rfl (congrArg Value.bool hc104)) rfl (DL_qp rfl rfl (Zf rfl (congrArg Value.bool hc104)) rfl (DL_qp rfl rfl (Zf rfl (congrArg Value.bool hc104)) rfl (DL_qn rfl rfl (Zh rfl rfl) (DL_qn rfl rfl (Zh rfl rfl) ?_)))))))
     refine DL_qn rfl rfl (Zh rfl rfl) (DL_qn rfl rfl (Zh rfl rfl) (DL_qn rfl rfl (Zh rfl rfl) (DL_qn rfl rfl (Zh rfl rfl) (DL_qn rfl rfl (Zh rfl rfl) (DL_qn rfl rfl (Zh rfl rfl) (DL_qp rfl rfl (Zf rfl (congrArg Value.bool hc104)) rfl (DL_q rfl rfl (Exec.pick_f (v := Value.bool (false)) rfl (congrArg Value.bool hc104) rfl ⟨rfl, ?_⟩))))))))
     refine DL_done (Za rfl rfl (Zo (v := Value.bool (false)) rfl rfl (Zb (Ze ?_))))
     have e110 := Zu ht100
     subst goal101
     have hS197 := (hS177).drop
     have hS198 := (hS197).f7
     have hS199 := (hS198).f7
     have hS200 := (hS199).f7
     have hS201 := (hS200).f7
     have hS202 := (hS201).f7
     have hS203 := (hS202).f7
     have hS204 := (hS203).f7
     have hS205 := (hS204).f7
     exact ⟨s117, (Zv _), hS205, p131, p132, p133, p134, p135, p136, p137, rfl, p139, p140, p141, p142, x106⟩
    intro f105 w129 hM101
    obtain ⟨s120, l121, hS206, p143, p144, p145, p146, p147, p148, p149, p150, p151, p152, p153, p154, p155⟩ := hM101
    refine (ib_normal (Ze (Zd (Za rfl rfl (Exec.add rfl p155 rfl (Za rfl rfl (Zm (v := Value.int .i64 (IntKind.i64.wrap ((i102 : Int) + 1))) rfl rfl (Zb (Ze ?_)))))))))
    have e111 := Zu hm102
    subst s116
    have hS207 := (hS206).f7
    have hS208 := (hS207).f7
    have hS209 := (hS208).f7
    have hS210 := (hS209).f7
    have hS211 := (hS210).f7
    have hS212 := (hS211).f7
    have hS213 := (hS212).f7
    have hS214 := (hS213).f7
    exact ⟨s120, (Zt l119 l121), hS214, p143, p144, p145, p146, p147, p148, p149, p150, p151, p152, p153, p154, (Eq.trans rfl (wrap_up hi102 (SliceRep.le (a102.mono (Zt (Zt (Zt (Zt (Zt l100 l101) l102) l112) l116) l118)))))⟩
   intro f106 w130 hI104
   obtain ⟨s121, l122, hS215, p156, p157, p158, p159, p160, p161, p162, p163, p164, p165, p166, p167, x109⟩ := hI104
   refine Zc (Zd (Za rfl rfl (Zq rfl x109 p167 (Zb (Ze (Zc (W_false (congrArg Value.bool (decide_eq_false (by omega))) (W_exit (at_exit (at_exit (ib_here (Ze (Zc ?_)))))))))))))
   refine Zd (Za rfl rfl (Zp F26_4 rfl p159 rfl (Za rfl rfl (Zn ((hS215).f2) A24 rfl rfl rfl (Za rfl rfl (Zm (v := Value.bool (goal100)) rfl p163 (Za rfl rfl (Exec.buildSlice (Te := 4) (cs := [Value.bool (goal100)]) hS215 rfl (parts_cons (c := [Value.bool (goal100)]) (cells_of rfl rfl) parts_nil) (fun _ => by kernel_rfl) ?_))))))))
   intro b108 w131 hS216
   obtain ⟨l123, q121, hm101⟩ := Zg hm101
   have hS217 := (hS216).f8
   refine Za rfl rfl (Exec.append_box (E := encBool) (ys := [goal100]) hS217 S24 Z4 rfl (by decide) rfl rfl rfl rfl ⟨[Value.bool (goal100)], [], rfl, rfl, rfl⟩ rfl q121 ?_)
   intro v122 w132 hS218
   refine Za rfl rfl (Zp F26_4 rfl p159 rfl ?_)
   have hS219 := (hS218).f3
   refine Za rfl rfl (Exec.store_box (ds := [v122]) (es := [Value.int .i64 (y103), Value.int .i64 (y105), v109, v118, v122]) hS219 A24 rfl rfl rfl (cells_one ((hS219).f1).arr_one) (Zj ((hS219).f1).arr_one one_nil) (Nat.le_of_ble_eq_true rfl) rfl ?_)
   intro w133 hS220
   refine Zb (Ze (Zc (Zd (Za rfl rfl (Zp F55_3 rfl p157 rfl (Za rfl rfl (Zn ((hS220).f2) A53 rfl rfl rfl (Za rfl rfl (Zr S53 rfl rfl (a103.mono (Zt (Zt (Zt (Zt (Zt (Zt l100 l101) l102) l112) l116) l118) l122)) (Za rfl rfl (Zm (v := Value.int .i64 (0)) rfl rfl (Zb (Ze ?_)))))))))))))
   obtain ⟨c107, hB103, hr102, hn102, hb102⟩ := ctl_some hm101
   refine W_mid (M := fun f' w' => ∃ s', (c107 = .next s' ∨ c107 = .brk s') ∧ (fun (l124 : (List Edge)) => ∃ (s122 : PHeap) (v123 : Value), PHeap.le s121 s122 ∧ St w0 s122 (Res.box b100 55 [v100, v101, v102, v103] :: Res.box b101 26 [Value.int .i64 (0), Value.int .i64 (0), Value.slice none 0 0, Value.slice none 0 0, Value.slice none 0 0] :: Res.box b102 26 [Value.int .i64 (y103), Value.int .i64 (y105), v109, v123, v122] :: Res.arr (encSlice (encInt .i64)) 22 v108 l104 :: Res.arr (encInt .i64) 3 v115 l117 :: Res.arr (encInt .i64) 3 v109 z100 :: Res.arr encEdge 66 v123 l124 :: Res.arr encBool 4 v122 l123 :: H) w' ∧ f' 1 = v104 ∧ f' 2 = Value.pointer (some ⟨b100, 0, none⟩) ∧ f' 4 = Value.pointer (some ⟨b101, 0, none⟩) ∧ f' 9 = Value.pointer (some ⟨b102, 0, none⟩) ∧ f' 10 = v108 ∧ f' 15 = v115 ∧ f' 16 = Value.int .i64 ((i101 : Int)) ∧ f' 90 = Value.int .i64 (y103) ∧ f' 91 = Value.int .i64 ((i101 : Int)) ∧ f' 133 = Value.int .i64 ((t100.Ops.length : Int))) s') ?_ ?_
   ·refine W_block (W_forC (fun k' s' f' w' => (fun (l125 : (List Edge)) => ∃ (s123 : PHeap) (v124 : Value), PHeap.le s121 s123 ∧ St w0 s123 (Res.box b100 55 [v100, v101, v102, v103] :: Res.box b101 26 [Value.int .i64 (0), Value.int .i64 (0), Value.slice none 0 0, Value.slice none 0 0, Value.slice none 0 0] :: Res.box b102 26 [Value.int .i64 (y103), Value.int .i64 (y105), v109, v124, v122] :: Res.arr (encSlice (encInt .i64)) 22 v108 l104 :: Res.arr (encInt .i64) 3 v115 l117 :: Res.arr (encInt .i64) 3 v109 z100 :: Res.arr encEdge 66 v124 l125 :: Res.arr encBool 4 v122 l123 :: H) w' ∧ f' 1 = v104 ∧ f' 2 = Value.pointer (some ⟨b100, 0, none⟩) ∧ f' 4 = Value.pointer (some ⟨b101, 0, none⟩) ∧ f' 9 = Value.pointer (some ⟨b102, 0, none⟩) ∧ f' 10 = v108 ∧ f' 15 = v115 ∧ f' 16 = Value.int .i64 ((i101 : Int)) ∧ f' 90 = Value.int .i64 (y103) ∧ f' 91 = Value.int .i64 ((i101 : Int)) ∧ f' 133 = Value.int .i64 ((t100.Ops.length : Int)) ∧ f' 134 = Value.int .i64 (k' : Int)) s') hB103 ?_ ?_ ?_)
    ·have hS221 := (hS220).f1
     have hS222 := (hS221).f7
     have hS223 := (hS222).f7
     have hS224 := (hS223).f7
     have hS225 := (hS224).f7
     have hS226 := (hS225).f5
     have hS227 := (hS226).f7
     have hS228 := (hS227).f7
     exact ⟨s121, v118, (Zv _), hS228, p156, p157, p158, p159, p160, p161, p162, p164, p165, rfl, rfl⟩
    ·intro i103 l125 c108 f107 w134 hi103 hI105 hm103 hres103
     obtain ⟨s124, v124, l126, hS229, p168, p169, p170, p171, p172, p173, p174, p175, p176, p177, x110⟩ := hI105
     refine Zc (Zd (Za rfl rfl (Zq rfl x110 p177 (Zb (Ze (Zc (W_true (congrArg Value.bool (decide_eq_true (by omega))) (W_skip (Ze (Zc ?_))))))))))
     refine W_block (Zc (Zd (Za rfl rfl (Zm (v := Value.int .i64 ((i103 : Int))) rfl x110 (Za rfl rfl (Zo (v := Value.int .i64 ((i103 : Int))) rfl rfl (Zb (Ze (Zc (W_dl (n0 := 11) (.q 0 (.q 1 (.q 2 (.q 3 (.q 4 (.q 5 (.q 6 (.q 7 (.q 10 (.e 8 [10] (.q 9 .done))))))))))) hmix (by kernel_rfl) (by kernel_rfl) ?_))))))))))
     have hS230 := hS229.drew
     refine DL_q rfl rfl (Exec.load_box_agg (ds := [v100, v101, v102, v103]) (hS230) A55 rfl p169 rfl ⟨rfl, ?_⟩)
     refine DL_q rfl rfl (Zm (v := Value.int .i64 ((i103 : Int))) rfl rfl ⟨rfl, ?_⟩)
     refine DL_q rfl rfl (Zm (v := v104) rfl p168 ⟨rfl, ?_⟩)
     refine DL_q rfl rfl (Zm (v := v108) rfl p172 ⟨rfl, ?_⟩)
     refine DL_q rfl rfl (Zm (v := Value.int .i64 ((i103 : Int))) rfl rfl ⟨rfl, ?_⟩)
     obtain ⟨x111, q122, hm103⟩ := Zg hm103
     obtain ⟨g103, c109, e112⟩ := ((hS230).f3).arr_at q122
     refine DL_q rfl rfl (Exec.index_slice S83 rfl e112 rfl (idx_some q122).1 (idx_some q122).2.1 ⟨rfl, ?_⟩)
     refine DL_q rfl rfl (Exec.load_arr (F := (encSlice (encInt .i64))) ((hS230).f3) e112 A22 rfl rfl rfl q122 (Sub.refl _) ?_)
     intro v125 q123
     have r104 := encSlice_val.1 q123
     refine ⟨rfl, ?_⟩
     refine DL_q rfl rfl (Zm (v := Value.int .i64 ((i101 : Int))) rfl p174 ⟨rfl, ?_⟩)
     refine DL_q rfl rfl (Zm (v := Value.int .i64 (0)) rfl rfl ⟨rfl, ?_⟩)
     obtain ⟨y110, q124, hm103⟩ := Zg hm103
     refine DL_e rfl rfl (Exec.call rfl rfl Try.func63 rfl N63 (Zi rfl (Zi rfl (Zi rfl (Zi rfl (Zi rfl args_nil))))) ((project_targets_sim q124 hS230 (a100.mono (Zt (Zt (Zt (Zt (Zt (Zt (Zt l100 l101) l102) l112) l116) l118) l122) l126)) (a101.mono (Zt (Zt (Zt (Zt (Zt (Zt (Zt l100 l101) l102) l112) l116) l118) l122) l126)) (a102.mono (Zt (Zt (Zt (Zt (Zt (Zt (Zt l100 l101) l102) l112) l116) l118) l122) l126)) (a103.mono (Zt (Zt (Zt (Zt (Zt (Zt (Zt l100 l101) l102) l112) l116) l118) l122) l126)) (a104.mono (Zt (Zt (Zt (Zt (Zt (Zt (Zt l100 l101) l102) l112) l116) l118) l122) l126)) r104).mono ?_))
     rintro _ w135 ⟨v126, rfl, ⟨s125, _, l127, hS231, rfl, r105⟩⟩
     refine ⟨_, rfl, ?_⟩
     refine ⟨(ag_cons (ag_r rfl rfl (Zm (v := Value.int .i64 (0)) rfl rfl ⟨rfl, rfl⟩)) ag_nil), ?_⟩
     refine DL_q rfl rfl (Zr S22 rfl rfl r105 ⟨rfl, ?_⟩)
     refine DL_done (Zb (Ze ?_))
     obtain ⟨c110, hB104, hr103, hn103, hb103⟩ := ctl_some hm103
     refine W_mid (M := fun f' w' => ∃ s', (c110 = .next s' ∨ c110 = .brk s') ∧ (fun (l128 : (List Edge)) => ∃ (s126 : PHeap) (v127 : Value), PHeap.le s125 s126 ∧ St w0 s126 (Res.box b100 55 [v100, v101, v102, v103] :: Res.box b101 26 [Value.int .i64 (0), Value.int .i64 (0), Value.slice none 0 0, Value.slice none 0 0, Value.slice none 0 0] :: Res.box b102 26 [Value.int .i64 (y103), Value.int .i64 (y105), v109, v127, v122] :: Res.arr (encSlice (encInt .i64)) 22 v108 l104 :: Res.arr (encInt .i64) 3 v115 l117 :: Res.arr (encInt .i64) 3 v109 z100 :: Res.arr encEdge 66 v127 l128 :: Res.arr encBool 4 v122 l123 :: H) w' ∧ f' 1 = v104 ∧ f' 2 = Value.pointer (some ⟨b100, 0, none⟩) ∧ f' 4 = Value.pointer (some ⟨b101, 0, none⟩) ∧ f' 9 = Value.pointer (some ⟨b102, 0, none⟩) ∧ f' 10 = v108 ∧ f' 15 = v115 ∧ f' 16 = Value.int .i64 ((i101 : Int)) ∧ f' 20 = Value.int .i64 ((i103 : Int)) ∧ f' 90 = Value.int .i64 (y103) ∧ f' 91 = Value.int .i64 ((i101 : Int)) ∧ f' 133 = Value.int .i64 ((t100.Ops.length : Int)) ∧ f' 134 = Value.int .i64 ((i103 : Int)) ∧ f' 145 = v126 ∧ f' 146 = Value.int .i64 ((y110.length : Int))) s') ?_ ?_
     ·refine W_block (W_forC (fun k' s' f' w' => (fun (l129 : (List Edge)) => ∃ (s127 : PHeap) (v128 : Value), PHeap.le s125 s127 ∧ St w0 s127 (Res.box b100 55 [v100, v101, v102, v103] :: Res.box b101 26 [Value.int .i64 (0), Value.int .i64 (0), Value.slice none 0 0, Value.slice none 0 0, Value.slice none 0 0] :: Res.box b102 26 [Value.int .i64 (y103), Value.int .i64 (y105), v109, v128, v122] :: Res.arr (encSlice (encInt .i64)) 22 v108 l104 :: Res.arr (encInt .i64) 3 v115 l117 :: Res.arr (encInt .i64) 3 v109 z100 :: Res.arr encEdge 66 v128 l129 :: Res.arr encBool 4 v122 l123 :: H) w' ∧ f' 1 = v104 ∧ f' 2 = Value.pointer (some ⟨b100, 0, none⟩) ∧ f' 4 = Value.pointer (some ⟨b101, 0, none⟩) ∧ f' 9 = Value.pointer (some ⟨b102, 0, none⟩) ∧ f' 10 = v108 ∧ f' 15 = v115 ∧ f' 16 = Value.int .i64 ((i101 : Int)) ∧ f' 20 = Value.int .i64 ((i103 : Int)) ∧ f' 90 = Value.int .i64 (y103) ∧ f' 91 = Value.int .i64 ((i101 : Int)) ∧ f' 133 = Value.int .i64 ((t100.Ops.length : Int)) ∧ f' 134 = Value.int .i64 ((i103 : Int)) ∧ f' 145 = v126 ∧ f' 146 = Value.int .i64 ((y110.length : Int)) ∧ f' 147 = Value.int .i64 (k' : Int)) s') hB104 ?_ ?_ ?_)
      ·have hS232 := (hS231).f7
       have hS233 := (hS232).f7
       have hS234 := (hS233).f7
       have hS235 := (hS234).f7
       have hS236 := (hS235).f7
       have hS237 := (hS236).f7
       have hS238 := (hS237).f7
       have hS239 := (hS238).f7
       exact ⟨s125, v124, (Zv _), hS239, p168, p169, p170, p171, p172, p173, p174, rfl, p175, p176, p177, x110, rfl, rfl, rfl⟩
      ·intro i104 l129 c111 f108 w136 hi104 hI106 hm104 hres104
       obtain ⟨s128, v128, l130, hS240, p178, p179, p180, p181, p182, p183, p184, p185, p186, p187, p188, p189, p190, p191, x112⟩ := hI106
       refine Zc (Zd (Za rfl rfl (Zq rfl x112 p191 (Zb (Ze (Zc (W_true (congrArg Value.bool (decide_eq_true (by omega))) (W_skip (Ze (Zc ?_))))))))))
       refine W_block (Zc (Zd ?_))
       obtain ⟨x113, q125, hm104⟩ := Zg hm104
       refine Za rfl rfl (Exec.index_rep S22 rfl p190 x112 (r105.mono l130) q125 ?_)
       intro b109 o102 a107
       refine Za rfl rfl (Zw (E := (encInt .i64)) hS240 A3 rfl rfl rfl a107 ?_)
       intro v129 q126
       obtain rfl := encInt_val.1 q126
       refine Za rfl rfl (Zo (v := Value.int .i64 (x113)) rfl rfl (Zb (Ze (Zc (Zc (Zd (Za rfl rfl (Zp F26_3 rfl p181 rfl (Za rfl rfl (Zn ((hS240).f2) A23 rfl rfl rfl (Za rfl rfl (Exec.len_arr ((hS240).f6) S23 rfl rfl ?_))))))))))))
       refine Za rfl rfl (Exec.eql rfl rfl rfl (Zb (Ze ?_)))
       rcases ite_some hm104 with ⟨hc106, hm104⟩ | ⟨hc106, hm104⟩
       ·refine W_cond_t rfl hc106 (Zc (Zd (Za rfl rfl (Exec.build rfl parts_nil (v := Value.agg #[Value.int .i64 (0), Value.int .i64 (0), Value.slice none 0 0, Value.slice none 0 0, Value.slice none 0 0]) (fun _ => by kernel_rfl) (Za rfl rfl (Exec.makeInterface C39 rfl rfl ?_))))))
        have hS241 := (hS240).f1
        refine Za rfl rfl (Exec.store_box (ds := [Value.int .i64 (0), Value.int .i64 (0), Value.slice none 0 0, Value.slice none 0 0, Value.slice none 0 0]) (es := [Value.int .i64 (0), Value.int .i64 (0), Value.slice none 0 0, Value.slice none 0 0, Value.slice none 0 0]) hS241 A26 rfl p180 rfl rfl (Zj rfl (Zj rfl (Zj rfl (Zj rfl (Zj rfl one_nil))))) (Nat.le_of_ble_eq_true rfl) rfl ?_)
        intro w137 hS242
        refine Za rfl rfl (Zo (v := errV 39 (some 5)) rfl rfl (Zb (Ze (W_ret (at_ret (ib_ret (at_ret (at_ret (ib_ret (at_ret (ib_ret (at_ret (at_ret (ib_ret (at_ret (ib_ret (at_ret (at_ret (ib_ret (at_ret (at_ret ?_)))))))))))))))))))))
        have e113 := Zu hm104
        subst c111
        have hq101 := hr103 _ (hres104 (by intro _ h; cases h))
        have e114 := Zu hq101
        subst c108
        have hq102 := hr102 _ (hres103 (by intro _ h; cases h))
        have e115 := Zu hq102
        subst c105
        have hq103 := hr101 _ (hres102 (by intro _ h; cases h))
        have e116 := Zu hq103
        subst r
        refine ⟨_, retG2 rfl ⟨_, _, p180, cellRes (hS242) A26⟩ rfl, ?_⟩
        have hS243 := (hS242).drop
        have hS244 := (hS243).drop
        have hS245 := (hS244).drop
        have hS246 := (hS245).drop
        have hS247 := (hS246).drop
        have hS248 := (hS247).drop
        have hS249 := (hS248).drop
        have hS250 := (hS249).drop
        exact ⟨s128, (Value.slice none 0 0), (Value.slice none 0 0), (Value.slice none 0 0), (Zt (Zt (Zt (Zt (Zt (Zt (Zt (Zt (Zt l100 l101) l102) l112) l116) l118) l122) l126) l127) l130), hS250, (tup2 rfl rfl), (SliceRep.nil _ _), (SliceRep.nil _ _), (SliceRep.nil _ _)⟩
       refine W_cond_f rfl hc106 ?_
       replace hc106 := Zk hc106
       refine W_skip (Ze (Zd (Za rfl rfl (Zp F26_3 rfl p181 rfl (Za rfl rfl (Zn ((hS240).f2) A23 rfl rfl rfl (Za rfl rfl (Zm (v := Value.int .i64 ((i101 : Int))) rfl p184 (Za rfl rfl (Zm (v := Value.int .i64 ((i103 : Int))) rfl p185 (Za rfl rfl (Zm (v := Value.int .i64 (x113)) rfl rfl (Za rfl rfl (Exec.build rfl (parts_cons (c := [Value.int .i64 ((i101 : Int))]) (cells_of rfl rfl) (parts_cons (c := [Value.int .i64 ((i103 : Int))]) (cells_of rfl rfl) (parts_cons (c := [Value.int .i64 (x113)]) (cells_of rfl rfl) parts_nil))) (v := Value.agg #[Value.int .i64 ((i101 : Int)), Value.int .i64 ((i103 : Int)), Value.int .i64 (x113)]) (fun _ => by kernel_rfl) ?_))))))))))))))
       refine Za rfl rfl (Exec.buildSlice (Te := 66) (cs := [Value.int .i64 ((i101 : Int)), Value.int .i64 ((i103 : Int)), Value.int .i64 (x113)]) hS240 rfl (parts_cons (c := [Value.int .i64 ((i101 : Int)), Value.int .i64 ((i103 : Int)), Value.int .i64 (x113)]) (cells_of rfl rfl) parts_nil) (fun _ => by kernel_rfl) ?_)
       intro b110 w138 hS251
       obtain ⟨l131, q127, hm104⟩ := Zg hm104
       have hS252 := (hS251).f7
       refine Za rfl rfl (Exec.append_box (E := encEdge) (ys := [(⟨(i101 : Int), (i103 : Int), x113⟩ : Edge)]) hS252 S23 Z66 rfl (by decide) rfl rfl rfl rfl ⟨[Value.int .i64 ((i101 : Int)), Value.int .i64 ((i103 : Int)), Value.int .i64 (x113)], [], rfl, ⟨[Value.int .i64 ((i101 : Int))], [Value.int .i64 ((i103 : Int)), Value.int .i64 (x113)], rfl, rfl, ⟨[Value.int .i64 ((i103 : Int))], [Value.int .i64 (x113)], rfl, rfl, rfl⟩⟩, rfl⟩ rfl q127 ?_)
       intro v130 w139 hS253
       refine Za rfl rfl (Zp F26_3 rfl p181 rfl ?_)
       have hS254 := (hS253).f3
       refine Za rfl rfl (Exec.store_box (ds := [v130]) (es := [Value.int .i64 (y103), Value.int .i64 (y105), v109, v130, v122]) hS254 A23 rfl rfl rfl (cells_one ((hS254).f1).arr_one) (Zj ((hS254).f1).arr_one one_nil) (Nat.le_of_ble_eq_true rfl) rfl ?_)
       intro w140 hS255
       refine Zb (ib_normal (Ze (Zd (Za rfl rfl (Exec.add rfl x112 rfl (Za rfl rfl (Zm (v := Value.int .i64 (IntKind.i64.wrap ((i104 : Int) + 1))) rfl rfl (Zb (Ze ?_)))))))))
       have e117 := Zu hm104
       subst c111
       have hS256 := (hS255).f7
       have hS257 := (hS256).f2
       have hS258 := (hS257).f7
       have hS259 := (hS258).f7
       have hS260 := (hS259).f7
       have hS261 := (hS260).f5
       have hS262 := (hS261).f7
       have hS263 := (hS262).f7
       refine ⟨_, rfl, ?_⟩; exact ⟨s128, v130, l130, hS263, p178, p179, p180, p181, p182, p183, p184, p185, p186, p187, p188, p189, p190, p191, (Eq.trans rfl (wrap_up hi104 (SliceRep.le r105)))⟩
      intro l129 f109 w141 hI107 hres105
      obtain ⟨s129, v128, l132, hS264, p192, p193, p194, p195, p196, p197, p198, p199, p200, p201, p202, p203, p204, p205, x114⟩ := hI107
      refine Zc (Zd (Za rfl rfl (Zq rfl x114 p205 (Zb (Ze (Zc (W_false (congrArg Value.bool (decide_eq_false (by omega))) (W_exit (at_exit (at_exit (ib_here (Ze ?_))))))))))))
      have hS265 := (hS264).f7
      have hS266 := (hS265).f7
      have hS267 := (hS266).f7
      have hS268 := (hS267).f7
      have hS269 := (hS268).f7
      have hS270 := (hS269).f7
      have hS271 := (hS270).f7
      have hS272 := (hS271).f7
      refine ⟨_, .inl hres105, ?_⟩; exact ⟨s129, v128, l132, hS272, p192, p193, p194, p195, p196, p197, p198, p199, p200, p201, p202, p203, p204, p205⟩
     rintro f110 w142 ⟨l128, hc107, hM102⟩
     have hm103 := hc107.elim (hn103 _) (hb103 _)
     clear hc107
     obtain ⟨s130, v127, l133, hS273, p206, p207, p208, p209, p210, p211, p212, p213, p214, p215, p216, p217, p218, p219⟩ := hM102
     refine (ib_normal (Ze (Zd (Za rfl rfl (Exec.add rfl p217 rfl (Za rfl rfl (Zm (v := Value.int .i64 (IntKind.i64.wrap ((i103 : Int) + 1))) rfl rfl (Zb (Ze ?_)))))))))
     have e118 := Zu hm103
     subst c108
     have hS274 := (hS273).f7
     have hS275 := (hS274).f7
     have hS276 := (hS275).f7
     have hS277 := (hS276).f7
     have hS278 := (hS277).f7
     have hS279 := (hS278).f7
     have hS280 := (hS279).f7
     have hS281 := (hS280).f7
     refine ⟨_, rfl, ?_⟩; exact ⟨s130, v127, (Zt (Zt l126 l127) l133), hS281, p206, p207, p208, p209, p210, p211, p212, p214, p215, p216, (Eq.trans rfl (wrap_up hi103 (SliceRep.le (a103.mono (Zt (Zt (Zt (Zt (Zt (Zt l100 l101) l102) l112) l116) l118) l122)))))⟩
    intro l125 f111 w143 hI108 hres106
    obtain ⟨s131, v124, l134, hS282, p220, p221, p222, p223, p224, p225, p226, p227, p228, p229, x115⟩ := hI108
    refine Zc (Zd (Za rfl rfl (Zq rfl x115 p229 (Zb (Ze (Zc (W_false (congrArg Value.bool (decide_eq_false (by omega))) (W_exit (at_exit (at_exit (ib_here (Ze ?_))))))))))))
    have hS283 := (hS282).f7
    have hS284 := (hS283).f7
    have hS285 := (hS284).f7
    have hS286 := (hS285).f7
    have hS287 := (hS286).f7
    have hS288 := (hS287).f7
    have hS289 := (hS288).f7
    have hS290 := (hS289).f7
    refine ⟨_, .inl hres106, ?_⟩; exact ⟨s131, v124, l134, hS290, p220, p221, p222, p223, p224, p225, p226, p227, p228, p229⟩
   rintro f112 w144 ⟨l124, hc108, hM103⟩
   have hm101 := hc108.elim (hn102 _) (hb102 _)
   clear hc108
   obtain ⟨s132, v123, l135, hS291, p230, p231, p232, p233, p234, p235, p236, p237, p238, p239⟩ := hM103
   refine (ib_normal (Ze (Zd (Za rfl rfl (Exec.add rfl p238 rfl (Za rfl rfl (Zm (v := Value.int .i64 (IntKind.i64.wrap ((i101 : Int) + 1))) rfl rfl (Zb (Ze ?_)))))))))
   have e119 := Zu hm101
   subst c105
   have hS292 := (hS291).f7
   have hS293 := (hS292).f7
   have hS294 := (hS293).f7
   have hS295 := (hS294).f7
   have hS296 := (hS295).f7
   have hS297 := (hS296).f7
   have hS298 := (hS297).f7
   have hS299 := (hS298).f7
   refine ⟨_, rfl, ?_⟩; exact ⟨s132, v123, v122, (Zt (Zt (Zt l116 l118) l122) l135), hS299, p230, p231, p232, p233, p234, p235, p237, (Eq.trans rfl (wrap_up hi101 (by have h := must_some q114; simp at h; simp only [maxLen]; omega)))⟩
  intro t107 f113 w145 hI109 hres107
  obtain ⟨z104, z105, l115⟩ := t107
  obtain ⟨s133, v118, v119, l136, hS300, p240, p241, p242, p243, p244, p245, p246, x116⟩ := hI109
  refine Zc (Zd (Za rfl rfl (Zq rfl x116 p246 (Zb (Ze (Zc (W_false (congrArg Value.bool (decide_eq_false (by omega))) (W_exit (at_exit (at_exit (ib_here (Ze ?_))))))))))))
  have hS301 := (hS300).f7
  have hS302 := (hS301).f7
  have hS303 := (hS302).f7
  have hS304 := (hS303).f7
  have hS305 := (hS304).f7
  have hS306 := (hS305).f7
  have hS307 := (hS306).f7
  have hS308 := (hS307).f7
  refine ⟨_, .inl hres107, ?_⟩; exact ⟨s133, v118, v119, l136, hS308, p240, p241, p242, p243, p244, p245, p246⟩
 rintro f114 w146 ⟨t108, hc109, hM104⟩
 have hm := hc109.elim (hn101 _) (hb101 _)
 clear hc109
 obtain ⟨z102, z103, l114⟩ := t108
 replace hm := un3_eq hm
 obtain ⟨s134, v116, v117, l137, hS309, p247, p248, p249, p250, p251, p252, p253⟩ := hM104
 refine (Ze (Zc (Zd (Za rfl rfl (Exec.load_box_agg (ds := [Value.int .i64 (y103), Value.int .i64 (y105), v109, v116, v117]) ((hS309).f2) A26 rfl p250 rfl ?_)))))
 have hS310 := (hS309).f1
 refine Za rfl rfl (Exec.store_box (ds := [Value.int .i64 (y103), Value.int .i64 (y105), v109, v116, v117]) (es := [Value.int .i64 (y103), Value.int .i64 (y105), v109, v116, v117]) hS310 A26 rfl p249 rfl rfl (Zj rfl (Zj rfl (Zj ((hS310).f5).arr_one (Zj ((hS310).f6).arr_one (Zj ((hS310).f7).arr_one one_nil))))) (Nat.le_of_ble_eq_true rfl) rfl ?_)
 intro w147 hS311
 refine Za rfl rfl (Zo (v := errV 39 (none)) rfl rfl (Zb (Ze (W_ret ?_))))
 have e120 := Zu hm
 subst r
 refine ⟨_, retG2 rfl ⟨_, _, p249, cellRes (hS311) A26⟩ rfl, ?_⟩
 have hS312 := (hS311).f5
 obtain ⟨s135, l138, hS313, r106⟩ := hS312.freezeArr
 have hS314 := (hS313).f5
 obtain ⟨s136, l139, hS315, r107⟩ := hS314.freezeArr
 have hS316 := (hS315).f5
 obtain ⟨s137, l140, hS317, r108⟩ := hS316.freezeArr
 have hS318 := (hS317).drop
 have hS319 := (hS318).drop
 have hS320 := (hS319).drop
 have hS321 := (hS320).drop
 have hS322 := (hS321).drop
 exact ⟨s137, v109, v116, v117, (Zt (Zt (Zt (Zt (Zt (Zt (Zt l100 l101) l102) l112) l137) l138) l139) l140), hS322, (tup2 rfl rfl), (r106.mono (Zt l139 l140)), (r107.mono l140), r108⟩
theorem N28 : (Try.f28.name == "runtime.NumGoroutine") = false := by kernel_rfl
theorem transys_Atomic_sim {w0 w : World} {s : PHeap} {H : List Res} {t100 : Task} {v100 : Int} {v101 : Value} {v102 : Value} {v103 : Value} {v104 : Value} {r : (Option Int) × System} (hm : transys_Atomic_p t100 v100 = some r) (hS : St w0 s (H) w) (a100 : SliceRep (encInt .i64) s v101 t100.Vars) (a101 : SliceRep (encInt .i64) s v102 t100.Init) (a102 : SliceRep encFact s v103 t100.Goal) (a103 : SliceRep encOp s v104 t100.Ops) :
  Calls Try.prog 28 #[Value.agg #[v101, v102, v103, v104], Value.int .i64 (v100)] w fun e w' => ∃ v, e = .returned v ∧ ((un2 fun (y100 : (Option Int)) (y101 : System) => ∃ (s100 : PHeap) (v105 : Value) (v106 : Value) (v107 : Value), PHeap.le s s100 ∧ St w0 s100 (H) w' ∧ v = Value.tuple #[Value.agg #[Value.int .i64 (y101.States), Value.int .i64 (y101.Init), v105, v106, v107], errV 39 (y100)] ∧ SliceRep (encInt .i64) s100 v105 y101.Costs ∧ SliceRep encEdge s100 v106 y101.Edges ∧ SliceRep encBool s100 v107 y101.Goals) r) := by
 unfold transys_Atomic_p at hm
 refine calls_of_W Try.func28 rfl rfl (Zc (Zd (Za rfl rfl (Exec.box (cs := [v101, v102, v103, v104]) hS rfl rfl rfl ?_))))
 intro b100 w100 hS100
 refine Za rfl rfl (Exec.alloc (cs := [Value.int .i64 (0), Value.int .i64 (0), Value.slice none 0 0, Value.slice none 0 0, Value.slice none 0 0]) hS100 Z26 rfl rfl ?_)
 intro b101 w101 hS101
 refine Za rfl rfl (Zo (v := errV 39 (none)) rfl rfl (Zb (Ze (Zc (Zd (Za rfl rfl (Exec.load_box_agg (ds := [v101, v102, v103, v104]) ((hS101).f1) A55 rfl rfl rfl (Za rfl rfl (Zm (v := Value.int .i64 (v100)) rfl rfl (Za rfl rfl (Exec.buildSlice (Te := 3) (cs := [Value.int .i64 (v100)]) hS101 rfl (parts_cons (c := [Value.int .i64 (v100)]) (cells_of rfl rfl) parts_nil) (fun _ => by kernel_rfl) ?_)))))))))))
 intro b102 w102 hS102
 have hS103 := St.boxArr (E := (encInt .i64)) (xs := [v100]) hS102 ⟨[Value.int .i64 (v100)], [], rfl, rfl, rfl⟩ (by simp [maxLen])
 obtain ⟨s101, l100, hS104, r100⟩ := hS103.freezeArr
 obtain ⟨t101, q100, hm⟩ := Zg hm
 obtain ⟨y102, y103⟩ := t101
 replace hm := un2_eq hm
 refine Za rfl rfl (Exec.call rfl rfl Try.func45 rfl N45 (Zi rfl (Zi rfl args_nil)) ((project_Project_sim q100 hS104 (a100.mono l100) (a101.mono l100) (a102.mono l100) (a103.mono l100) r100).mono ?_))
 rintro _ w103 ⟨_, rfl, ⟨s102, v108, v109, v110, l101, hS105, rfl, r101, r102, r103⟩⟩
 refine ⟨_, rfl, ?_⟩
 refine Za rfl rfl (Exec.extract (v := Value.agg #[Value.int .i64 (y103.States), Value.int .i64 (y103.Init), v108, v109, v110]) rfl rfl rfl (Za rfl rfl (Exec.extract (v := errV 39 (y102)) rfl rfl rfl (Za rfl rfl (Exec.store_box (ds := [Value.int .i64 (y103.States), Value.int .i64 (y103.Init), v108, v109, v110]) (es := [Value.int .i64 (y103.States), Value.int .i64 (y103.Init), v108, v109, v110]) hS105 A26 rfl rfl rfl rfl (Zj rfl (Zj rfl (Zj (r101).one (Zj (r102).one (Zj (r103).one one_nil))))) (Nat.le_of_ble_eq_true rfl) rfl ?_)))))
 intro w104 hS106
 refine Za rfl rfl (Zo (v := errV 39 (y102)) rfl rfl (Zb (Ze (W_ret ?_))))
 have e100 := Zu hm
 subst r
 refine ⟨_, retG2 rfl ⟨_, _, rfl, cellRes (hS106) A26⟩ rfl, ?_⟩
 have hS107 := (hS106).drop
 have hS108 := (hS107).drop
 exact ⟨s102, v108, v109, v110, (Zt l100 l101), hS108, (tup2 rfl rfl), r101, r102, r103⟩
theorem N49 : (Try.f49.name == "runtime.NumGoroutine") = false := by kernel_rfl
theorem base_States_sim {w0 w : World} {s : PHeap} {H : List Res} {vars100 : (List Int)} {v100 : Value} {r : (List (List Int))} (hm : base_States_p vars100 = some r) (hS : St w0 s (H) w) (a100 : SliceRep (encInt .i64) s v100 vars100) :
  Calls Try.prog 49 #[v100] w fun e w' => ∃ v, e = .returned v ∧ ((fun (y100 : (List (List Int))) => ∃ (s100 : PHeap) (v101 : Value), PHeap.le s s100 ∧ St w0 s100 (H) w' ∧ v = v101 ∧ SliceRep (encSlice (encInt .i64)) s100 v101 y100) r) := by
 unfold base_States_p at hm
 refine calls_of_W Try.func49 rfl rfl (Zc (Zd (Za rfl rfl (Zo (v := Value.slice none 0 0) rfl rfl (Zb (Ze (Zc (Zd (Za rfl rfl (Exec.buildSlice (Te := 3) (cs := []) hS rfl parts_nil (fun _ => by kernel_rfl) ?_))))))))))
 intro b100 w100 hS100
 have hS101 := St.boxArr (E := (encInt .i64)) (xs := []) hS100 rfl (by simp [maxLen])
 obtain ⟨s101, l100, hS102, r100⟩ := hS101.freezeArr
 refine Za rfl rfl (Exec.buildSlice (Te := 22) (cs := [Value.slice (some ⟨b100, 0, none⟩) 0 0]) hS102 rfl (parts_cons (c := [Value.slice (some ⟨b100, 0, none⟩) 0 0]) (cells_of rfl rfl) parts_nil) (fun _ => by kernel_rfl) ?_)
 intro b101 w101 hS103
 refine Za rfl rfl (Zo (v := Value.slice (some ⟨b101, 0, none⟩) 1 1) rfl rfl (Zb (Ze (Zc (Zc (Zd (Za rfl rfl (Zm (v := v100) rfl rfl (Za rfl rfl (Zr S22 rfl rfl (a100.mono l100) (Za rfl rfl (Zm (v := Value.int .i64 (0)) rfl rfl ?_))))))))))))
 refine Zb (Ze ?_)
 obtain ⟨out100, hB100, hm⟩ := Zg hm
 refine W_block (W_forS (fun k' s' f' w' => (fun (out100 : (List (List Int))) => ∃ (s102 : PHeap) (v102 : Value), PHeap.le s101 s102 ∧ St w0 s102 (Res.arr (encSlice (encInt .i64)) 22 v102 out100 :: H) w' ∧ f' 3 = v102 ∧ f' 12 = v100 ∧ f' 13 = Value.int .i64 ((vars100.length : Int)) ∧ f' 14 = Value.int .i64 (k' : Int)) s') hB100 ?_ ?_ ?_)
 ·have hS104 := St.boxArr (E := (encSlice (encInt .i64))) (xs := [[]]) hS103 ⟨[Value.slice (some ⟨b100, 0, none⟩) 0 0], [], rfl, ⟨_, rfl, r100⟩, rfl⟩ (by simp [maxLen])
  exact ⟨s101, (Value.slice (some ⟨b101, 0, none⟩) 1 1), (Zv _), hS104, rfl, rfl, rfl, rfl⟩
 ·intro i100 out100 s103 f100 w102 hi100 hI100 hm100
  obtain ⟨s104, v102, l101, hS105, p100, p101, p102, x100⟩ := hI100
  refine Zc (Zd (Za rfl rfl (Zq rfl x100 p102 (Zb (Ze (Zc (W_true (congrArg Value.bool (decide_eq_true (by omega))) (W_skip (Ze (Zc ?_))))))))))
  refine W_block (Zc (Zd ?_))
  obtain ⟨x101, q100, hm100⟩ := Zg hm100
  refine Za rfl rfl (Exec.index_rep S22 rfl p101 x100 (a100.mono (Zt l100 l101)) q100 ?_)
  intro b102 o100 a101
  refine Za rfl rfl (Zw (E := (encInt .i64)) hS105 A3 rfl rfl rfl a101 ?_)
  intro v103 q101
  obtain rfl := encInt_val.1 q101
  refine Za rfl rfl (Zo (v := Value.int .i64 (x101)) rfl rfl (Zb (Ze (Zc (Zd (Za rfl rfl (Zo (v := Value.slice none 0 0) rfl rfl (Zb (Ze (Zc (Zc ?_)))))))))))
  refine Zd (Za rfl rfl (Zm (v := v102) rfl p100 (Za rfl rfl (Exec.len_arr (hS105) S83 rfl rfl (Za rfl rfl (Zm (v := Value.int .i64 (0)) rfl rfl (Zb (Ze ?_))))))))
  obtain ⟨next100, hB101, hm100⟩ := Zg hm100
  refine W_block (W_forS (fun k' s' f' w' => (fun (next100 : (List (List Int))) => ∃ (s105 : PHeap) (v104 : Value), PHeap.le s104 s105 ∧ St w0 s105 (Res.arr (encSlice (encInt .i64)) 22 v104 next100 :: Res.arr (encSlice (encInt .i64)) 22 v102 out100 :: H) w' ∧ f' 5 = Value.int .i64 (x101) ∧ f' 6 = v104 ∧ f' 12 = v100 ∧ f' 13 = Value.int .i64 ((vars100.length : Int)) ∧ f' 14 = Value.int .i64 ((i100 : Int)) ∧ f' 18 = v102 ∧ f' 19 = Value.int .i64 ((out100.length : Int)) ∧ f' 20 = Value.int .i64 (k' : Int)) s') hB101 ?_ ?_ ?_)
  ·have hS106 := hS105.nilArr (encSlice (encInt .i64)) 22
   have hS107 := (hS106).f1
   have hS108 := (hS107).f1
   exact ⟨s104, (Value.slice none 0 0), (Zv _), hS108, rfl, rfl, p101, p102, x100, rfl, rfl, rfl⟩
  ·intro i101 next100 s106 f101 w103 hi101 hI101 hm101
   obtain ⟨s107, v104, l102, hS109, p103, p104, p105, p106, p107, p108, p109, x102⟩ := hI101
   refine Zc (Zd (Za rfl rfl (Zq rfl x102 p109 (Zb (Ze (Zc (W_true (congrArg Value.bool (decide_eq_true (by omega))) (W_skip (Ze (Zc ?_))))))))))
   refine W_block (Zc (Zd ?_))
   obtain ⟨x103, q102, hm101⟩ := Zg hm101
   obtain ⟨g100, c100, e100⟩ := ((hS109).f1).arr_at q102
   refine Za rfl rfl (Exec.index_slice S83 rfl (Eq.trans p108 e100) x102 (idx_some q102).1 (idx_some q102).2.1 (Za rfl rfl (Exec.load_arr (F := (encSlice (encInt .i64))) ((hS109).f1) e100 A22 rfl rfl rfl q102 (Sub.refl _) ?_)))
   intro v105 q103
   have r101 := encSlice_val.1 q103
   refine Za rfl rfl (Zo (v := v105) rfl rfl (Zb (Ze (Zc (Zd (Za rfl rfl (Zm (v := Value.int .i64 (x101)) rfl p103 (Za rfl rfl (Zm (v := Value.int .i64 (0)) rfl rfl (Zb (Ze ?_)))))))))))
   obtain ⟨u100, q104, hm101⟩ := Zg hm101
   obtain ⟨l103, hB102, hm101⟩ := Zg hm101
   refine W_block (W_forS (fun k' s' f' w' => (fun (l103 : (List (List Int))) => ∃ (s108 : PHeap) (v106 : Value), PHeap.le s107 s108 ∧ St w0 s108 (Res.arr (encSlice (encInt .i64)) 22 v106 l103 :: Res.arr (encSlice (encInt .i64)) 22 v102 out100 :: H) w' ∧ f' 5 = Value.int .i64 (x101) ∧ f' 6 = v106 ∧ f' 8 = v105 ∧ f' 12 = v100 ∧ f' 13 = Value.int .i64 ((vars100.length : Int)) ∧ f' 14 = Value.int .i64 ((i100 : Int)) ∧ f' 18 = v102 ∧ f' 19 = Value.int .i64 ((out100.length : Int)) ∧ f' 20 = Value.int .i64 ((i101 : Int)) ∧ f' 24 = Value.int .i64 (x101) ∧ f' 25 = Value.int .i64 (k' : Int)) s') hB102 ?_ ?_ ?_)
   ·have hS110 := (hS109).f1
    have hS111 := (hS110).f1
    exact ⟨s107, v104, (Zv _), hS111, p103, p104, rfl, p105, p106, p107, p108, p109, x102, rfl, rfl⟩
   ·intro i102 l103 s109 f102 w104 hi102 hI102 hm102
    obtain ⟨s110, v106, l104, hS112, p110, p111, p112, p113, p114, p115, p116, p117, p118, p119, x104⟩ := hI102
    refine Zc (Zd (Za rfl rfl (Zq rfl x104 p119 (Zb (Ze (Zc (W_true (congrArg Value.bool (decide_eq_true (by omega))) (W_skip (Ze (Zc ?_))))))))))
    refine W_block (Zc (Zd (Za rfl rfl (Zm (v := Value.int .i64 ((i102 : Int))) rfl x104 (Za rfl rfl (Zo (v := Value.int .i64 ((i102 : Int))) rfl rfl (Zb (Ze (Zd (Za rfl rfl (Zm (v := v106) rfl p111 ?_)))))))))))
    refine Za rfl rfl (Exec.buildSlice (Te := 3) (cs := []) hS112 rfl parts_nil (fun _ => by kernel_rfl) ?_)
    intro b103 w105 hS113
    refine Za rfl rfl (Zm (v := v105) rfl p112 ?_)
    have hS114 := St.boxArr (E := (encInt .i64)) (xs := []) hS113 rfl (by simp [maxLen])
    obtain ⟨l105, q105, hm102⟩ := Zg hm102
    refine Za rfl rfl (Exec.append_rep (E := (encInt .i64)) (ys := x103) hS114 S22 Z3 rfl (by decide) rfl rfl rfl (r101.mono l104) q105 ?_)
    intro v107 w106 hS115
    refine Za rfl rfl (Zm (v := Value.int .i64 ((i102 : Int))) rfl rfl (Za rfl rfl (Exec.buildSlice (Te := 3) (cs := [Value.int .i64 ((i102 : Int))]) hS115 rfl (parts_cons (c := [Value.int .i64 ((i102 : Int))]) (cells_of rfl rfl) parts_nil) (fun _ => by kernel_rfl) ?_)))
    intro b104 w107 hS116
    obtain ⟨l106, q106, hm102⟩ := Zg hm102
    have hS117 := (hS116).f1
    refine Za rfl rfl (Exec.append_box (E := (encInt .i64)) (ys := [(i102 : Int)]) hS117 S22 Z3 rfl (by decide) rfl rfl rfl rfl ⟨[Value.int .i64 ((i102 : Int))], [], rfl, rfl, rfl⟩ rfl q106 ?_)
    intro v108 w108 hS118
    obtain ⟨s111, l107, hS119, r102⟩ := hS118.freezeArr
    refine Za rfl rfl (Exec.buildSlice (Te := 22) (cs := [v108]) hS119 rfl (parts_cons (c := [v108]) (cells_of rfl (cells_one (r102).one)) parts_nil) (fun _ => by kernel_rfl) ?_)
    intro b105 w109 hS120
    obtain ⟨l108, q107, hm102⟩ := Zg hm102
    have hS121 := (hS120).f1
    refine Za rfl rfl (Exec.append_box (E := (encSlice (encInt .i64))) (ys := [l106]) hS121 S83 Z22 rfl (by decide) rfl rfl rfl rfl ⟨[v108], [], rfl, ⟨_, rfl, r102⟩, rfl⟩ rfl q107 ?_)
    intro v109 w110 hS122
    refine Za rfl rfl (Zo (v := v109) rfl rfl (Zb (ib_normal (Ze (Zd (Za rfl rfl (Exec.add rfl x104 rfl (Za rfl rfl (Zm (v := Value.int .i64 (IntKind.i64.wrap ((i102 : Int) + 1))) rfl rfl (Zb (Ze ?_)))))))))))
    have e101 := Zu hm102
    subst s109
    have hS123 := (hS122).f1
    have hS124 := (hS123).f1
    exact ⟨s111, v109, (Zt l104 l107), hS124, p110, rfl, p112, p113, p114, p115, p116, p117, p118, p119, (Eq.trans rfl (wrap_up hi102 (by have h := must_some q104; simp at h; simp only [maxLen]; omega)))⟩
   intro f103 w111 hI103
   obtain ⟨s112, v106, l109, hS125, p120, p121, p122, p123, p124, p125, p126, p127, p128, p129, x105⟩ := hI103
   refine Zc (Zd (Za rfl rfl (Zq rfl x105 p129 (Zb (Ze (Zc (W_false (congrArg Value.bool (decide_eq_false (by omega))) (W_exit (at_exit (at_exit (ib_here (ib_normal (Ze (Zd ?_))))))))))))))
   refine Za rfl rfl (Exec.add rfl p128 rfl (Za rfl rfl (Zm (v := Value.int .i64 (IntKind.i64.wrap ((i101 : Int) + 1))) rfl rfl (Zb (Ze ?_)))))
   have e102 := Zu hm101
   subst s106
   have hS126 := (hS125).f1
   have hS127 := (hS126).f1
   exact ⟨s112, v106, (Zt l102 l109), hS127, p120, p121, p123, p124, p125, p126, p127, (Eq.trans rfl (wrap_up hi101 (hS105).arr_le))⟩
  intro f104 w112 hI104
  obtain ⟨s113, v104, l110, hS128, p130, p131, p132, p133, p134, p135, p136, x106⟩ := hI104
  refine Zc (Zd (Za rfl rfl (Zq rfl x106 p136 (Zb (Ze (Zc (W_false (congrArg Value.bool (decide_eq_false (by omega))) (W_exit (at_exit (at_exit (ib_here (Ze (Zd ?_)))))))))))))
  refine Za rfl rfl (Zm (v := v104) rfl p131 (Za rfl rfl (Zo (v := v104) rfl rfl (Zb (ib_normal (Ze (Zd (Za rfl rfl (Exec.add rfl p134 rfl (Za rfl rfl (Zm (v := Value.int .i64 (IntKind.i64.wrap ((i100 : Int) + 1))) rfl rfl (Zb (Ze ?_)))))))))))))
  have e103 := Zu hm100
  subst s103
  have hS129 := ((hS128).f1).drop
  exact ⟨s113, v104, (Zt l101 l110), hS129, rfl, p132, p133, (Eq.trans rfl (wrap_up hi100 (SliceRep.le (a100.mono l100))))⟩
 intro f105 w113 hI105
 obtain ⟨s114, v102, l111, hS130, p137, p138, p139, x107⟩ := hI105
 refine Zc (Zd (Za rfl rfl (Zq rfl x107 p139 (Zb (Ze (Zc (W_false (congrArg Value.bool (decide_eq_false (by omega))) (W_exit (at_exit (at_exit (ib_here (Ze (Zc ?_)))))))))))))
 refine Zd (Za rfl rfl (Zm (v := v102) rfl p137 (Za rfl rfl (Zo (v := v102) rfl rfl (Zb (Ze (W_ret ?_)))))))
 have e104 := Zu hm
 subst r
 refine ⟨_, ret1 rfl, ?_⟩
 obtain ⟨s115, l112, hS131, r103⟩ := hS130.freezeArr
 exact ⟨s115, v102, (Zt (Zt l100 l111) l112), hS131, rfl, r103⟩
theorem N51 : (Try.f51.name == "runtime.NumGoroutine") = false := by kernel_rfl
theorem base_Holds_sim {w0 w : World} {s : PHeap} {H : List Res} {f_100 : (List Fact)} {s_100 : (List Int)} {v100 : Value} {v101 : Value} {r : Bool} (hm : base_Holds_p f_100 s_100 = some r) (hS : St w0 s (H) w) (a100 : SliceRep encFact s v100 f_100) (a101 : SliceRep (encInt .i64) s v101 s_100) :
  Calls Try.prog 51 #[v100, v101] w fun e w' => ∃ v, e = .returned v ∧ ((fun (y100 : Bool) => ∃ (s100 : PHeap) , PHeap.le s s100 ∧ St w0 s100 (H) w' ∧ v = Value.bool (y100)) r) := by
 unfold base_Holds_p at hm
 refine calls_of_W Try.func51 rfl rfl (Zc (Zd (Za rfl rfl (Zo (v := Value.bool (false)) rfl rfl (Zb (Ze (Zc (Zc (Zd ?_)))))))))
 refine Za rfl rfl (Zm (v := v100) rfl rfl (Za rfl rfl (Zr S52 rfl rfl a100 (Za rfl rfl (Zm (v := Value.int .i64 (0)) rfl rfl (Zb (Ze ?_)))))))
 obtain ⟨c100, hB100, hr100, hn100, hb100⟩ := ctl_some hm
 refine W_mid (M := fun f' w' => ∃ s', (c100 = .next s' ∨ c100 = .brk s') ∧ (fun (_ : Unit) => ∃ (s101 : PHeap) , PHeap.le s s101 ∧ St w0 s101 (H) w' ∧ f' 1 = v101 ∧ f' 7 = v100 ∧ f' 8 = Value.int .i64 ((f_100.length : Int))) s') ?_ ?_
 ·refine W_block (W_forC (fun k' s' f' w' => (fun (_ : Unit) => ∃ (s102 : PHeap) , PHeap.le s s102 ∧ St w0 s102 (H) w' ∧ f' 1 = v101 ∧ f' 7 = v100 ∧ f' 8 = Value.int .i64 ((f_100.length : Int)) ∧ f' 9 = Value.int .i64 (k' : Int)) s') hB100 ?_ ?_ ?_)
  ·exact ⟨s, (Zv _), hS, rfl, rfl, rfl, rfl⟩
  ·intro i100 t100 c101 f100 w100 hi100 hI100 hm100 hres100
   obtain ⟨s103, l100, hS100, p100, p101, p102, x100⟩ := hI100
   refine Zc (Zd (Za rfl rfl (Zq rfl x100 p102 (Zb (Ze (Zc (W_true (congrArg Value.bool (decide_eq_true (by omega))) (W_skip (Ze (Zc ?_))))))))))
   refine W_block (Zc (Zd ?_))
   obtain ⟨x101, q100, hm100⟩ := Zg hm100
   refine Za rfl rfl (Exec.index_rep S52 rfl p101 x100 (a100.mono l100) q100 ?_)
   intro b100 o100 a102
   refine Za rfl rfl (Zw (E := encFact) hS100 A82 rfl rfl rfl a102 ?_)
   intro v102 q101
   obtain rfl := encFact_val.1 q101
   refine Za rfl rfl (Exec.alloc (cs := [Value.int .i64 (0), Value.int .i64 (0)]) hS100 Z82 rfl rfl ?_)
   intro b101 w101 hS101
   refine Za rfl rfl (Exec.store_box (ds := [Value.int .i64 (x101.Var), Value.int .i64 (x101.Val)]) (es := [Value.int .i64 (x101.Var), Value.int .i64 (x101.Val)]) hS101 A82 rfl rfl rfl rfl (Zj rfl (Zj rfl one_nil)) (Nat.le_of_ble_eq_true rfl) rfl ?_)
   intro w102 hS102
   refine Zb (Ze (Zc ?_))
   obtain ⟨z100, ht100, hm100⟩ := Zg hm100
   refine W_mid (M := fun f' w' => (fun (z100 : Bool) => ∃ (s104 : PHeap) , PHeap.le s103 s104 ∧ St w0 s104 (H) w' ∧ f' 1 = v101 ∧ f' 7 = v100 ∧ f' 8 = Value.int .i64 ((f_100.length : Int)) ∧ f' 9 = Value.int .i64 ((i100 : Int)) ∧ f' 32 = Value.bool (z100)) z100) ?_ ?_
   ·refine W_dl (n0 := 20) (.q 0 (.q 1 (.q 2 (.q 3 (.q 4 (.q 5 (.q 6 (.q 7 (.q 8 (.q 9 (.q 10 (.q 11 (.q 12 (.q 13 (.q 14 (.q 15 (.q 16 (.q 17 (.q 18 (.q 19 .done)))))))))))))))))))) hmix (by kernel_rfl) (by kernel_rfl) ?_
    have hS103 := hS102.drew
    refine DL_q rfl rfl (Zp F82_0 rfl rfl rfl ⟨rfl, ?_⟩)
    refine DL_q rfl rfl (Zn (hS103) A3 rfl rfl rfl ⟨rfl, ?_⟩)
    refine DL_q rfl rfl (Zq rfl rfl rfl ⟨rfl, ?_⟩)
    refine DL_q rfl rfl (Zm (v := Value.bool (decide (x101.Var < 0))) rfl rfl ⟨rfl, ?_⟩)
    rcases ite_some ht100 with ⟨hc100, ht100⟩ | ⟨hc100, ht100⟩
    ·refine DL_qp rfl rfl (Zf rfl (congrArg Value.bool hc100)) rfl (DL_qp rfl rfl (Zf rfl (congrArg Value.bool hc100)) rfl (DL_qp rfl rfl (Zf rfl (congrArg Value.bool hc100)) rfl (DL_qp rfl rfl (Zf rfl (congrArg Value.bool hc100)) rfl (DL_qp rfl rfl (Zf rfl (congrArg Value.bool hc100)) rfl (DL_q rfl rfl (Zs (v := Value.bool (true)) rfl (congrArg Value.bool hc100) rfl ⟨rfl, ?_⟩))))))
     refine DL_q rfl rfl (Zm (v := Value.bool (true)) rfl rfl ⟨rfl, ?_⟩)
     refine DL_qp rfl rfl (Zf rfl rfl) rfl (DL_qp rfl rfl (Zf rfl rfl) rfl (DL_qp rfl rfl (Zf rfl rfl) rfl (DL_qp rfl rfl (Zf rfl rfl) rfl (DL_qp rfl rfl (Zf rfl rfl) rfl (DL_qp rfl rfl (Zf rfl rfl) rfl (DL_qp rfl rfl (Zf rfl rfl) rfl (DL_qp rfl rfl (Zf rfl rfl) rfl ?_)))))))
     refine DL_q rfl rfl (Zs (v := Value.bool (true)) rfl rfl rfl ⟨rfl, ?_⟩)
     refine DL_done (Zb (Ze ?_))
     have e100 := Zu ht100
     subst z100
     have hS104 := (hS103).drop
     exact ⟨s103, (Zv _), hS104, p100, p101, p102, x100, rfl⟩
    replace hc100 := Zk hc100
    refine DL_qg rfl rfl (Zf rfl (congrArg Value.bool hc100)) (Zp F82_0 rfl rfl rfl ⟨rfl, ?_⟩)
    refine DL_qg rfl rfl (Zf rfl (congrArg Value.bool hc100)) (Zn (hS103) A3 rfl rfl rfl ⟨rfl, ?_⟩)
    refine DL_qg rfl rfl (Zf rfl (congrArg Value.bool hc100)) (Zm (v := v101) rfl p100 ⟨rfl, ?_⟩)
    refine DL_qg rfl rfl (Zf rfl (congrArg Value.bool hc100)) (Zr S22 rfl rfl (a101.mono l100) ⟨rfl, ?_⟩)
    refine DL_qg rfl rfl (Zf rfl (congrArg Value.bool hc100)) (Exec.geq rfl rfl rfl ⟨rfl, ?_⟩)
    refine DL_q rfl rfl (Exec.pick_f (v := Value.bool (decide ((s_100.length : Int) ≤ x101.Var))) rfl (congrArg Value.bool hc100) rfl ⟨rfl, ?_⟩)
    refine DL_q rfl rfl (Zm (v := Value.bool (decide ((s_100.length : Int) ≤ x101.Var))) rfl rfl ⟨rfl, ?_⟩)
    rcases ite_some ht100 with ⟨hc101, ht100⟩ | ⟨hc101, ht100⟩
    ·refine DL_qp rfl rfl (Zf rfl (congrArg Value.bool hc101)) rfl (DL_qp rfl rfl (Zf rfl (congrArg Value.bool hc101)) rfl (DL_qp rfl rfl (Zf rfl (congrArg Value.bool hc101)) rfl (DL_qp rfl rfl (Zf rfl (congrArg Value.bool hc101)) rfl (DL_qp rfl rfl (Zf rfl (congrArg Value.bool hc101)) rfl (DL_qp rfl rfl (Zf rfl (congrArg Value.bool hc101)) rfl (DL_qp rfl rfl (Zf rfl (congrArg Value.bool hc101)) rfl (DL_qp rfl rfl (Zf rfl (congrArg Value.bool hc101)) rfl ?_)))))))
     refine DL_q rfl rfl (Zs (v := Value.bool (true)) rfl (congrArg Value.bool hc101) rfl ⟨rfl, ?_⟩)
     refine DL_done (Zb (Ze ?_))
     have e101 := Zu ht100
     subst z100
     have hS105 := (hS103).drop
     exact ⟨s103, (Zv _), hS105, p100, p101, p102, x100, rfl⟩
    replace hc101 := Zk hc101
    refine DL_qg rfl rfl (Zf rfl (congrArg Value.bool hc101)) (Zm (v := v101) rfl p100 ⟨rfl, ?_⟩)
    refine DL_qg rfl rfl (Zf rfl (congrArg Value.bool hc101)) (Zp F82_0 rfl rfl rfl ⟨rfl, ?_⟩)
    refine DL_qg rfl rfl (Zf rfl (congrArg Value.bool hc101)) (Zn (hS103) A3 rfl rfl rfl ⟨rfl, ?_⟩)
    obtain ⟨x102, q102, ht100⟩ := Zg ht100
    refine DL_qg rfl rfl (Zf rfl (congrArg Value.bool hc101)) (Exec.index_repE S22 rfl rfl rfl (a101.mono l100) q102 ?_)
    intro b102 o101 a103 e102
    refine ⟨rfl, ?_⟩
    refine DL_qg rfl rfl (Zf rfl (congrArg Value.bool hc101)) (Zw (E := (encInt .i64)) hS103 A3 rfl rfl rfl a103 ?_)
    intro v103 q103
    obtain rfl := encInt_val.1 q103
    refine ⟨rfl, ?_⟩
    refine DL_qg rfl rfl (Zf rfl (congrArg Value.bool hc101)) (Zp F82_1 rfl rfl rfl ⟨rfl, ?_⟩)
    refine DL_qg rfl rfl (Zf rfl (congrArg Value.bool hc101)) (Zn (hS103) A3 rfl rfl rfl ⟨rfl, ?_⟩)
    refine DL_qg rfl rfl (Zf rfl (congrArg Value.bool hc101)) (Exec.neq rfl rfl rfl ⟨rfl, ?_⟩)
    refine DL_q rfl rfl (Exec.pick_f (v := Value.bool (!decide (x102 = x101.Val))) rfl (congrArg Value.bool hc101) rfl ⟨rfl, ?_⟩)
    refine DL_done (Zb (Ze ?_))
    have e103 := Zu ht100
    subst z100
    have hS106 := (hS103).drop
    exact ⟨s103, (Zv _), hS106, p100, p101, p102, x100, rfl⟩
   intro f101 w103 hM100
   obtain ⟨s105, l101, hS107, p103, p104, p105, p106, p107⟩ := hM100
   refine (Ze ?_)
   rcases ite_some hm100 with ⟨hc102, hm100⟩ | ⟨hc102, hm100⟩
   ·refine W_cond_t p107 hc102 (Zc (Zd (Za rfl rfl (Zo (v := Value.bool (false)) rfl rfl (Zb (Ze (W_ret (ib_ret (at_ret (at_ret (ib_ret (at_ret (at_ret ?_)))))))))))))
    have e104 := Zu hm100
    subst c101
    have hq100 := hr100 _ (hres100 (by intro _ h; cases h))
    have e105 := Zu hq100
    subst r
    refine ⟨_, ret1 rfl, ?_⟩
    exact ⟨s105, (Zt l100 l101), hS107, rfl⟩
   refine W_cond_f p107 hc102 ?_
   replace hc102 := Zk hc102
   refine W_skip (ib_normal (Ze (Zd (Za rfl rfl (Exec.add rfl p106 rfl (Za rfl rfl (Zm (v := Value.int .i64 (IntKind.i64.wrap ((i100 : Int) + 1))) rfl rfl (Zb (Ze ?_)))))))))
   have e106 := Zu hm100
   subst c101
   refine ⟨_, rfl, ?_⟩; exact ⟨s105, (Zt l100 l101), hS107, p103, p104, p105, (Eq.trans rfl (wrap_up hi100 (SliceRep.le a100)))⟩
  intro t101 f102 w104 hI101 hres101
  obtain ⟨s106, l102, hS108, p108, p109, p110, x103⟩ := hI101
  refine Zc (Zd (Za rfl rfl (Zq rfl x103 p110 (Zb (Ze (Zc (W_false (congrArg Value.bool (decide_eq_false (by omega))) (W_exit (at_exit (at_exit (ib_here (Ze ?_))))))))))))
  refine ⟨_, .inl hres101, ?_⟩; exact ⟨s106, l102, hS108, p108, p109, p110⟩
 rintro f103 w105 ⟨t102, hc103, hM101⟩
 have hm := hc103.elim (hn100 _) (hb100 _)
 clear hc103
 obtain ⟨s107, l103, hS109, p111, p112, p113⟩ := hM101
 refine (Ze (Zc (Zd (Za rfl rfl (Zo (v := Value.bool (true)) rfl rfl (Zb (Ze (W_ret ?_))))))))
 have e107 := Zu hm
 subst r
 refine ⟨_, ret1 rfl, ?_⟩
 exact ⟨s107, l103, hS109, rfl⟩
theorem N50 : (Try.f50.name == "runtime.NumGoroutine") = false := by kernel_rfl
theorem base_Apply_sim {w0 w : World} {s : PHeap} {H : List Res} {t100 : Task} {s_100 : (List Int)} {op100 : Int} {v100 : Value} {v101 : Value} {v102 : Value} {v103 : Value} {v104 : Value} {r : (List Int) × Bool} (hm : base_Apply_p t100 s_100 op100 = some r) (hS : St w0 s (H) w) (a100 : SliceRep (encInt .i64) s v100 t100.Vars) (a101 : SliceRep (encInt .i64) s v101 t100.Init) (a102 : SliceRep encFact s v102 t100.Goal) (a103 : SliceRep encOp s v103 t100.Ops) (a104 : SliceRep (encInt .i64) s v104 s_100) :
  Calls Try.prog 50 #[Value.agg #[v100, v101, v102, v103], v104, Value.int .i64 (op100)] w fun e w' => ∃ v, e = .returned v ∧ ((un2 fun (y100 : (List Int)) (y101 : Bool) => ∃ (s100 : PHeap) (v105 : Value), PHeap.le s s100 ∧ St w0 s100 (H) w' ∧ v = Value.tuple #[v105, Value.bool (y101)] ∧ SliceRep (encInt .i64) s100 v105 y100) r) := by
 unfold base_Apply_p at hm
 refine calls_of_W Try.func50 rfl rfl (Zc (Zd (Za rfl rfl (Exec.box (cs := [v100, v101, v102, v103]) hS rfl rfl rfl ?_))))
 intro b100 w100 hS100
 refine Za rfl rfl (Zo (v := Value.slice none 0 0) rfl rfl (Za rfl rfl (Zo (v := Value.bool (false)) rfl rfl (Zb (Ze (Zc (Zc ?_)))))))
 obtain ⟨z100, ht100, hm⟩ := Zg hm
 refine W_mid (M := fun f' w' => (fun (z100 : Bool) => ∃ (s101 : PHeap) , PHeap.le s s101 ∧ St w0 s101 (Res.box b100 55 [v100, v101, v102, v103] :: H) w' ∧ f' 1 = v104 ∧ f' 2 = Value.int .i64 (op100) ∧ f' 3 = Value.pointer (some ⟨b100, 0, none⟩) ∧ f' 30 = Value.bool (z100)) z100) ?_ ?_
 ·refine Zd (Za rfl rfl (Zm (v := Value.int .i64 (op100)) rfl rfl (Za rfl rfl (Zq rfl rfl rfl (Za rfl rfl (Zm (v := Value.bool (decide (op100 < 0))) rfl rfl ?_))))))
  rcases ite_some ht100 with ⟨hc100, ht100⟩ | ⟨hc100, ht100⟩
  ·refine Zl rfl (Zf rfl (congrArg Value.bool hc100)) rfl rfl (Zl rfl (Zf rfl (congrArg Value.bool hc100)) rfl rfl (Zl rfl (Zf rfl (congrArg Value.bool hc100)) rfl rfl (Zl rfl (Zf rfl (congrArg Value.bool hc100)) rfl rfl (Zl rfl (Zf rfl (congrArg Value.bool hc100)) rfl rfl (Za rfl rfl (Zs (v := Value.bool (true)) rfl (congrArg Value.bool hc100) rfl (Za rfl rfl (Zm (v := Value.bool (true)) rfl rfl (Zl rfl (Zf rfl rfl) rfl rfl ?_)))))))))
   refine Zl rfl (Zf rfl rfl) rfl rfl (Zl rfl (Zf rfl rfl) rfl rfl (Zl rfl (Zf rfl rfl) rfl rfl (Zl rfl (Zf rfl rfl) rfl rfl (Zl rfl (Zf rfl rfl) rfl rfl (Zl rfl (Zf rfl rfl) rfl rfl (Zl rfl (Zf rfl rfl) rfl rfl (Zl rfl (Zf rfl rfl) rfl rfl ?_)))))))
   refine Za rfl rfl (Zs (v := Value.bool (true)) rfl rfl rfl (Zb (Ze ?_)))
   have e100 := Zu ht100
   subst z100
   exact ⟨s, (Zv _), hS100, rfl, rfl, rfl, rfl⟩
  replace hc100 := Zk hc100
  refine WL_run rfl (Zf rfl (congrArg Value.bool hc100)) rfl (Zm (v := Value.int .i64 (op100)) rfl rfl (WL_run rfl (Zf rfl (congrArg Value.bool hc100)) rfl (Zp F55_3 rfl rfl rfl (WL_run rfl (Zf rfl (congrArg Value.bool hc100)) rfl (Zn (hS100) A53 rfl rfl rfl (WL_run rfl (Zf rfl (congrArg Value.bool hc100)) rfl (Zr S53 rfl rfl a103 (WL_run rfl (Zf rfl (congrArg Value.bool hc100)) rfl (Exec.geq rfl rfl rfl (Za rfl rfl (Exec.pick_f (v := Value.bool (decide ((t100.Ops.length : Int) ≤ op100))) rfl (congrArg Value.bool hc100) rfl (Za rfl rfl (Zm (v := Value.bool (decide ((t100.Ops.length : Int) ≤ op100))) rfl rfl ?_)))))))))))))
  rcases ite_some ht100 with ⟨hc101, ht100⟩ | ⟨hc101, ht100⟩
  ·refine Zl rfl (Zf rfl (congrArg Value.bool hc101)) rfl rfl (Zl rfl (Zf rfl (congrArg Value.bool hc101)) rfl rfl (Zl rfl (Zf rfl (congrArg Value.bool hc101)) rfl rfl (Zl rfl (Zf rfl (congrArg Value.bool hc101)) rfl rfl (Zl rfl (Zf rfl (congrArg Value.bool hc101)) rfl rfl (Zl rfl (Zf rfl (congrArg Value.bool hc101)) rfl rfl (Zl rfl (Zf rfl (congrArg Value.bool hc101)) rfl rfl (Zl rfl (Zf rfl (congrArg Value.bool hc101)) rfl rfl ?_)))))))
   refine Zl rfl (Zf rfl (congrArg Value.bool hc101)) rfl rfl (Za rfl rfl (Zs (v := Value.bool (true)) rfl (congrArg Value.bool hc101) rfl (Zb (Ze ?_))))
   have e101 := Zu ht100
   subst z100
   exact ⟨s, (Zv _), hS100, rfl, rfl, rfl, rfl⟩
  replace hc101 := Zk hc101
  refine WL_run rfl (Zf rfl (congrArg Value.bool hc101)) rfl (Zp F55_3 rfl rfl rfl (WL_run rfl (Zf rfl (congrArg Value.bool hc101)) rfl (Zn (hS100) A53 rfl rfl rfl (WL_run rfl (Zf rfl (congrArg Value.bool hc101)) rfl (Zm (v := Value.int .i64 (op100)) rfl rfl ?_)))))
  obtain ⟨x100, q100, ht100⟩ := Zg ht100
  refine WL_run rfl (Zf rfl (congrArg Value.bool hc101)) rfl (Exec.index_rep S53 rfl rfl rfl a103 q100 ?_)
  intro b101 o100 a105
  refine WL_run rfl (Zf rfl (congrArg Value.bool hc101)) rfl (Zp F79_2 rfl rfl rfl (WL_run rfl (Zf rfl (congrArg Value.bool hc101)) rfl (Zw (E := (encSlice encFact)) hS100 A52 rfl rfl rfl (a105.sub (Sub.iso (Sub.snd (Sub.snd (Sub.fst (Sub.refl _)) rfl) rfl)) rfl) ?_)))
  intro v106 q101
  have r100 := encSlice_val.1 q101
  refine WL_run rfl (Zf rfl (congrArg Value.bool hc101)) rfl (Zm (v := v104) rfl rfl ?_)
  obtain ⟨y102, q102, ht100⟩ := Zg ht100
  refine WL_run rfl (Zf rfl (congrArg Value.bool hc101)) rfl (Exec.call rfl rfl Try.func51 rfl N51 (Zi rfl (Zi rfl args_nil)) ((base_Holds_sim q102 hS100 r100 a104).mono ?_))
  rintro _ w101 ⟨_, rfl, ⟨s102, l100, hS101, rfl⟩⟩
  refine ⟨_, rfl, ?_⟩
  refine WL_run rfl (Zf rfl (congrArg Value.bool hc101)) rfl (Exec.not rfl rfl (Za rfl rfl (Exec.pick_f (v := Value.bool (!y102)) rfl (congrArg Value.bool hc101) rfl (Zb (Ze ?_)))))
  have e102 := Zu ht100
  subst z100
  exact ⟨s102, l100, hS101, rfl, rfl, rfl, rfl⟩
 intro f100 w102 hM100
 obtain ⟨s103, l101, hS102, p100, p101, p102, p103⟩ := hM100
 refine (Ze ?_)
 rcases ite_some hm with ⟨hc102, hm⟩ | ⟨hc102, hm⟩
 ·refine W_cond_t p103 hc102 (Zc (Zd (Za rfl rfl (Zo (v := Value.slice none 0 0) rfl rfl (Za rfl rfl (Zo (v := Value.bool (false)) rfl rfl (Zb (Ze (W_ret (at_ret ?_))))))))))
  have e103 := Zu hm
  subst r
  refine ⟨_, ret2 rfl, ?_⟩
  have hS103 := (hS102).drop
  exact ⟨s103, (Value.slice none 0 0), l101, hS103, (tup2 rfl rfl), (SliceRep.nil _ _)⟩
 refine W_cond_f p103 hc102 ?_
 replace hc102 := Zk hc102
 refine W_skip (Ze (Zc (Zd (Za rfl rfl (Exec.buildSlice (Te := 3) (cs := []) hS102 rfl parts_nil (fun _ => by kernel_rfl) ?_)))))
 intro b102 w103 hS104
 refine Za rfl rfl (Zm (v := v104) rfl p100 ?_)
 have hS105 := St.boxArr (E := (encInt .i64)) (xs := []) hS104 rfl (by simp [maxLen])
 obtain ⟨l102, q103, hm⟩ := Zg hm
 refine Za rfl rfl (Exec.append_rep (E := (encInt .i64)) (ys := s_100) hS105 S22 Z3 rfl (by decide) rfl rfl rfl (a104.mono l101) q103 ?_)
 intro v107 w104 hS106
 refine Za rfl rfl (Zo (v := v107) rfl rfl (Zb (Ze (Zc (Zc (Zd (Za rfl rfl (Zp F55_3 rfl p102 rfl (Za rfl rfl (Zn ((hS106).f1) A53 rfl rfl rfl (Za rfl rfl (Zm (v := Value.int .i64 (op100)) rfl p101 ?_))))))))))))
 obtain ⟨x101, q104, hm⟩ := Zg hm
 refine Za rfl rfl (Exec.index_rep S53 rfl rfl rfl (a103.mono l101) q104 ?_)
 intro b103 o101 a106
 refine Za rfl rfl (Zp F79_3 rfl rfl rfl (Za rfl rfl (Zw (E := (encSlice encEffect)) hS106 A77 rfl rfl rfl (a106.sub (Sub.iso (Sub.snd (Sub.snd (Sub.snd (Sub.refl _) rfl) rfl) rfl)) rfl) ?_)))
 intro v108 q105
 have r101 := encSlice_val.1 q105
 refine Za rfl rfl (Zr S77 rfl rfl r101 (Za rfl rfl (Zm (v := Value.int .i64 (0)) rfl rfl (Zb (Ze ?_)))))
 obtain ⟨l103, hB100, hm⟩ := Zg hm
 refine W_block (W_forS (fun k' s' f' w' => (fun (l103 : (List Int)) => ∃ (s104 : PHeap) , PHeap.le s103 s104 ∧ St w0 s104 (Res.arr (encInt .i64) 3 v107 l103 :: H) w' ∧ f' 1 = v104 ∧ f' 8 = v107 ∧ f' 39 = v108 ∧ f' 40 = Value.int .i64 ((x101.Effs.length : Int)) ∧ f' 41 = Value.int .i64 (k' : Int)) s') hB100 ?_ ?_ ?_)
 ·have hS107 := ((hS106).f1).drop
  exact ⟨s103, (Zv _), hS107, p100, rfl, rfl, rfl, rfl⟩
 ·intro i100 l103 s105 f101 w105 hi100 hI100 hm100
  obtain ⟨s106, l104, hS108, p104, p105, p106, p107, x102⟩ := hI100
  refine Zc (Zd (Za rfl rfl (Zq rfl x102 p107 (Zb (Ze (Zc (W_true (congrArg Value.bool (decide_eq_true (by omega))) (W_skip (Ze (Zc ?_))))))))))
  refine W_block (Zc (Zd ?_))
  obtain ⟨x103, q106, hm100⟩ := Zg hm100
  refine Za rfl rfl (Exec.index_rep S77 rfl p106 x102 (r101.mono l104) q106 ?_)
  intro b104 o102 a107
  refine Za rfl rfl (Zw (E := encEffect) hS108 A93 rfl rfl rfl a107 ?_)
  intro v109 q107
  obtain ⟨u100, rfl, r102⟩ := encEffect_val.1 q107
  refine Za rfl rfl (Exec.alloc (cs := [Value.slice none 0 0, Value.int .i64 (0), Value.int .i64 (0)]) hS108 Z93 rfl rfl ?_)
  intro b105 w106 hS109
  refine Za rfl rfl (Exec.store_box (ds := [u100, Value.int .i64 (x103.Var), Value.int .i64 (x103.Val)]) (es := [u100, Value.int .i64 (x103.Var), Value.int .i64 (x103.Val)]) hS109 A93 rfl rfl rfl rfl (Zj (r102).one (Zj rfl (Zj rfl one_nil))) (Nat.le_of_ble_eq_true rfl) rfl ?_)
  intro w107 hS110
  refine Zb (Ze (Zc (Zd (Za rfl rfl (Zp F93_0 rfl rfl rfl (Za rfl rfl (Zn (hS110) A52 rfl rfl rfl (Za rfl rfl (Zm (v := v104) rfl p104 ?_)))))))))
  obtain ⟨y103, q108, hm100⟩ := Zg hm100
  refine Za rfl rfl (Exec.call rfl rfl Try.func51 rfl N51 (Zi rfl (Zi rfl args_nil)) ((base_Holds_sim q108 hS110 r102 (a104.mono (Zt l101 l104))).mono ?_))
  rintro _ w108 ⟨_, rfl, ⟨s107, l105, hS111, rfl⟩⟩
  refine ⟨_, rfl, ?_⟩
  refine Zb (Ze ?_)
  obtain ⟨l106, ht101, hm100⟩ := Zg hm100
  refine W_mid (M := fun f' w' => (fun (l106 : (List Int)) => ∃ (s108 : PHeap) , PHeap.le s107 s108 ∧ St w0 s108 (Res.arr (encInt .i64) 3 v107 l106 :: H) w' ∧ f' 1 = v104 ∧ f' 8 = v107 ∧ f' 39 = v108 ∧ f' 40 = Value.int .i64 ((x101.Effs.length : Int)) ∧ f' 41 = Value.int .i64 ((i100 : Int))) l106) ?_ ?_
  ·rcases ite_some ht101 with ⟨hc103, ht101⟩ | ⟨hc103, ht101⟩
   ·refine W_cond_t rfl hc103 (Zd (Za rfl rfl (Zm (v := v107) rfl p105 (Za rfl rfl (Zp F93_1 rfl rfl rfl (Za rfl rfl (Zn (hS111) A3 rfl rfl rfl (Za rfl rfl (Zp F93_2 rfl rfl rfl (Za rfl rfl (Zn (hS111) A3 rfl rfl rfl ?_)))))))))))
    obtain ⟨x104, q109, ht101⟩ := Zg ht101
    obtain ⟨g100, c100, e104⟩ := ((hS111).f1).arr_at q109
    refine Za rfl rfl (Exec.index_slice S22 rfl e104 rfl (idx_some q109).1 (idx_some q109).2.1 ?_)
    obtain ⟨l107, q110, ht101⟩ := Zg ht101
    have hS112 := (hS111).f1
    refine Za rfl rfl (Exec.store_arr hS112 e104 A3 rfl rfl rfl rfl (encInt_val.2 rfl) q110 ?_)
    intro w109 hS113
    refine Zb (Ze ?_)
    have e105 := Zu ht101
    subst l106
    have hS114 := ((hS113).f1).drop
    exact ⟨s107, (Zv _), hS114, p104, p105, p106, p107, x102⟩
   refine W_cond_f rfl hc103 ?_
   replace hc103 := Zk hc103
   refine W_skip (Ze ?_)
   have e106 := Zu ht101
   subst l106
   have hS115 := (hS111).drop
   exact ⟨s107, (Zv _), hS115, p104, p105, p106, p107, x102⟩
  intro f102 w110 hM101
  obtain ⟨s109, l108, hS116, p108, p109, p110, p111, p112⟩ := hM101
  refine (ib_normal (Ze (Zd (Za rfl rfl (Exec.add rfl p112 rfl (Za rfl rfl (Zm (v := Value.int .i64 (IntKind.i64.wrap ((i100 : Int) + 1))) rfl rfl (Zb (Ze ?_)))))))))
  have e107 := Zu hm100
  subst s105
  exact ⟨s109, (Zt (Zt l104 l105) l108), hS116, p108, p109, p110, p111, (Eq.trans rfl (wrap_up hi100 (SliceRep.le r101)))⟩
 intro f103 w111 hI101
 obtain ⟨s110, l109, hS117, p113, p114, p115, p116, x105⟩ := hI101
 refine Zc (Zd (Za rfl rfl (Zq rfl x105 p116 (Zb (Ze (Zc (W_false (congrArg Value.bool (decide_eq_false (by omega))) (W_exit (at_exit (at_exit (ib_here (Ze (Zc ?_)))))))))))))
 refine Zd (Za rfl rfl (Zm (v := v107) rfl p114 (Za rfl rfl (Zo (v := v107) rfl rfl (Za rfl rfl (Zo (v := Value.bool (true)) rfl rfl (Zb (Ze (W_ret ?_)))))))))
 have e108 := Zu hm
 subst r
 refine ⟨_, ret2 rfl, ?_⟩
 obtain ⟨s111, l110, hS118, r103⟩ := hS117.freezeArr
 exact ⟨s111, v107, (Zt (Zt l101 l109) l110), hS118, (tup2 rfl rfl), r103⟩
theorem N64 : (Try.f64.name == "runtime.NumGoroutine") = false := by kernel_rfl
theorem base_Rank_sim {w0 w : World} {s : PHeap} {H : List Res} {vars100 : (List Int)} {s_100 : (List Int)} {v100 : Value} {v101 : Value} {r : Int} (hm : base_Rank_p vars100 s_100 = some r) (hS : St w0 s (H) w) (a100 : SliceRep (encInt .i64) s v100 vars100) (a101 : SliceRep (encInt .i64) s v101 s_100) :
  Calls Try.prog 64 #[v100, v101] w fun e w' => ∃ v, e = .returned v ∧ ((fun (y100 : Int) => ∃ (s100 : PHeap) , PHeap.le s s100 ∧ St w0 s100 (H) w' ∧ v = Value.int .i64 (y100)) r) := by
 unfold base_Rank_p at hm
 refine calls_of_W Try.func64 rfl rfl (Zc (Zd (Za rfl rfl (Zo (v := Value.int .i64 (0)) rfl rfl (Zb (Ze (Zc (Zd (Za rfl rfl (Zo (v := Value.int .i64 (0)) rfl rfl ?_))))))))))
 refine Zb (Ze (Zc (Zc (Zd (Za rfl rfl (Zm (v := v101) rfl rfl (Za rfl rfl (Zr S22 rfl rfl a101 (Za rfl rfl (Zm (v := Value.int .i64 (0)) rfl rfl (Zb (Ze ?_))))))))))))
 obtain ⟨n100, hB100, hm⟩ := Zg hm
 refine W_block (W_forS (fun k' s' f' w' => (fun (n100 : Int) => ∃ (s101 : PHeap) , PHeap.le s s101 ∧ St w0 s101 (H) w' ∧ f' 0 = v100 ∧ f' 1 = v101 ∧ f' 5 = Value.int .i64 (n100) ∧ f' 8 = Value.int .i64 ((s_100.length : Int)) ∧ f' 9 = Value.int .i64 (k' : Int)) s') hB100 ?_ ?_ ?_)
 ·exact ⟨s, (Zv _), hS, rfl, rfl, rfl, rfl, rfl⟩
 ·intro i100 n100 s102 f100 w100 hi100 hI100 hm100
  obtain ⟨s103, l100, hS100, p100, p101, p102, p103, x100⟩ := hI100
  refine Zc (Zd (Za rfl rfl (Zq rfl x100 p103 (Zb (Ze (Zc (W_true (congrArg Value.bool (decide_eq_true (by omega))) (W_skip (Ze (Zc ?_))))))))))
  refine W_block (Zc (Zd (Za rfl rfl (Zm (v := Value.int .i64 ((i100 : Int))) rfl x100 (Za rfl rfl (Zo (v := Value.int .i64 ((i100 : Int))) rfl rfl (Zb (Ze (W_dl (n0 := 11) (.q 0 (.q 1 (.q 2 (.q 3 (.q 4 (.q 5 (.q 6 (.q 7 (.q 8 (.q 9 (.q 10 .done))))))))))) hmix (by kernel_rfl) (by kernel_rfl) ?_)))))))))
  have hS101 := hS100.drew
  refine DL_q rfl rfl (Zm (v := Value.int .i64 (n100)) rfl p102 ⟨rfl, ?_⟩)
  refine DL_q rfl rfl (Zm (v := v100) rfl p100 ⟨rfl, ?_⟩)
  refine DL_q rfl rfl (Zm (v := Value.int .i64 ((i100 : Int))) rfl rfl ⟨rfl, ?_⟩)
  obtain ⟨x101, q100, hm100⟩ := Zg hm100
  refine DL_q rfl rfl (Exec.index_repE S22 rfl rfl rfl (a100.mono l100) q100 ?_)
  intro b100 o100 a102 e100
  refine ⟨rfl, ?_⟩
  refine DL_q rfl rfl (Zw (E := (encInt .i64)) hS101 A3 rfl rfl rfl a102 ?_)
  intro v102 q101
  obtain rfl := encInt_val.1 q101
  refine ⟨rfl, ?_⟩
  refine DL_q rfl rfl (Exec.mul rfl rfl rfl ⟨rfl, ?_⟩)
  refine DL_q rfl rfl (Zm (v := v101) rfl p101 ⟨rfl, ?_⟩)
  refine DL_q rfl rfl (Zm (v := Value.int .i64 ((i100 : Int))) rfl rfl ⟨rfl, ?_⟩)
  obtain ⟨x102, q102, hm100⟩ := Zg hm100
  refine DL_q rfl rfl (Exec.index_repE S22 rfl rfl rfl (a101.mono l100) q102 ?_)
  intro b101 o101 a103 e101
  refine ⟨rfl, ?_⟩
  refine DL_q rfl rfl (Zw (E := (encInt .i64)) hS101 A3 rfl rfl rfl a103 ?_)
  intro v103 q103
  obtain rfl := encInt_val.1 q103
  refine ⟨rfl, ?_⟩
  refine DL_q rfl rfl (Exec.add rfl rfl rfl ⟨rfl, ?_⟩)
  refine DL_done (Za rfl rfl (Zo (v := Value.int .i64 (IntKind.i64.wrap ((IntKind.i64.wrap (n100 * x101)) + x102))) rfl rfl (Zb (ib_normal (Ze (Zd (Za rfl rfl (Exec.add rfl x100 rfl (Za rfl rfl (Zm (v := Value.int .i64 (IntKind.i64.wrap ((i100 : Int) + 1))) rfl rfl (Zb (Ze ?_))))))))))))
  have e102 := Zu hm100
  subst s102
  exact ⟨s103, l100, hS101, p100, p101, rfl, p103, (Eq.trans rfl (wrap_up hi100 (SliceRep.le a101)))⟩
 intro f101 w101 hI101
 obtain ⟨s104, l101, hS102, p104, p105, p106, p107, x103⟩ := hI101
 refine Zc (Zd (Za rfl rfl (Zq rfl x103 p107 (Zb (Ze (Zc (W_false (congrArg Value.bool (decide_eq_false (by omega))) (W_exit (at_exit (at_exit (ib_here (Ze (Zc ?_)))))))))))))
 refine Zd (Za rfl rfl (Zm (v := Value.int .i64 (n100)) rfl p106 (Za rfl rfl (Zo (v := Value.int .i64 (n100)) rfl rfl (Zb (Ze (W_ret ?_)))))))
 have e103 := Zu hm
 subst r
 refine ⟨_, ret1 rfl, ?_⟩
 exact ⟨s104, l101, hS102, rfl⟩
theorem S88 : tySlice Try.prog 88 = some (91, 3, 24) := by kernel_rfl
theorem Z91 : tyZero Try.prog 91 = some (Value.agg #[Value.int .i64 (0), Value.int .i64 (0), Value.int .i64 (0)]) := by kernel_rfl
theorem N52 : (Try.f52.name == "runtime.NumGoroutine") = false := by kernel_rfl
theorem base_Edges_sim {w0 w : World} {s : PHeap} {H : List Res} {t100 : Task} {v100 : Value} {v101 : Value} {v102 : Value} {v103 : Value} {r : (List base_Edge)} (hm : base_Edges_p t100 = some r) (hS : St w0 s (H) w) (a100 : SliceRep (encInt .i64) s v100 t100.Vars) (a101 : SliceRep (encInt .i64) s v101 t100.Init) (a102 : SliceRep encFact s v102 t100.Goal) (a103 : SliceRep encOp s v103 t100.Ops) :
  Calls Try.prog 52 #[Value.agg #[v100, v101, v102, v103]] w fun e w' => ∃ v, e = .returned v ∧ ((fun (y100 : (List base_Edge)) => ∃ (s100 : PHeap) (v104 : Value), PHeap.le s s100 ∧ St w0 s100 (H) w' ∧ v = v104 ∧ SliceRep encbase_Edge s100 v104 y100) r) := by
 unfold base_Edges_p at hm
 refine calls_of_W Try.func52 rfl rfl (Zc (Zd (Za rfl rfl (Exec.box (cs := [v100, v101, v102, v103]) hS rfl rfl rfl ?_))))
 intro b100 w100 hS100
 refine Za rfl rfl (Zo (v := Value.slice none 0 0) rfl rfl (Zb (Ze (Zc (Zd (Za rfl rfl (Zo (v := Value.slice none 0 0) rfl rfl (Zb (Ze (Zc (Zc ?_)))))))))))
 refine Zd (Za rfl rfl (Zp F55_0 rfl rfl rfl (Za rfl rfl (Zn (hS100) A22 rfl rfl rfl ?_))))
 obtain ⟨y101, q100, hm⟩ := Zg hm
 refine Za rfl rfl (Exec.call rfl rfl Try.func49 rfl N49 (Zi rfl args_nil) ((base_States_sim q100 hS100 a100).mono ?_))
 rintro _ w101 ⟨v105, rfl, ⟨s101, _, l100, hS101, rfl, r100⟩⟩
 refine ⟨_, rfl, ?_⟩
 refine Za rfl rfl (Zr S83 rfl rfl r100 (Za rfl rfl (Zm (v := Value.int .i64 (0)) rfl rfl (Zb (Ze ?_)))))
 obtain ⟨out100, hB100, hm⟩ := Zg hm
 refine W_block (W_forS (fun k' s' f' w' => (fun (out100 : (List base_Edge)) => ∃ (s102 : PHeap) (v106 : Value), PHeap.le s101 s102 ∧ St w0 s102 (Res.box b100 55 [v100, v101, v102, v103] :: Res.arr encbase_Edge 91 v106 out100 :: H) w' ∧ f' 1 = Value.pointer (some ⟨b100, 0, none⟩) ∧ f' 3 = v106 ∧ f' 11 = v105 ∧ f' 12 = Value.int .i64 ((y101.length : Int)) ∧ f' 13 = Value.int .i64 (k' : Int)) s') hB100 ?_ ?_ ?_)
 ·have hS102 := hS101.nilArr encbase_Edge 91
  have hS103 := (hS102).f1
  exact ⟨s101, (Value.slice none 0 0), (Zv _), hS103, rfl, rfl, rfl, rfl, rfl⟩
 ·intro i100 out100 s103 f100 w102 hi100 hI100 hm100
  obtain ⟨s104, v106, l101, hS104, p100, p101, p102, p103, x100⟩ := hI100
  refine Zc (Zd (Za rfl rfl (Zq rfl x100 p103 (Zb (Ze (Zc (W_true (congrArg Value.bool (decide_eq_true (by omega))) (W_skip (Ze (Zc ?_))))))))))
  refine W_block (Zc (Zd (Za rfl rfl (Zm (v := Value.int .i64 ((i100 : Int))) rfl x100 ?_))))
  obtain ⟨x101, q101, hm100⟩ := Zg hm100
  refine Za rfl rfl (Exec.index_rep S83 rfl p102 x100 (r100.mono l101) q101 ?_)
  intro b101 o100 a104
  refine Za rfl rfl (Zw (E := (encSlice (encInt .i64))) hS104 A22 rfl rfl rfl a104 ?_)
  intro v107 q102
  have r101 := encSlice_val.1 q102
  refine Za rfl rfl (Zo (v := Value.int .i64 ((i100 : Int))) rfl rfl (Za rfl rfl (Zo (v := v107) rfl rfl (Zb (Ze (Zc (Zd (Za rfl rfl (Zp F55_3 rfl p100 rfl (Za rfl rfl (Zn (hS104) A53 rfl rfl rfl (Za rfl rfl (Zr S53 rfl rfl (a103.mono (Zt l100 l101)) ?_)))))))))))))
  refine Za rfl rfl (Zm (v := Value.int .i64 (0)) rfl rfl (Zb (Ze ?_)))
  obtain ⟨l102, hB101, hm100⟩ := Zg hm100
  refine W_block (W_forS (fun k' s' f' w' => (fun (l102 : (List base_Edge)) => ∃ (s105 : PHeap) (v108 : Value), PHeap.le s104 s105 ∧ St w0 s105 (Res.box b100 55 [v100, v101, v102, v103] :: Res.arr encbase_Edge 91 v108 l102 :: H) w' ∧ f' 1 = Value.pointer (some ⟨b100, 0, none⟩) ∧ f' 3 = v108 ∧ f' 4 = Value.int .i64 ((i100 : Int)) ∧ f' 5 = v107 ∧ f' 11 = v105 ∧ f' 12 = Value.int .i64 ((y101.length : Int)) ∧ f' 13 = Value.int .i64 ((i100 : Int)) ∧ f' 20 = Value.int .i64 ((t100.Ops.length : Int)) ∧ f' 21 = Value.int .i64 (k' : Int)) s') hB101 ?_ ?_ ?_)
  ·have hS105 := (hS104).f1
   have hS106 := (hS105).f1
   exact ⟨s104, v106, (Zv _), hS106, p100, p101, rfl, rfl, p102, p103, x100, rfl, rfl⟩
  ·intro i101 l102 s106 f101 w103 hi101 hI101 hm101
   obtain ⟨s107, v108, l103, hS107, p104, p105, p106, p107, p108, p109, p110, p111, x102⟩ := hI101
   refine Zc (Zd (Za rfl rfl (Zq rfl x102 p111 (Zb (Ze (Zc (W_true (congrArg Value.bool (decide_eq_true (by omega))) (W_skip (Ze (Zc ?_))))))))))
   refine W_block (Zc (Zd (Za rfl rfl (Zm (v := Value.int .i64 ((i101 : Int))) rfl x102 (Za rfl rfl (Zo (v := Value.int .i64 ((i101 : Int))) rfl rfl (Zb (Ze (Zc (Zd ?_))))))))))
   refine Za rfl rfl (Exec.load_box_agg (ds := [v100, v101, v102, v103]) (hS107) A55 rfl p104 rfl (Za rfl rfl (Zm (v := v107) rfl p107 (Za rfl rfl (Zm (v := Value.int .i64 ((i101 : Int))) rfl rfl ?_)))))
   obtain ⟨t101, q103, hm101⟩ := Zg hm101
   obtain ⟨y102, y103⟩ := t101
   replace hm101 := un2_eq hm101
   refine Za rfl rfl (Exec.call rfl rfl Try.func50 rfl N50 (Zi rfl (Zi rfl (Zi rfl args_nil))) ((base_Apply_sim q103 hS107 (a100.mono (Zt (Zt l100 l101) l103)) (a101.mono (Zt (Zt l100 l101) l103)) (a102.mono (Zt (Zt l100 l101) l103)) (a103.mono (Zt (Zt l100 l101) l103)) (r101.mono l103)).mono ?_))
   rintro _ w104 ⟨_, rfl, ⟨s108, v109, l104, hS108, rfl, r102⟩⟩
   refine ⟨_, rfl, ?_⟩
   refine Za rfl rfl (Zm (v := Value.tuple #[v109, Value.bool (y103)]) rfl rfl (Za rfl rfl (Exec.extract (v := v109) rfl rfl rfl (Za rfl rfl (Exec.extract (v := Value.bool (y103)) rfl rfl rfl (Za rfl rfl (Zo (v := v109) rfl rfl (Za rfl rfl (Zo (v := Value.bool (y103)) rfl rfl (Zb (Ze (Zc (Zd ?_)))))))))))))
   refine Za rfl rfl (Zm (v := Value.bool (y103)) rfl rfl (Zb (Ze ?_)))
   obtain ⟨l105, ht100, hm101⟩ := Zg hm101
   refine W_mid (M := fun f' w' => (fun (l105 : (List base_Edge)) => ∃ (s109 : PHeap) (v110 : Value), PHeap.le s108 s109 ∧ St w0 s109 (Res.box b100 55 [v100, v101, v102, v103] :: Res.arr encbase_Edge 91 v110 l105 :: H) w' ∧ f' 1 = Value.pointer (some ⟨b100, 0, none⟩) ∧ f' 3 = v110 ∧ f' 4 = Value.int .i64 ((i100 : Int)) ∧ f' 5 = v107 ∧ f' 11 = v105 ∧ f' 12 = Value.int .i64 ((y101.length : Int)) ∧ f' 13 = Value.int .i64 ((i100 : Int)) ∧ f' 20 = Value.int .i64 ((t100.Ops.length : Int)) ∧ f' 21 = Value.int .i64 ((i101 : Int))) l105) ?_ ?_
   ·rcases ite_some ht100 with ⟨hc100, ht100⟩ | ⟨hc100, ht100⟩
    ·refine W_cond_t rfl hc100 (Zd (Za rfl rfl (Zm (v := v108) rfl p105 (Za rfl rfl (Zm (v := Value.int .i64 ((i100 : Int))) rfl p106 (Za rfl rfl (Zm (v := Value.int .i64 ((i101 : Int))) rfl rfl (Za rfl rfl (Zp F55_0 rfl p104 rfl (Za rfl rfl (Zn (hS108) A22 rfl rfl rfl (Za rfl rfl (Zm (v := v109) rfl rfl ?_)))))))))))))
     obtain ⟨y104, q104, ht100⟩ := Zg ht100
     refine Za rfl rfl (Exec.call rfl rfl Try.func64 rfl N64 (Zi rfl (Zi rfl args_nil)) ((base_Rank_sim q104 hS108 (a100.mono (Zt (Zt (Zt l100 l101) l103) l104)) r102).mono ?_))
     rintro _ w105 ⟨_, rfl, ⟨s110, l106, hS109, rfl⟩⟩
     refine ⟨_, rfl, ?_⟩
     refine Za rfl rfl (Exec.build rfl (parts_cons (c := [Value.int .i64 ((i100 : Int))]) (cells_of rfl rfl) (parts_cons (c := [Value.int .i64 ((i101 : Int))]) (cells_of rfl rfl) (parts_cons (c := [Value.int .i64 (y104)]) (cells_of rfl rfl) parts_nil))) (v := Value.agg #[Value.int .i64 ((i100 : Int)), Value.int .i64 ((i101 : Int)), Value.int .i64 (y104)]) (fun _ => by kernel_rfl) (Za rfl rfl (Exec.buildSlice (Te := 91) (cs := [Value.int .i64 ((i100 : Int)), Value.int .i64 ((i101 : Int)), Value.int .i64 (y104)]) hS109 rfl (parts_cons (c := [Value.int .i64 ((i100 : Int)), Value.int .i64 ((i101 : Int)), Value.int .i64 (y104)]) (cells_of rfl rfl) parts_nil) (fun _ => by kernel_rfl) ?_)))
     intro b102 w106 hS110
     obtain ⟨l107, q105, ht100⟩ := Zg ht100
     have hS111 := (hS110).f2
     refine Za rfl rfl (Exec.append_box (E := encbase_Edge) (ys := [(⟨(i100 : Int), (i101 : Int), y104⟩ : base_Edge)]) hS111 S88 Z91 rfl (by decide) rfl rfl rfl rfl ⟨[Value.int .i64 ((i100 : Int)), Value.int .i64 ((i101 : Int)), Value.int .i64 (y104)], [], rfl, ⟨[Value.int .i64 ((i100 : Int))], [Value.int .i64 ((i101 : Int)), Value.int .i64 (y104)], rfl, rfl, ⟨[Value.int .i64 ((i101 : Int))], [Value.int .i64 (y104)], rfl, rfl, rfl⟩⟩, rfl⟩ rfl q105 ?_)
     intro v111 w107 hS112
     refine Za rfl rfl (Zo (v := v111) rfl rfl (Zb (Ze ?_)))
     have e100 := Zu ht100
     subst l105
     have hS113 := (hS112).f1
     exact ⟨s110, v111, l106, hS113, p104, rfl, p106, p107, p108, p109, p110, p111, x102⟩
    refine W_cond_f rfl hc100 ?_
    replace hc100 := Zk hc100
    refine W_skip (Ze ?_)
    have e101 := Zu ht100
    subst l105
    have hS114 := (hS108).f1
    have hS115 := (hS114).f1
    exact ⟨s108, v108, (Zv _), hS115, p104, p105, p106, p107, p108, p109, p110, p111, x102⟩
   intro f102 w108 hM100
   obtain ⟨s111, v110, l108, hS116, p112, p113, p114, p115, p116, p117, p118, p119, p120⟩ := hM100
   refine (ib_normal (Ze (Zd (Za rfl rfl (Exec.add rfl p120 rfl (Za rfl rfl (Zm (v := Value.int .i64 (IntKind.i64.wrap ((i101 : Int) + 1))) rfl rfl (Zb (Ze ?_)))))))))
   have e102 := Zu hm101
   subst s106
   have hS117 := (hS116).f1
   have hS118 := (hS117).f1
   exact ⟨s111, v110, (Zt (Zt l103 l104) l108), hS118, p112, p113, p114, p115, p116, p117, p118, p119, (Eq.trans rfl (wrap_up hi101 (SliceRep.le (a103.mono (Zt l100 l101)))))⟩
  intro f103 w109 hI102
  obtain ⟨s112, v108, l109, hS119, p121, p122, p123, p124, p125, p126, p127, p128, x103⟩ := hI102
  refine Zc (Zd (Za rfl rfl (Zq rfl x103 p128 (Zb (Ze (Zc (W_false (congrArg Value.bool (decide_eq_false (by omega))) (W_exit (at_exit (at_exit (ib_here (ib_normal (Ze (Zd ?_))))))))))))))
  refine Za rfl rfl (Exec.add rfl p127 rfl (Za rfl rfl (Zm (v := Value.int .i64 (IntKind.i64.wrap ((i100 : Int) + 1))) rfl rfl (Zb (Ze ?_)))))
  have e103 := Zu hm100
  subst s103
  have hS120 := (hS119).f1
  have hS121 := (hS120).f1
  exact ⟨s112, v108, (Zt l101 l109), hS121, p121, p122, p125, p126, (Eq.trans rfl (wrap_up hi100 (SliceRep.le r100)))⟩
 intro f104 w110 hI103
 obtain ⟨s113, v106, l110, hS122, p129, p130, p131, p132, x104⟩ := hI103
 refine Zc (Zd (Za rfl rfl (Zq rfl x104 p132 (Zb (Ze (Zc (W_false (congrArg Value.bool (decide_eq_false (by omega))) (W_exit (at_exit (at_exit (ib_here (Ze (Zc ?_)))))))))))))
 refine Zd (Za rfl rfl (Zm (v := v106) rfl p130 (Za rfl rfl (Zo (v := v106) rfl rfl (Zb (Ze (W_ret ?_)))))))
 have e104 := Zu hm
 subst r
 refine ⟨_, ret1 rfl, ?_⟩
 have hS123 := (hS122).f1
 obtain ⟨s114, l111, hS124, r103⟩ := hS123.freezeArr
 have hS125 := (hS124).drop
 exact ⟨s114, v106, (Zt (Zt l100 l110) l111), hS125, rfl, r103⟩
theorem A91 : tyAgg Try.prog 91 = some (true, 3) := by kernel_rfl
theorem F91_1 : tyField Try.prog 91 1 = some 1 := by kernel_rfl
theorem F91_2 : tyField Try.prog 91 2 = some 2 := by kernel_rfl
theorem F91_0 : tyField Try.prog 91 0 = some 0 := by kernel_rfl
theorem N33 : (Try.f33.name == "runtime.NumGoroutine") = false := by kernel_rfl
theorem base_Distances_nil_sim {w0 w : World} {s : PHeap} {H : List Res} {t100 : Task} {v100 : Value} {v101 : Value} {v102 : Value} {v103 : Value} {r : (List Int)} (hm : base_Distances_nil_p t100 = some r) (hS : St w0 s (H) w) (a100 : SliceRep (encInt .i64) s v100 t100.Vars) (a101 : SliceRep (encInt .i64) s v101 t100.Init) (a102 : SliceRep encFact s v102 t100.Goal) (a103 : SliceRep encOp s v103 t100.Ops) :
  Calls Try.prog 33 #[Value.agg #[v100, v101, v102, v103], Value.slice none 0 0] w fun e w' => ∃ v, e = .returned v ∧ ((fun (y100 : (List Int)) => ∃ (s100 : PHeap) (v104 : Value), PHeap.le s s100 ∧ St w0 s100 (H) w' ∧ v = v104 ∧ SliceRep (encInt .i64) s100 v104 y100) r) := by
 unfold base_Distances_nil_p at hm
 refine calls_of_W Try.func33 rfl rfl (Zc (Zd (Za rfl rfl (Exec.box (cs := [v100, v101, v102, v103]) hS rfl rfl rfl ?_))))
 intro b100 w100 hS100
 refine Za rfl rfl (Zo (v := Value.slice none 0 0) rfl rfl (Zb (Ze (Zc (Zd (Za rfl rfl (Zp F55_0 rfl rfl rfl (Za rfl rfl (Zn (hS100) A22 rfl rfl rfl ?_)))))))))
 obtain ⟨y101, q100, hm⟩ := Zg hm
 refine Za rfl rfl (Exec.call rfl rfl Try.func49 rfl N49 (Zi rfl args_nil) ((base_States_sim q100 hS100 a100).mono ?_))
 rintro _ w101 ⟨v105, rfl, ⟨s101, _, l100, hS101, rfl, r100⟩⟩
 refine ⟨_, rfl, ?_⟩
 refine Za rfl rfl (Zo (v := v105) rfl rfl (Zb (Ze (Zc (Zd (Za rfl rfl (Zm (v := v105) rfl rfl (Za rfl rfl (Zr S83 rfl rfl r100 ?_)))))))))
 obtain ⟨l101, q101, hm⟩ := Zg hm
 refine Za rfl rfl (Exec.make (E := (encInt .i64)) hS101 S22 Z3 rfl rfl rfl rfl q101 ?_)
 intro v106 w102 hS102
 refine Za rfl rfl (Zo (v := v106) rfl rfl (Zb (Ze (Zc (Zc (Zd (Za rfl rfl (Zm (v := v105) rfl rfl (Za rfl rfl (Zr S83 rfl rfl r100 (Za rfl rfl (Zm (v := Value.int .i64 (0)) rfl rfl ?_))))))))))))
 refine Zb (Ze ?_)
 obtain ⟨l102, hB100, hm⟩ := Zg hm
 refine W_block (W_forS (fun k' s' f' w' => (fun (l102 : (List Int)) => ∃ (s102 : PHeap) , PHeap.le s101 s102 ∧ St w0 s102 (Res.box b100 55 [v100, v101, v102, v103] :: Res.arr (encInt .i64) 3 v106 l102 :: H) w' ∧ f' 1 = Value.slice none 0 0 ∧ f' 2 = Value.pointer (some ⟨b100, 0, none⟩) ∧ f' 6 = v106 ∧ f' 20 = v105 ∧ f' 21 = Value.int .i64 ((y101.length : Int)) ∧ f' 22 = Value.int .i64 (k' : Int)) s') hB100 ?_ ?_ ?_)
 ·have hS103 := (hS102).f1
  exact ⟨s101, (Zv _), hS103, rfl, rfl, rfl, rfl, rfl, rfl⟩
 ·intro i100 l102 s103 f100 w103 hi100 hI100 hm100
  obtain ⟨s104, l103, hS104, p100, p101, p102, p103, p104, x100⟩ := hI100
  refine Zc (Zd (Za rfl rfl (Zq rfl x100 p104 (Zb (Ze (Zc (W_true (congrArg Value.bool (decide_eq_true (by omega))) (W_skip (Ze (Zc ?_))))))))))
  refine W_block (Zc (Zd (Za rfl rfl (Zm (v := Value.int .i64 ((i100 : Int))) rfl x100 ?_))))
  obtain ⟨x101, q102, hm100⟩ := Zg hm100
  refine Za rfl rfl (Exec.index_rep S83 rfl p103 x100 (r100.mono l103) q102 ?_)
  intro b101 o100 a104
  refine Za rfl rfl (Zw (E := (encSlice (encInt .i64))) hS104 A22 rfl rfl rfl a104 ?_)
  intro v107 q103
  have r101 := encSlice_val.1 q103
  refine Za rfl rfl (Zo (v := Value.int .i64 ((i100 : Int))) rfl rfl (Za rfl rfl (Zo (v := v107) rfl rfl (Zb (Ze (Zc (Zd (Za rfl rfl (Zm (v := v106) rfl p102 (Za rfl rfl (Zm (v := Value.int .i64 ((i100 : Int))) rfl rfl ?_)))))))))))
  obtain ⟨x102, q104, hm100⟩ := Zg hm100
  obtain ⟨g100, c100, e100⟩ := ((hS104).f1).arr_at q104
  refine Za rfl rfl (Exec.index_slice S22 rfl e100 rfl (idx_some q104).1 (idx_some q104).2.1 ?_)
  obtain ⟨l104, q105, hm100⟩ := Zg hm100
  have hS105 := (hS104).f1
  refine Za rfl rfl (Exec.store_arr hS105 e100 A3 rfl rfl rfl rfl (encInt_val.2 rfl) q105 ?_)
  intro w104 hS106
  refine Zb (Ze (Zc (Zd (Za rfl rfl (Zp F55_2 rfl p101 rfl (Za rfl rfl (Zn ((hS106).f1) A52 rfl rfl rfl (Za rfl rfl (Zm (v := v107) rfl rfl ?_)))))))))
  obtain ⟨y102, q106, hm100⟩ := Zg hm100
  refine Za rfl rfl (Exec.call rfl rfl Try.func51 rfl N51 (Zi rfl (Zi rfl args_nil)) ((base_Holds_sim q106 hS106 (a102.mono (Zt l100 l103)) r101).mono ?_))
  rintro _ w105 ⟨_, rfl, ⟨s105, l105, hS107, rfl⟩⟩
  refine ⟨_, rfl, ?_⟩
  refine Zb (Ze ?_)
  obtain ⟨l106, ht100, hm100⟩ := Zg hm100
  refine W_mid (M := fun f' w' => (fun (l106 : (List Int)) => ∃ (s106 : PHeap) , PHeap.le s105 s106 ∧ St w0 s106 (Res.box b100 55 [v100, v101, v102, v103] :: Res.arr (encInt .i64) 3 v106 l106 :: H) w' ∧ f' 1 = Value.slice none 0 0 ∧ f' 2 = Value.pointer (some ⟨b100, 0, none⟩) ∧ f' 6 = v106 ∧ f' 20 = v105 ∧ f' 21 = Value.int .i64 ((y101.length : Int)) ∧ f' 22 = Value.int .i64 ((i100 : Int))) l106) ?_ ?_
  ·rcases ite_some ht100 with ⟨hc100, ht100⟩ | ⟨hc100, ht100⟩
   ·refine W_cond_t rfl hc100 (Zd (Za rfl rfl (Zm (v := v106) rfl p102 (Za rfl rfl (Zm (v := Value.int .i64 ((i100 : Int))) rfl rfl ?_)))))
    obtain ⟨x103, q107, ht100⟩ := Zg ht100
    obtain ⟨g101, c101, e101⟩ := (hS107).arr_at q107
    refine Za rfl rfl (Exec.index_slice S22 rfl e101 rfl (idx_some q107).1 (idx_some q107).2.1 ?_)
    obtain ⟨l107, q108, ht100⟩ := Zg ht100
    refine Za rfl rfl (Exec.store_arr hS107 e101 A3 rfl rfl rfl rfl (encInt_val.2 rfl) q108 ?_)
    intro w106 hS108
    refine Zb (Ze ?_)
    have e102 := Zu ht100
    subst l106
    have hS109 := (hS108).f1
    exact ⟨s105, (Zv _), hS109, p100, p101, p102, p103, p104, x100⟩
   refine W_cond_f rfl hc100 ?_
   replace hc100 := Zk hc100
   refine W_skip (Ze ?_)
   have e103 := Zu ht100
   subst l106
   have hS110 := (hS107).f1
   exact ⟨s105, (Zv _), hS110, p100, p101, p102, p103, p104, x100⟩
  intro f101 w107 hM100
  obtain ⟨s107, l108, hS111, p105, p106, p107, p108, p109, p110⟩ := hM100
  refine (ib_normal (Ze (Zd (Za rfl rfl (Exec.add rfl p110 rfl (Za rfl rfl (Zm (v := Value.int .i64 (IntKind.i64.wrap ((i100 : Int) + 1))) rfl rfl (Zb (Ze ?_)))))))))
  have e104 := Zu hm100
  subst s103
  have hS112 := (hS111).f1
  have hS113 := (hS112).f1
  exact ⟨s107, (Zt (Zt l103 l105) l108), hS113, p105, p106, p107, p108, p109, (Eq.trans rfl (wrap_up hi100 (SliceRep.le r100)))⟩
 intro f102 w108 hI101
 obtain ⟨s108, l109, hS114, p111, p112, p113, p114, p115, x104⟩ := hI101
 refine Zc (Zd (Za rfl rfl (Zq rfl x104 p115 (Zb (Ze (Zc (W_false (congrArg Value.bool (decide_eq_false (by omega))) (W_exit (at_exit (at_exit (ib_here (Ze (Zc ?_)))))))))))))
 refine Zd (Za rfl rfl (Exec.load_box_agg (ds := [v100, v101, v102, v103]) (hS114) A55 rfl p112 rfl ?_))
 obtain ⟨y103, q109, hm⟩ := Zg hm
 refine Za rfl rfl (Exec.call rfl rfl Try.func52 rfl N52 (Zi rfl args_nil) ((base_Edges_sim q109 hS114 (a100.mono (Zt l100 l109)) (a101.mono (Zt l100 l109)) (a102.mono (Zt l100 l109)) (a103.mono (Zt l100 l109))).mono ?_))
 rintro _ w109 ⟨v108, rfl, ⟨s109, _, l110, hS115, rfl, r102⟩⟩
 refine ⟨_, rfl, ?_⟩
 refine Za rfl rfl (Zo (v := v108) rfl rfl (Zb (Ze (Zc (Zc (Zd (Za rfl rfl (Zo (v := Value.bool (true)) rfl rfl (Zb (Ze ?_))))))))))
 obtain ⟨c102, hB101, hr100, hn100, hb100⟩ := ctl_some hm
 refine W_mid (M := fun f' w' => ∃ s', (c102 = .next s' ∨ c102 = .brk s') ∧ (un2 fun (changed100 : Bool) (l111 : (List Int)) => ∃ (s110 : PHeap) , PHeap.le s109 s110 ∧ St w0 s110 (Res.box b100 55 [v100, v101, v102, v103] :: Res.arr (encInt .i64) 3 v106 l111 :: H) w' ∧ f' 1 = Value.slice none 0 0 ∧ f' 2 = Value.pointer (some ⟨b100, 0, none⟩) ∧ f' 6 = v106 ∧ f' 9 = v108 ∧ f' 10 = Value.bool (changed100)) s') ?_ ?_
 ·refine W_block (W_while (fun s' f' w' => (un2 fun (changed101 : Bool) (l112 : (List Int)) => ∃ (s111 : PHeap) , PHeap.le s109 s111 ∧ St w0 s111 (Res.box b100 55 [v100, v101, v102, v103] :: Res.arr (encInt .i64) 3 v106 l112 :: H) w' ∧ f' 1 = Value.slice none 0 0 ∧ f' 2 = Value.pointer (some ⟨b100, 0, none⟩) ∧ f' 6 = v106 ∧ f' 9 = v108 ∧ f' 10 = Value.bool (changed101)) s') hB101 ?_ ?_)
  ·have hS116 := (hS115).f1
   have hS117 := (hS116).f1
   exact ⟨s109, (Zv _), hS117, p111, p112, p113, rfl, rfl⟩
  intro t101 c103 f103 w110 hI102 hm101 hres100
  obtain ⟨changed101, l112⟩ := t101
  replace hm101 := un2_eq hm101
  obtain ⟨s112, l113, hS118, p116, p117, p118, p119, p120⟩ := hI102
  refine Zc (Zc (Zd (Za rfl rfl (Zm (v := Value.bool (changed101)) rfl p120 (Zb (Ze ?_))))))
  rcases ite_some hm101 with ⟨hc101, hm101⟩ | ⟨hc101, hm101⟩
  ·refine W_cond_t rfl hc101 (W_skip (Ze (W_block (Zc (Zd (Za rfl rfl (Zo (v := Value.bool (false)) rfl rfl (Zb (Ze (Zc ?_))))))))))
   refine Zd (Za rfl rfl (Zm (v := v108) rfl p119 (Za rfl rfl (Zr S88 rfl rfl (r102.mono l113) (Za rfl rfl (Zm (v := Value.int .i64 (0)) rfl rfl (Zb (Ze ?_))))))))
   obtain ⟨t102, hB102, hm101⟩ := Zg hm101
   refine W_block (W_forS (fun k' s' f' w' => (un2 fun (changed102 : Bool) (l114 : (List Int)) => ∃ (s113 : PHeap) , PHeap.le s112 s113 ∧ St w0 s113 (Res.box b100 55 [v100, v101, v102, v103] :: Res.arr (encInt .i64) 3 v106 l114 :: H) w' ∧ f' 1 = Value.slice none 0 0 ∧ f' 2 = Value.pointer (some ⟨b100, 0, none⟩) ∧ f' 6 = v106 ∧ f' 9 = v108 ∧ f' 10 = Value.bool (changed102) ∧ f' 41 = v108 ∧ f' 42 = Value.int .i64 ((y103.length : Int)) ∧ f' 43 = Value.int .i64 (k' : Int)) s') hB102 ?_ ?_ ?_)
   ·have hS119 := (hS118).f1
    have hS120 := (hS119).f1
    exact ⟨s112, (Zv _), hS120, p116, p117, p118, p119, rfl, rfl, rfl, rfl⟩
   ·intro i101 t103 s114 f104 w111 hi101 hI103 hm102
    obtain ⟨changed102, l114⟩ := t103
    replace hm102 := un2_eq hm102
    obtain ⟨s115, l115, hS121, p121, p122, p123, p124, p125, p126, p127, x105⟩ := hI103
    refine Zc (Zd (Za rfl rfl (Zq rfl x105 p127 (Zb (Ze (Zc (W_true (congrArg Value.bool (decide_eq_true (by omega))) (W_skip (Ze (Zc ?_))))))))))
    refine W_block (Zc (Zd ?_))
    obtain ⟨x106, q110, hm102⟩ := Zg hm102
    refine Za rfl rfl (Exec.index_rep S88 rfl p126 x105 (r102.mono (Zt l113 l115)) q110 ?_)
    intro b102 o101 a105
    refine Za rfl rfl (Zw (E := encbase_Edge) hS121 A91 rfl rfl rfl a105 ?_)
    intro v109 q111
    obtain rfl := encbase_Edge_val.1 q111
    refine Za rfl rfl (Exec.alloc (cs := [Value.int .i64 (0), Value.int .i64 (0), Value.int .i64 (0)]) hS121 Z91 rfl rfl ?_)
    intro b103 w112 hS122
    refine Za rfl rfl (Exec.store_box (ds := [Value.int .i64 (x106.From), Value.int .i64 (x106.Op), Value.int .i64 (x106.To)]) (es := [Value.int .i64 (x106.From), Value.int .i64 (x106.Op), Value.int .i64 (x106.To)]) hS122 A91 rfl rfl rfl rfl (Zj rfl (Zj rfl (Zj rfl one_nil))) (Nat.le_of_ble_eq_true rfl) rfl ?_)
    intro w113 hS123
    refine Zb (Ze (Zc (Zd (Za rfl rfl (Zp F55_3 rfl p122 rfl (Za rfl rfl (Zn ((hS123).f1) A53 rfl rfl rfl (Za rfl rfl (Zp F91_1 rfl rfl rfl (Za rfl rfl (Zn (hS123) A3 rfl rfl rfl ?_)))))))))))
    obtain ⟨x107, q112, hm102⟩ := Zg hm102
    refine Za rfl rfl (Exec.index_rep S53 rfl rfl rfl (a103.mono (Zt (Zt (Zt (Zt l100 l109) l110) l113) l115)) q112 ?_)
    intro b104 o102 a106
    refine Za rfl rfl (Zp F79_1 rfl rfl rfl (Za rfl rfl (Zw (E := (encInt .i64)) hS123 A3 rfl rfl rfl (a106.sub (Sub.iso (Sub.snd (Sub.fst (Sub.refl _)) rfl)) rfl) ?_)))
    intro v110 q113
    obtain rfl := encInt_val.1 q113
    refine Za rfl rfl (Zo (v := Value.int .i64 (x107.Cost)) rfl rfl (Zb (Ze (Zc (Zc (Zd (Za rfl rfl (Zm (v := Value.slice none 0 0) rfl p121 (Za rfl rfl (Exec.slice_neq_nil Try.underlying22 rfl rfl rfl (Zb (Ze ?_))))))))))))
    refine W_false rfl (W_skip (Ze (Zc ?_)))
    obtain ⟨z100, ht101, hm102⟩ := Zg hm102
    refine W_mid (M := fun f' w' => (fun (z100 : Bool) => ∃ (s116 : PHeap) , PHeap.le s115 s116 ∧ St w0 s116 (Res.box b100 55 [v100, v101, v102, v103] :: Res.arr (encInt .i64) 3 v106 l114 :: Res.box b103 91 [Value.int .i64 (x106.From), Value.int .i64 (x106.Op), Value.int .i64 (x106.To)] :: H) w' ∧ f' 1 = Value.slice none 0 0 ∧ f' 2 = Value.pointer (some ⟨b100, 0, none⟩) ∧ f' 6 = v106 ∧ f' 9 = v108 ∧ f' 10 = Value.bool (changed102) ∧ f' 12 = Value.pointer (some ⟨b103, 0, none⟩) ∧ f' 13 = Value.int .i64 (x107.Cost) ∧ f' 41 = v108 ∧ f' 42 = Value.int .i64 ((y103.length : Int)) ∧ f' 43 = Value.int .i64 ((i101 : Int)) ∧ f' 81 = Value.bool (z100)) z100) ?_ ?_
    ·refine W_dl (n0 := 21) (.q 0 (.q 1 (.q 2 (.q 3 (.q 4 (.q 5 (.q 6 (.q 7 (.q 8 (.q 9 (.q 10 (.q 11 (.q 12 (.q 13 (.q 14 (.q 15 (.q 16 (.q 17 (.q 18 (.q 19 (.q 20 .done))))))))))))))))))))) hmix (by kernel_rfl) (by kernel_rfl) ?_
     have hS124 := hS123.drew
     refine DL_q rfl rfl (Zm (v := v106) rfl p123 ⟨rfl, ?_⟩)
     refine DL_q rfl rfl (Zp F91_2 rfl rfl rfl ⟨rfl, ?_⟩)
     refine DL_q rfl rfl (Zn (hS124) A3 rfl rfl rfl ⟨rfl, ?_⟩)
     obtain ⟨x108, q114, ht101⟩ := Zg ht101
     obtain ⟨g102, c104, e105⟩ := ((hS124).f2).arr_at q114
     refine DL_q rfl rfl (Exec.index_slice S22 rfl e105 rfl (idx_some q114).1 (idx_some q114).2.1 ⟨rfl, ?_⟩)
     refine DL_q rfl rfl (Exec.load_arr (F := (encInt .i64)) ((hS124).f2) e105 A3 rfl rfl rfl q114 (Sub.refl _) ?_)
     intro v111 q115
     obtain rfl := encInt_val.1 q115
     refine ⟨rfl, ?_⟩
     refine DL_q rfl rfl (Zq rfl rfl rfl ⟨rfl, ?_⟩)
     refine DL_q rfl rfl (Zm (v := Value.bool (decide (x108 < 1125899906842624))) rfl rfl ⟨rfl, ?_⟩)
     rcases ite_some ht101 with ⟨hc102, ht101⟩ | ⟨hc102, ht101⟩
     ·refine DL_qg rfl rfl (Zf rfl (congrArg Value.bool hc102)) (Zm (v := v106) rfl p123 ⟨rfl, ?_⟩)
      refine DL_qg rfl rfl (Zf rfl (congrArg Value.bool hc102)) (Zp F91_2 rfl rfl rfl ⟨rfl, ?_⟩)
      refine DL_qg rfl rfl (Zf rfl (congrArg Value.bool hc102)) (Zn (hS124) A3 rfl rfl rfl ⟨rfl, ?_⟩)
      obtain ⟨g103, c105, e106⟩ := ((hS124).f2).arr_at q114
      refine DL_qg rfl rfl (Zf rfl (congrArg Value.bool hc102)) (Exec.index_slice S22 rfl e106 rfl (idx_some q114).1 (idx_some q114).2.1 ⟨rfl, ?_⟩)
      refine DL_qg rfl rfl (Zf rfl (congrArg Value.bool hc102)) (Exec.load_arr (F := (encInt .i64)) ((hS124).f2) e106 A3 rfl rfl rfl q114 (Sub.refl _) ?_)
      intro v112 q116
      obtain rfl := encInt_val.1 q116
      refine ⟨rfl, ?_⟩
      refine DL_qg rfl rfl (Zf rfl (congrArg Value.bool hc102)) (Zm (v := Value.int .i64 (x107.Cost)) rfl rfl ⟨rfl, ?_⟩)
      refine DL_qg rfl rfl (Zf rfl (congrArg Value.bool hc102)) (Exec.add rfl rfl rfl ⟨rfl, ?_⟩)
      refine DL_qg rfl rfl (Zf rfl (congrArg Value.bool hc102)) (Zm (v := v106) rfl p123 ⟨rfl, ?_⟩)
      refine DL_qg rfl rfl (Zf rfl (congrArg Value.bool hc102)) (Zp F91_0 rfl rfl rfl ⟨rfl, ?_⟩)
      refine DL_qg rfl rfl (Zf rfl (congrArg Value.bool hc102)) (Zn (hS124) A3 rfl rfl rfl ⟨rfl, ?_⟩)
      obtain ⟨x109, q117, ht101⟩ := Zg ht101
      obtain ⟨g104, c106, e107⟩ := ((hS124).f2).arr_at q117
      refine DL_qg rfl rfl (Zf rfl (congrArg Value.bool hc102)) (Exec.index_slice S22 rfl e107 rfl (idx_some q117).1 (idx_some q117).2.1 ⟨rfl, ?_⟩)
      refine DL_qg rfl rfl (Zf rfl (congrArg Value.bool hc102)) (Exec.load_arr (F := (encInt .i64)) ((hS124).f2) e107 A3 rfl rfl rfl q117 (Sub.refl _) ?_)
      intro v113 q118
      obtain rfl := encInt_val.1 q118
      refine ⟨rfl, ?_⟩
      refine DL_qg rfl rfl (Zf rfl (congrArg Value.bool hc102)) (Zq rfl rfl rfl ⟨rfl, ?_⟩)
      refine DL_q rfl rfl (Zs (v := Value.bool (decide ((IntKind.i64.wrap (x108 + x107.Cost)) < x109))) rfl (congrArg Value.bool hc102) rfl ⟨rfl, ?_⟩)
      refine DL_done (Zb (Ze ?_))
      have e108 := Zu ht101
      subst z100
      have hS125 := (hS124).f2
      have hS126 := (hS125).f2
      exact ⟨s115, (Zv _), hS126, p121, p122, p123, p124, p125, rfl, rfl, p126, p127, x105, rfl⟩
     replace hc102 := Zk hc102
     refine DL_qp rfl rfl (Zf rfl (congrArg Value.bool hc102)) rfl (DL_qp rfl rfl (Zf rfl (congrArg Value.bool hc102)) rfl (DL_qp rfl rfl (Zf rfl (congrArg Value.bool hc102)) rfl (DL_qp rfl rfl (Zf rfl (congrArg Value.bool hc102)) rfl (DL_qp rfl rfl (Zf rfl (congrArg Value.bool hc102)) rfl (DL_qp rfl rfl (Zf rfl (congrArg Value.bool hc102)) rfl (DL_qp rfl rfl (Zf rfl (congrArg Value.bool hc102)) rfl (DL_qp rfl rfl (Zf rfl (congrArg Value.bool hc102)) rfl ?_)))))))
     refine DL_qp rfl rfl (Zf rfl (congrArg Value.bool hc102)) rfl (DL_qp rfl rfl (Zf rfl (congrArg Value.bool hc102)) rfl (DL_qp rfl rfl (Zf rfl (congrArg Value.bool hc102)) rfl (DL_qp rfl rfl (Zf rfl (congrArg Value.bool hc102)) rfl (DL_qp rfl rfl (Zf rfl (congrArg Value.bool hc102)) rfl (DL_q rfl rfl (Exec.pick_f (v := Value.bool (false)) rfl (congrArg Value.bool hc102) rfl ⟨rfl, ?_⟩))))))
     refine DL_done (Zb (Ze ?_))
     have e109 := Zu ht101
     subst z100
     have hS127 := (hS124).f2
     have hS128 := (hS127).f2
     exact ⟨s115, (Zv _), hS128, p121, p122, p123, p124, p125, rfl, rfl, p126, p127, x105, rfl⟩
    intro f105 w114 hM101
    obtain ⟨s117, l116, hS129, p128, p129, p130, p131, p132, p133, p134, p135, p136, p137, p138⟩ := hM101
    refine (Ze ?_)
    obtain ⟨t104, ht102, hm102⟩ := Zg hm102
    refine W_mid (M := fun f' w' => (un2 fun (changed103 : Bool) (l117 : (List Int)) => ∃ (s118 : PHeap) , PHeap.le s117 s118 ∧ St w0 s118 (Res.box b100 55 [v100, v101, v102, v103] :: Res.arr (encInt .i64) 3 v106 l117 :: H) w' ∧ f' 1 = Value.slice none 0 0 ∧ f' 2 = Value.pointer (some ⟨b100, 0, none⟩) ∧ f' 6 = v106 ∧ f' 9 = v108 ∧ f' 10 = Value.bool (changed103) ∧ f' 41 = v108 ∧ f' 42 = Value.int .i64 ((y103.length : Int)) ∧ f' 43 = Value.int .i64 ((i101 : Int))) t104) ?_ ?_
    ·rcases ite_some ht102 with ⟨hc103, ht102⟩ | ⟨hc103, ht102⟩
     ·refine W_cond_t p138 hc103 (Zc (W_dl (n0 := 10) (.q 0 (.q 1 (.q 2 (.q 3 (.q 4 (.q 5 (.q 6 (.q 7 (.q 8 (.q 9 .done)))))))))) hmix (by kernel_rfl) (by kernel_rfl) ?_))
      have hS130 := hS129.drew
      refine DL_q rfl rfl (Zm (v := v106) rfl p130 ⟨rfl, ?_⟩)
      refine DL_q rfl rfl (Zp F91_0 rfl p133 rfl ⟨rfl, ?_⟩)
      refine DL_q rfl rfl (Zn ((hS130).f2) A3 rfl rfl rfl ⟨rfl, ?_⟩)
      refine DL_q rfl rfl (Zm (v := v106) rfl p130 ⟨rfl, ?_⟩)
      refine DL_q rfl rfl (Zp F91_2 rfl p133 rfl ⟨rfl, ?_⟩)
      refine DL_q rfl rfl (Zn ((hS130).f2) A3 rfl rfl rfl ⟨rfl, ?_⟩)
      obtain ⟨x110, q119, ht102⟩ := Zg ht102
      obtain ⟨g105, c107, e110⟩ := ((hS130).f1).arr_at q119
      refine DL_q rfl rfl (Exec.index_slice S22 rfl e110 rfl (idx_some q119).1 (idx_some q119).2.1 ⟨rfl, ?_⟩)
      refine DL_q rfl rfl (Exec.load_arr (F := (encInt .i64)) ((hS130).f1) e110 A3 rfl rfl rfl q119 (Sub.refl _) ?_)
      intro v114 q120
      obtain rfl := encInt_val.1 q120
      refine ⟨rfl, ?_⟩
      refine DL_q rfl rfl (Zm (v := Value.int .i64 (x107.Cost)) rfl p134 ⟨rfl, ?_⟩)
      refine DL_q rfl rfl (Exec.add rfl rfl rfl ⟨rfl, ?_⟩)
      refine DL_done ?_
      obtain ⟨x111, q121, ht102⟩ := Zg ht102
      obtain ⟨g106, c108, e111⟩ := ((hS130).f1).arr_at q121
      refine Za rfl rfl (Exec.index_slice S22 rfl e111 rfl (idx_some q121).1 (idx_some q121).2.1 ?_)
      obtain ⟨l118, q122, ht102⟩ := Zg ht102
      have hS131 := (hS130).f1
      refine Za rfl rfl (Exec.store_arr hS131 e111 A3 rfl rfl rfl rfl (encInt_val.2 rfl) q122 ?_)
      intro w115 hS132
      refine Zb (Ze (Zd (Za rfl rfl (Zo (v := Value.bool (true)) rfl rfl (Zb (Ze ?_))))))
      have e112 := Zu ht102
      subst t104
      have hS133 := ((hS132).f2).drop
      have hS134 := (hS133).f1
      exact ⟨s117, (Zv _), hS134, p128, p129, p130, p131, rfl, p135, p136, p137⟩
     refine W_cond_f p138 hc103 ?_
     replace hc103 := Zk hc103
     refine W_skip (Ze ?_)
     have e113 := Zu ht102
     subst t104
     have hS135 := ((hS129).f2).drop
     have hS136 := (hS135).f1
     have hS137 := (hS136).f1
     exact ⟨s117, (Zv _), hS137, p128, p129, p130, p131, p132, p135, p136, p137⟩
    intro f106 w116 hM102
    obtain ⟨changed103, l117⟩ := t104
    replace hm102 := un2_eq hm102
    obtain ⟨s119, l119, hS138, p139, p140, p141, p142, p143, p144, p145, p146⟩ := hM102
    refine (ib_normal (Ze (Zd (Za rfl rfl (Exec.add rfl p146 rfl (Za rfl rfl (Zm (v := Value.int .i64 (IntKind.i64.wrap ((i101 : Int) + 1))) rfl rfl (Zb (Ze ?_)))))))))
    have e114 := Zu hm102
    subst s114
    have hS139 := (hS138).f1
    have hS140 := (hS139).f1
    exact ⟨s119, (Zt (Zt l115 l116) l119), hS140, p139, p140, p141, p142, p143, p144, p145, (Eq.trans rfl (wrap_up hi101 (SliceRep.le (r102.mono l113))))⟩
   intro f107 w117 hI104
   obtain ⟨changed102, l114⟩ := t102
   replace hm101 := un2_eq hm101
   obtain ⟨s120, l120, hS141, p147, p148, p149, p150, p151, p152, p153, x112⟩ := hI104
   refine Zc (Zd (Za rfl rfl (Zq rfl x112 p153 (Zb (Ze (Zc (W_false (congrArg Value.bool (decide_eq_false (by omega))) (W_exit (at_exit (at_exit (ib_here (ib_normal (Ze ?_)))))))))))))
   have e115 := Zu hm101
   subst c103
   have hS142 := (hS141).f1
   have hS143 := (hS142).f1
   refine ⟨_, rfl, ?_⟩; exact ⟨s120, (Zt l113 l120), hS143, p147, p148, p149, p150, p151⟩
  refine W_cond_f rfl hc101 ?_
  replace hc101 := Zk hc101
  refine W_exit (at_exit (at_exit (ib_here (Ze ?_))))
  have e116 := Zu hm101
  subst c103
  have hS144 := (hS118).f1
  have hS145 := (hS144).f1
  refine ⟨_, .inr (hres100 (by intro _ h; cases h)), ?_⟩; exact ⟨s112, l113, hS145, p116, p117, p118, p119, p120⟩
 rintro f108 w118 ⟨t105, hc104, hM103⟩
 have hm := hc104.elim (hn100 _) (hb100 _)
 clear hc104
 obtain ⟨changed100, l111⟩ := t105
 replace hm := un2_eq hm
 obtain ⟨s121, l121, hS146, p154, p155, p156, p157, p158⟩ := hM103
 refine (Ze (Zc (Zd (Za rfl rfl (Zm (v := v106) rfl p156 (Za rfl rfl (Zo (v := v106) rfl rfl (Zb (Ze (W_ret ?_))))))))))
 have e117 := Zu hm
 subst r
 refine ⟨_, ret1 rfl, ?_⟩
 have hS147 := (hS146).f1
 obtain ⟨s122, l122, hS148, r103⟩ := hS147.freezeArr
 have hS149 := (hS148).drop
 exact ⟨s122, v106, (Zt (Zt (Zt (Zt l100 l109) l110) l121) l122), hS149, rfl, r103⟩
theorem N34 : (Try.f34.name == "runtime.NumGoroutine") = false := by kernel_rfl
end Go.Pw
