/-
  The walks (printed by my generator).
-/
import Derived.Test.YtdhfofhginfdnaaAt4
set_option maxRecDepth 100000
set_option maxHeartbeats 4000000
set_option linter.unusedVariables false
namespace Go.Pw
open Go.Proofs
theorem ref44_Same_sim {w0 w : World} {s : PHeap} {H : List Res} {a100 : System} {b100 : System} {v100 : Value} {v101 : Value} {v102 : Value} {v103 : Value} {v104 : Value} {v105 : Value} {r : Bool} (hm : ref44_Same_p a100 b100 = some r) (hS : St w0 s (H) w) (a101 : SliceRep (encInt .i64) s v100 a100.Costs) (a102 : SliceRep encEdge s v101 a100.Edges) (a103 : SliceRep encBool s v102 a100.Goals) (a104 : SliceRep (encInt .i64) s v103 b100.Costs) (a105 : SliceRep encEdge s v104 b100.Edges) (a106 : SliceRep encBool s v105 b100.Goals) :
  Calls Try.prog 14 #[Value.agg #[Value.int .i64 (a100.States), Value.int .i64 (a100.Init), v100, v101, v102], Value.agg #[Value.int .i64 (b100.States), Value.int .i64 (b100.Init), v103, v104, v105]] w fun e w' => ∃ v, e = .returned v ∧ ((fun (y100 : Bool) => ∃ (s100 : PHeap) , PHeap.le s s100 ∧ St w0 s100 (H) w' ∧ v = Value.bool (y100)) r) := by
 unfold ref44_Same_p at hm
 refine calls_of_W Try.func14 rfl rfl ?_
 refine Zc ?_
 refine Zd ?_
 refine Za rfl rfl (Exec.box (cs := [Value.int .i64 (a100.States), Value.int .i64 (a100.Init), v100, v101, v102]) hS rfl rfl rfl ?_)
 intro b101 w100 hS100
 refine Za rfl rfl (Exec.box (cs := [Value.int .i64 (b100.States), Value.int .i64 (b100.Init), v103, v104, v105]) hS100 rfl rfl rfl ?_)
 intro b102 w101 hS101
 refine Za rfl rfl (Exec.assign (v := Value.bool (false)) rfl rfl ?_)
 refine Zb (Ze ?_)
 refine Zc ?_
 refine Zc ?_
 obtain ⟨z100, ht100, hm⟩ := Zg hm
 refine W_mid (M := fun f' w' => (fun (z100 : Bool) => ∃ (s101 : PHeap) , PHeap.le s s101 ∧ St w0 s101 (Res.box b101 26 [Value.int .i64 (a100.States), Value.int .i64 (a100.Init), v100, v101, v102] :: Res.box b102 26 [Value.int .i64 (b100.States), Value.int .i64 (b100.Init), v103, v104, v105] :: H) w' ∧ f' 2 = Value.pointer (some ⟨b101, 0, none⟩) ∧ f' 3 = Value.pointer (some ⟨b102, 0, none⟩) ∧ f' 44 = Value.bool (z100)) z100) ?_ ?_
 ·refine Zd ?_
  refine Za rfl rfl (Exec.field F26_0 rfl rfl rfl ?_)
  refine Za rfl rfl (Exec.load_box ((hS101).f1) A3 rfl rfl rfl ?_)
  refine Za rfl rfl (Exec.field F26_0 rfl rfl rfl ?_)
  refine Za rfl rfl (Exec.load_box (hS101) A3 rfl rfl rfl ?_)
  refine Za rfl rfl (Exec.neq rfl rfl rfl ?_)
  refine Za rfl rfl (Exec.move (v := Value.bool (!decide (a100.States = b100.States))) rfl rfl ?_)
  rcases ite_some ht100 with ⟨hc100, ht100⟩ | ⟨hc100, ht100⟩
  ·refine Zl rfl (Zf rfl (congrArg Value.bool hc100)) rfl rfl ?_
   refine Zl rfl (Zf rfl (congrArg Value.bool hc100)) rfl rfl ?_
   refine Zl rfl (Zf rfl (congrArg Value.bool hc100)) rfl rfl ?_
   refine Zl rfl (Zf rfl (congrArg Value.bool hc100)) rfl rfl ?_
   refine Zl rfl (Zf rfl (congrArg Value.bool hc100)) rfl rfl ?_
   refine Za rfl rfl (Exec.pick_t (v := Value.bool (true)) rfl (congrArg Value.bool hc100) rfl ?_)
   refine Za rfl rfl (Exec.move (v := Value.bool (true)) rfl rfl ?_)
   refine Zl rfl (Zf rfl rfl) rfl rfl ?_
   refine Zl rfl (Zf rfl rfl) rfl rfl ?_
   refine Zl rfl (Zf rfl rfl) rfl rfl ?_
   refine Zl rfl (Zf rfl rfl) rfl rfl ?_
   refine Zl rfl (Zf rfl rfl) rfl rfl ?_
   refine Zl rfl (Zf rfl rfl) rfl rfl ?_
   refine Za rfl rfl (Exec.pick_t (v := Value.bool (true)) rfl rfl rfl ?_)
   refine Za rfl rfl (Exec.move (v := Value.bool (true)) rfl rfl ?_)
   refine Zl rfl (Zf rfl rfl) rfl rfl ?_
   refine Zl rfl (Zf rfl rfl) rfl rfl ?_
   refine Zl rfl (Zf rfl rfl) rfl rfl ?_
   refine Zl rfl (Zf rfl rfl) rfl rfl ?_
   refine Zl rfl (Zf rfl rfl) rfl rfl ?_
   refine Zl rfl (Zf rfl rfl) rfl rfl ?_
   refine Zl rfl (Zf rfl rfl) rfl rfl ?_
   refine Za rfl rfl (Exec.pick_t (v := Value.bool (true)) rfl rfl rfl ?_)
   refine Za rfl rfl (Exec.move (v := Value.bool (true)) rfl rfl ?_)
   refine Zl rfl (Zf rfl rfl) rfl rfl ?_
   refine Zl rfl (Zf rfl rfl) rfl rfl ?_
   refine Zl rfl (Zf rfl rfl) rfl rfl ?_
   refine Zl rfl (Zf rfl rfl) rfl rfl ?_
   refine Zl rfl (Zf rfl rfl) rfl rfl ?_
   refine Zl rfl (Zf rfl rfl) rfl rfl ?_
   refine Zl rfl (Zf rfl rfl) rfl rfl ?_
   refine Za rfl rfl (Exec.pick_t (v := Value.bool (true)) rfl rfl rfl ?_)
   refine Zb (Ze ?_)
   have e100 := Zu ht100
   subst z100
   have hS102 := (hS101).f1
   exact ⟨s, (PHeap.le_refl _), hS102, rfl, rfl, rfl⟩
  ·replace hc100 := Zk hc100
   refine WL_run rfl (Zf rfl (congrArg Value.bool hc100)) rfl (Exec.field F26_1 rfl rfl rfl ?_)
   refine WL_run rfl (Zf rfl (congrArg Value.bool hc100)) rfl (Exec.load_box ((hS101).f1) A3 rfl rfl rfl ?_)
   refine WL_run rfl (Zf rfl (congrArg Value.bool hc100)) rfl (Exec.field F26_1 rfl rfl rfl ?_)
   refine WL_run rfl (Zf rfl (congrArg Value.bool hc100)) rfl (Exec.load_box (hS101) A3 rfl rfl rfl ?_)
   refine WL_run rfl (Zf rfl (congrArg Value.bool hc100)) rfl (Exec.neq rfl rfl rfl ?_)
   refine Za rfl rfl (Exec.pick_f (v := Value.bool (!decide (a100.Init = b100.Init))) rfl (congrArg Value.bool hc100) rfl ?_)
   refine Za rfl rfl (Exec.move (v := Value.bool (!decide (a100.Init = b100.Init))) rfl rfl ?_)
   rcases ite_some ht100 with ⟨hc101, ht100⟩ | ⟨hc101, ht100⟩
   ·refine Zl rfl (Zf rfl (congrArg Value.bool hc101)) rfl rfl ?_
    refine Zl rfl (Zf rfl (congrArg Value.bool hc101)) rfl rfl ?_
    refine Zl rfl (Zf rfl (congrArg Value.bool hc101)) rfl rfl ?_
    refine Zl rfl (Zf rfl (congrArg Value.bool hc101)) rfl rfl ?_
    refine Zl rfl (Zf rfl (congrArg Value.bool hc101)) rfl rfl ?_
    refine Zl rfl (Zf rfl (congrArg Value.bool hc101)) rfl rfl ?_
    refine Za rfl rfl (Exec.pick_t (v := Value.bool (true)) rfl (congrArg Value.bool hc101) rfl ?_)
    refine Za rfl rfl (Exec.move (v := Value.bool (true)) rfl rfl ?_)
    refine Zl rfl (Zf rfl rfl) rfl rfl ?_
    refine Zl rfl (Zf rfl rfl) rfl rfl ?_
    refine Zl rfl (Zf rfl rfl) rfl rfl ?_
    refine Zl rfl (Zf rfl rfl) rfl rfl ?_
    refine Zl rfl (Zf rfl rfl) rfl rfl ?_
    refine Zl rfl (Zf rfl rfl) rfl rfl ?_
    refine Zl rfl (Zf rfl rfl) rfl rfl ?_
    refine Za rfl rfl (Exec.pick_t (v := Value.bool (true)) rfl rfl rfl ?_)
    refine Za rfl rfl (Exec.move (v := Value.bool (true)) rfl rfl ?_)
    refine Zl rfl (Zf rfl rfl) rfl rfl ?_
    refine Zl rfl (Zf rfl rfl) rfl rfl ?_
    refine Zl rfl (Zf rfl rfl) rfl rfl ?_
    refine Zl rfl (Zf rfl rfl) rfl rfl ?_
    refine Zl rfl (Zf rfl rfl) rfl rfl ?_
    refine Zl rfl (Zf rfl rfl) rfl rfl ?_
    refine Zl rfl (Zf rfl rfl) rfl rfl ?_
    refine Za rfl rfl (Exec.pick_t (v := Value.bool (true)) rfl rfl rfl ?_)
    refine Zb (Ze ?_)
    have e101 := Zu ht100
    subst z100
    have hS103 := (hS101).f1
    exact ⟨s, (PHeap.le_refl _), hS103, rfl, rfl, rfl⟩
   ·replace hc101 := Zk hc101
    refine WL_run rfl (Zf rfl (congrArg Value.bool hc101)) rfl (Exec.field F26_2 rfl rfl rfl ?_)
    refine WL_run rfl (Zf rfl (congrArg Value.bool hc101)) rfl (Exec.load_box ((hS101).f1) A22 rfl rfl rfl ?_)
    refine WL_run rfl (Zf rfl (congrArg Value.bool hc101)) rfl (Exec.field F26_2 rfl rfl rfl ?_)
    refine WL_run rfl (Zf rfl (congrArg Value.bool hc101)) rfl (Exec.load_box (hS101) A22 rfl rfl rfl ?_)
    obtain ⟨y101, q100, ht100⟩ := Zg ht100
    refine WL_run rfl (Zf rfl (congrArg Value.bool hc101)) rfl (Exec.call rfl rfl Try.func20 rfl N20 (Zi rfl (Zi rfl args_nil)) ((base_Ints_sim q100 hS101 a101 a104).mono ?_))
    rintro _ w102 ⟨_, rfl, ⟨s102, l100, hS104, rfl⟩⟩
    refine ⟨_, rfl, ?_⟩
    refine WL_run rfl (Zf rfl (congrArg Value.bool hc101)) rfl (Exec.not rfl rfl ?_)
    refine Za rfl rfl (Exec.pick_f (v := Value.bool (!y101)) rfl (congrArg Value.bool hc101) rfl ?_)
    refine Za rfl rfl (Exec.move (v := Value.bool (!y101)) rfl rfl ?_)
    rcases ite_some ht100 with ⟨hc102, ht100⟩ | ⟨hc102, ht100⟩
    ·refine Zl rfl (Zf rfl (congrArg Value.bool hc102)) rfl rfl ?_
     refine Zl rfl (Zf rfl (congrArg Value.bool hc102)) rfl rfl ?_
     refine Zl rfl (Zf rfl (congrArg Value.bool hc102)) rfl rfl ?_
     refine Zl rfl (Zf rfl (congrArg Value.bool hc102)) rfl rfl ?_
     refine Zl rfl (Zf rfl (congrArg Value.bool hc102)) rfl rfl ?_
     refine Zl rfl (Zf rfl (congrArg Value.bool hc102)) rfl rfl ?_
     refine Zl rfl (Zf rfl (congrArg Value.bool hc102)) rfl rfl ?_
     refine Za rfl rfl (Exec.pick_t (v := Value.bool (true)) rfl (congrArg Value.bool hc102) rfl ?_)
     refine Za rfl rfl (Exec.move (v := Value.bool (true)) rfl rfl ?_)
     refine Zl rfl (Zf rfl rfl) rfl rfl ?_
     refine Zl rfl (Zf rfl rfl) rfl rfl ?_
     refine Zl rfl (Zf rfl rfl) rfl rfl ?_
     refine Zl rfl (Zf rfl rfl) rfl rfl ?_
     refine Zl rfl (Zf rfl rfl) rfl rfl ?_
     refine Zl rfl (Zf rfl rfl) rfl rfl ?_
     refine Zl rfl (Zf rfl rfl) rfl rfl ?_
     refine Za rfl rfl (Exec.pick_t (v := Value.bool (true)) rfl rfl rfl ?_)
     refine Zb (Ze ?_)
     have e102 := Zu ht100
     subst z100
     have hS105 := (hS104).f1
     exact ⟨s102, l100, hS105, rfl, rfl, rfl⟩
    ·replace hc102 := Zk hc102
     refine WL_run rfl (Zf rfl (congrArg Value.bool hc102)) rfl (Exec.field F26_3 rfl rfl rfl ?_)
     refine WL_run rfl (Zf rfl (congrArg Value.bool hc102)) rfl (Exec.load_box ((hS104).f1) A23 rfl rfl rfl ?_)
     refine WL_run rfl (Zf rfl (congrArg Value.bool hc102)) rfl (Exec.len_rep S23 rfl rfl (a102.mono l100) ?_)
     refine WL_run rfl (Zf rfl (congrArg Value.bool hc102)) rfl (Exec.field F26_3 rfl rfl rfl ?_)
     refine WL_run rfl (Zf rfl (congrArg Value.bool hc102)) rfl (Exec.load_box (hS104) A23 rfl rfl rfl ?_)
     refine WL_run rfl (Zf rfl (congrArg Value.bool hc102)) rfl (Exec.len_rep S23 rfl rfl (a105.mono l100) ?_)
     refine WL_run rfl (Zf rfl (congrArg Value.bool hc102)) rfl (Exec.neq rfl rfl rfl ?_)
     refine Za rfl rfl (Exec.pick_f (v := Value.bool (!decide ((a100.Edges.length : Int) = (b100.Edges.length : Int)))) rfl (congrArg Value.bool hc102) rfl ?_)
     refine Za rfl rfl (Exec.move (v := Value.bool (!decide ((a100.Edges.length : Int) = (b100.Edges.length : Int)))) rfl rfl ?_)
     rcases ite_some ht100 with ⟨hc103, ht100⟩ | ⟨hc103, ht100⟩
     ·refine Zl rfl (Zf rfl (congrArg Value.bool hc103)) rfl rfl ?_
      refine Zl rfl (Zf rfl (congrArg Value.bool hc103)) rfl rfl ?_
      refine Zl rfl (Zf rfl (congrArg Value.bool hc103)) rfl rfl ?_
      refine Zl rfl (Zf rfl (congrArg Value.bool hc103)) rfl rfl ?_
      refine Zl rfl (Zf rfl (congrArg Value.bool hc103)) rfl rfl ?_
      refine Zl rfl (Zf rfl (congrArg Value.bool hc103)) rfl rfl ?_
      refine Zl rfl (Zf rfl (congrArg Value.bool hc103)) rfl rfl ?_
      refine Za rfl rfl (Exec.pick_t (v := Value.bool (true)) rfl (congrArg Value.bool hc103) rfl ?_)
      refine Zb (Ze ?_)
      have e103 := Zu ht100
      subst z100
      have hS106 := (hS104).f1
      exact ⟨s102, l100, hS106, rfl, rfl, rfl⟩
     ·replace hc103 := Zk hc103
      refine WL_run rfl (Zf rfl (congrArg Value.bool hc103)) rfl (Exec.field F26_4 rfl rfl rfl ?_)
      refine WL_run rfl (Zf rfl (congrArg Value.bool hc103)) rfl (Exec.load_box ((hS104).f1) A24 rfl rfl rfl ?_)
      refine WL_run rfl (Zf rfl (congrArg Value.bool hc103)) rfl (Exec.len_rep S24 rfl rfl (a103.mono l100) ?_)
      refine WL_run rfl (Zf rfl (congrArg Value.bool hc103)) rfl (Exec.field F26_4 rfl rfl rfl ?_)
      refine WL_run rfl (Zf rfl (congrArg Value.bool hc103)) rfl (Exec.load_box (hS104) A24 rfl rfl rfl ?_)
      refine WL_run rfl (Zf rfl (congrArg Value.bool hc103)) rfl (Exec.len_rep S24 rfl rfl (a106.mono l100) ?_)
      refine WL_run rfl (Zf rfl (congrArg Value.bool hc103)) rfl (Exec.neq rfl rfl rfl ?_)
      refine Za rfl rfl (Exec.pick_f (v := Value.bool (!decide ((a100.Goals.length : Int) = (b100.Goals.length : Int)))) rfl (congrArg Value.bool hc103) rfl ?_)
      refine Zb (Ze ?_)
      have e104 := Zu ht100
      subst z100
      have hS107 := (hS104).f1
      exact ⟨s102, l100, hS107, rfl, rfl, rfl⟩
 ·intro f100 w103 hM100
  obtain ⟨s103, l101, hS108, p100, p101, p102⟩ := hM100
  refine (Ze ?_)
  rcases ite_some hm with ⟨hc104, hm⟩ | ⟨hc104, hm⟩
  ·refine W_cond_t p102 hc104 ?_
   refine Zc ?_
   refine Zd ?_
   refine Za rfl rfl (Exec.assign (v := Value.bool (false)) rfl rfl ?_)
   refine Zb (Ze ?_)
   refine W_ret (at_ret ?_)
   have e105 := Zu hm
   subst r
   refine ⟨_, ret1 rfl, ?_⟩
   have hS109 := (hS108).drop
   have hS110 := (hS109).drop
   exact ⟨s103, l101, hS110, rfl⟩
  ·refine W_cond_f p102 hc104 ?_
   replace hc104 := Zk hc104
   refine W_skip (Ze ?_)
   refine Zc ?_
   refine Zc ?_
   refine Zd ?_
   refine Za rfl rfl (Exec.field F26_3 rfl p100 rfl ?_)
   refine Za rfl rfl (Exec.load_box (hS108) A23 rfl rfl rfl ?_)
   refine Za rfl rfl (Exec.len_rep S23 rfl rfl (a102.mono l101) ?_)
   refine Za rfl rfl (Exec.move (v := Value.int .i64 (0)) rfl rfl ?_)
   refine Zb (Ze ?_)
   obtain ⟨c100, hB100, hr100, hn100, hb100⟩ := ctl_some hm
   refine W_mid (M := fun f' w' => ∃ s', (c100 = .next s' ∨ c100 = .brk s') ∧ (fun (_ : Unit) => ∃ (s104 : PHeap) , PHeap.le s103 s104 ∧ St w0 s104 (Res.box b101 26 [Value.int .i64 (a100.States), Value.int .i64 (a100.Init), v100, v101, v102] :: Res.box b102 26 [Value.int .i64 (b100.States), Value.int .i64 (b100.Init), v103, v104, v105] :: H) w' ∧ f' 2 = Value.pointer (some ⟨b101, 0, none⟩) ∧ f' 3 = Value.pointer (some ⟨b102, 0, none⟩) ∧ f' 47 = Value.int .i64 ((a100.Edges.length : Int))) s') ?_ ?_
   ·refine W_block (W_forC (fun k' s' f' w' => (fun (_ : Unit) => ∃ (s105 : PHeap) , PHeap.le s103 s105 ∧ St w0 s105 (Res.box b101 26 [Value.int .i64 (a100.States), Value.int .i64 (a100.Init), v100, v101, v102] :: Res.box b102 26 [Value.int .i64 (b100.States), Value.int .i64 (b100.Init), v103, v104, v105] :: H) w' ∧ f' 2 = Value.pointer (some ⟨b101, 0, none⟩) ∧ f' 3 = Value.pointer (some ⟨b102, 0, none⟩) ∧ f' 47 = Value.int .i64 ((a100.Edges.length : Int)) ∧ f' 48 = Value.int .i64 (k' : Int)) s') hB100 ?_ ?_ ?_)
    ·have hS111 := (hS108).f1
     have hS112 := (hS111).f1
     exact ⟨s103, (PHeap.le_refl _), hS112, p100, p101, rfl, rfl⟩
    ·intro i100 t100 c101 f101 w104 hi100 hI100 hm100 hres100
     obtain ⟨s106, l102, hS113, p103, p104, p105, x100⟩ := hI100
     refine Zc ?_
     refine Zd ?_
     refine Za rfl rfl (Exec.lss rfl x100 p105 ?_)
     refine Zb (Ze ?_)
     refine Zc ?_
     refine W_true (congrArg Value.bool (decide_eq_true (by omega))) ?_
     refine W_skip (Ze ?_)
     refine Zc ?_
     refine W_block ?_
     refine Zc ?_
     refine Zd ?_
     refine Za rfl rfl (Exec.move (v := Value.int .i64 ((i100 : Int))) rfl x100 ?_)
     refine Za rfl rfl (Exec.assign (v := Value.int .i64 ((i100 : Int))) rfl rfl ?_)
     refine Zb (Ze ?_)
     refine Zc ?_
     refine W_dl (n0 := 11) (.q 0 (.q 1 (.q 2 (.q 3 (.q 4 (.q 5 (.q 6 (.q 7 (.q 8 (.q 9 (.q 10 .done))))))))))) hmix (by kernel_rfl) (by kernel_rfl) ?_
     have hS114 := hS113.drew
     refine DL_q rfl rfl (Exec.field F26_3 rfl p103 rfl ⟨rfl, ?_⟩)
     refine DL_q rfl rfl (Exec.load_box (hS114) A23 rfl rfl rfl ⟨rfl, ?_⟩)
     refine DL_q rfl rfl (Exec.move (v := Value.int .i64 ((i100 : Int))) rfl rfl ⟨rfl, ?_⟩)
     obtain ⟨x101, q101, hm100⟩ := Zg hm100
     refine DL_q rfl rfl (Exec.index_repE S23 rfl rfl rfl (a102.mono (Zt l101 l102)) q101 ?_)
     intro b103 o100 a107 e106
     refine ⟨rfl, ?_⟩
     refine DL_q rfl rfl (Exec.load_at (E := encEdge) hS114 A66 rfl rfl rfl a107 ?_)
     intro v106 q102
     obtain rfl := encEdge_val.1 q102
     refine ⟨rfl, ?_⟩
     refine DL_q rfl rfl (Exec.field F26_3 rfl p104 rfl ⟨rfl, ?_⟩)
     refine DL_q rfl rfl (Exec.load_box ((hS114).f1) A23 rfl rfl rfl ⟨rfl, ?_⟩)
     refine DL_q rfl rfl (Exec.move (v := Value.int .i64 ((i100 : Int))) rfl rfl ⟨rfl, ?_⟩)
     obtain ⟨x102, q103, hm100⟩ := Zg hm100
     refine DL_q rfl rfl (Exec.index_repE S23 rfl rfl rfl (a105.mono (Zt l101 l102)) q103 ?_)
     intro b104 o101 a108 e107
     refine ⟨rfl, ?_⟩
     refine DL_q rfl rfl (Exec.load_at (E := encEdge) hS114 A66 rfl rfl rfl a108 ?_)
     intro v107 q104
     obtain rfl := encEdge_val.1 q104
     refine ⟨rfl, ?_⟩
     refine DL_q rfl rfl (Exec.ints_neq (xs := [x101.From, x101.Label, x101.To]) (ys := [x102.From, x102.Label, x102.To]) IS66 rfl rfl rfl rfl rfl rfl rfl ⟨rfl, ?_⟩)
     refine DL_done ?_
     refine Zb (Ze ?_)
     rcases ite_some hm100 with ⟨hc105, hm100⟩ | ⟨hc105, hm100⟩
     ·refine W_cond_t rfl hc105 ?_
      refine Zc ?_
      refine Zd ?_
      refine Za rfl rfl (Exec.assign (v := Value.bool (false)) rfl rfl ?_)
      refine Zb (Ze ?_)
      refine W_ret (ib_ret (at_ret (at_ret (ib_ret (at_ret (at_ret ?_))))))
      have e108 := Zu hm100
      subst c101
      have hq100 := hr100 _ (hres100 (by intro _ h; cases h))
      have e109 := Zu hq100
      subst r
      refine ⟨_, ret1 rfl, ?_⟩
      have hS115 := (hS114).drop
      have hS116 := (hS115).drop
      exact ⟨s106, (Zt l101 l102), hS116, rfl⟩
     ·refine W_cond_f rfl hc105 ?_
      replace hc105 := Zk hc105
      refine W_skip (ib_normal (Ze ?_))
      refine Zd ?_
      refine Za rfl rfl (Exec.add rfl x100 rfl ?_)
      refine Za rfl rfl (Exec.move (v := Value.int .i64 (IntKind.i64.wrap ((i100 : Int) + 1))) rfl rfl ?_)
      refine Zb (Ze ?_)
      have e110 := Zu hm100
      subst c101
      have hS117 := (hS114).f1
      have hS118 := (hS117).f1
      refine ⟨_, rfl, ?_⟩; exact ⟨s106, l102, hS118, p103, p104, p105, (Eq.trans rfl (wrap_up hi100 (SliceRep.le (a102.mono l101))))⟩
    ·intro t101 f102 w105 hI101 hres101
     obtain ⟨s107, l103, hS119, p106, p107, p108, x103⟩ := hI101
     refine Zc ?_
     refine Zd ?_
     refine Za rfl rfl (Exec.lss rfl x103 p108 ?_)
     refine Zb (Ze ?_)
     refine Zc ?_
     refine W_false (congrArg Value.bool (decide_eq_false (by omega))) ?_
     refine W_exit (at_exit (at_exit (ib_here (Ze ?_))))
     have hS120 := (hS119).f1
     have hS121 := (hS120).f1
     refine ⟨_, .inl hres101, ?_⟩; exact ⟨s107, l103, hS121, p106, p107, p108⟩
   ·rintro f103 w106 ⟨t102, hc106, hM101⟩
    have hm := hc106.elim (hn100 _) (hb100 _)
    clear hc106
    obtain ⟨s108, l104, hS122, p109, p110, p111⟩ := hM101
    refine (Ze ?_)
    refine Zc ?_
    refine Zc ?_
    refine Zd ?_
    refine Za rfl rfl (Exec.field F26_4 rfl p109 rfl ?_)
    refine Za rfl rfl (Exec.load_box (hS122) A24 rfl rfl rfl ?_)
    refine Za rfl rfl (Exec.len_rep S24 rfl rfl (a103.mono (Zt l101 l104)) ?_)
    refine Za rfl rfl (Exec.move (v := Value.int .i64 (0)) rfl rfl ?_)
    refine Zb (Ze ?_)
    obtain ⟨c102, hB101, hr101, hn101, hb101⟩ := ctl_some hm
    refine W_mid (M := fun f' w' => ∃ s', (c102 = .next s' ∨ c102 = .brk s') ∧ (fun (_ : Unit) => ∃ (s109 : PHeap) , PHeap.le s108 s109 ∧ St w0 s109 (Res.box b101 26 [Value.int .i64 (a100.States), Value.int .i64 (a100.Init), v100, v101, v102] :: Res.box b102 26 [Value.int .i64 (b100.States), Value.int .i64 (b100.Init), v103, v104, v105] :: H) w' ∧ f' 2 = Value.pointer (some ⟨b101, 0, none⟩) ∧ f' 3 = Value.pointer (some ⟨b102, 0, none⟩) ∧ f' 65 = Value.int .i64 ((a100.Goals.length : Int))) s') ?_ ?_
    ·refine W_block (W_forC (fun k' s' f' w' => (fun (_ : Unit) => ∃ (s110 : PHeap) , PHeap.le s108 s110 ∧ St w0 s110 (Res.box b101 26 [Value.int .i64 (a100.States), Value.int .i64 (a100.Init), v100, v101, v102] :: Res.box b102 26 [Value.int .i64 (b100.States), Value.int .i64 (b100.Init), v103, v104, v105] :: H) w' ∧ f' 2 = Value.pointer (some ⟨b101, 0, none⟩) ∧ f' 3 = Value.pointer (some ⟨b102, 0, none⟩) ∧ f' 65 = Value.int .i64 ((a100.Goals.length : Int)) ∧ f' 66 = Value.int .i64 (k' : Int)) s') hB101 ?_ ?_ ?_)
     ·have hS123 := (hS122).f1
      have hS124 := (hS123).f1
      exact ⟨s108, (PHeap.le_refl _), hS124, p109, p110, rfl, rfl⟩
     ·intro i101 t103 c103 f104 w107 hi101 hI102 hm101 hres102
      obtain ⟨s111, l105, hS125, p112, p113, p114, x104⟩ := hI102
      refine Zc ?_
      refine Zd ?_
      refine Za rfl rfl (Exec.lss rfl x104 p114 ?_)
      refine Zb (Ze ?_)
      refine Zc ?_
      refine W_true (congrArg Value.bool (decide_eq_true (by omega))) ?_
      refine W_skip (Ze ?_)
      refine Zc ?_
      refine W_block ?_
      refine Zc ?_
      refine Zd ?_
      refine Za rfl rfl (Exec.move (v := Value.int .i64 ((i101 : Int))) rfl x104 ?_)
      refine Za rfl rfl (Exec.assign (v := Value.int .i64 ((i101 : Int))) rfl rfl ?_)
      refine Zb (Ze ?_)
      refine Zc ?_
      refine W_dl (n0 := 11) (.q 0 (.q 1 (.q 2 (.q 3 (.q 4 (.q 5 (.q 6 (.q 7 (.q 8 (.q 9 (.q 10 .done))))))))))) hmix (by kernel_rfl) (by kernel_rfl) ?_
      have hS126 := hS125.drew
      refine DL_q rfl rfl (Exec.field F26_4 rfl p112 rfl ⟨rfl, ?_⟩)
      refine DL_q rfl rfl (Exec.load_box (hS126) A24 rfl rfl rfl ⟨rfl, ?_⟩)
      refine DL_q rfl rfl (Exec.move (v := Value.int .i64 ((i101 : Int))) rfl rfl ⟨rfl, ?_⟩)
      obtain ⟨x105, q105, hm101⟩ := Zg hm101
      refine DL_q rfl rfl (Exec.index_repE S24 rfl rfl rfl (a103.mono (Zt (Zt l101 l104) l105)) q105 ?_)
      intro b105 o102 a109 e111
      refine ⟨rfl, ?_⟩
      refine DL_q rfl rfl (Exec.load_at (E := encBool) hS126 A4 rfl rfl rfl a109 ?_)
      intro v108 q106
      obtain rfl := encBool_val.1 q106
      refine ⟨rfl, ?_⟩
      refine DL_q rfl rfl (Exec.field F26_4 rfl p113 rfl ⟨rfl, ?_⟩)
      refine DL_q rfl rfl (Exec.load_box ((hS126).f1) A24 rfl rfl rfl ⟨rfl, ?_⟩)
      refine DL_q rfl rfl (Exec.move (v := Value.int .i64 ((i101 : Int))) rfl rfl ⟨rfl, ?_⟩)
      obtain ⟨x106, q107, hm101⟩ := Zg hm101
      refine DL_q rfl rfl (Exec.index_repE S24 rfl rfl rfl (a106.mono (Zt (Zt l101 l104) l105)) q107 ?_)
      intro b106 o103 a110 e112
      refine ⟨rfl, ?_⟩
      refine DL_q rfl rfl (Exec.load_at (E := encBool) hS126 A4 rfl rfl rfl a110 ?_)
      intro v109 q108
      obtain rfl := encBool_val.1 q108
      refine ⟨rfl, ?_⟩
      refine DL_q rfl rfl (Exec.bool_neq Try.underlying4 rfl rfl rfl ⟨rfl, ?_⟩)
      refine DL_done ?_
      refine Zb (Ze ?_)
      rcases ite_some hm101 with ⟨hc107, hm101⟩ | ⟨hc107, hm101⟩
      ·refine W_cond_t rfl hc107 ?_
       refine Zc ?_
       refine Zd ?_
       refine Za rfl rfl (Exec.assign (v := Value.bool (false)) rfl rfl ?_)
       refine Zb (Ze ?_)
       refine W_ret (ib_ret (at_ret (at_ret (ib_ret (at_ret (at_ret ?_))))))
       have e113 := Zu hm101
       subst c103
       have hq101 := hr101 _ (hres102 (by intro _ h; cases h))
       have e114 := Zu hq101
       subst r
       refine ⟨_, ret1 rfl, ?_⟩
       have hS127 := (hS126).drop
       have hS128 := (hS127).drop
       exact ⟨s111, (Zt (Zt l101 l104) l105), hS128, rfl⟩
      ·refine W_cond_f rfl hc107 ?_
       replace hc107 := Zk hc107
       refine W_skip (ib_normal (Ze ?_))
       refine Zd ?_
       refine Za rfl rfl (Exec.add rfl x104 rfl ?_)
       refine Za rfl rfl (Exec.move (v := Value.int .i64 (IntKind.i64.wrap ((i101 : Int) + 1))) rfl rfl ?_)
       refine Zb (Ze ?_)
       have e115 := Zu hm101
       subst c103
       have hS129 := (hS126).f1
       have hS130 := (hS129).f1
       refine ⟨_, rfl, ?_⟩; exact ⟨s111, l105, hS130, p112, p113, p114, (Eq.trans rfl (wrap_up hi101 (SliceRep.le (a103.mono (Zt l101 l104)))))⟩
     ·intro t104 f105 w108 hI103 hres103
      obtain ⟨s112, l106, hS131, p115, p116, p117, x107⟩ := hI103
      refine Zc ?_
      refine Zd ?_
      refine Za rfl rfl (Exec.lss rfl x107 p117 ?_)
      refine Zb (Ze ?_)
      refine Zc ?_
      refine W_false (congrArg Value.bool (decide_eq_false (by omega))) ?_
      refine W_exit (at_exit (at_exit (ib_here (Ze ?_))))
      have hS132 := (hS131).f1
      have hS133 := (hS132).f1
      refine ⟨_, .inl hres103, ?_⟩; exact ⟨s112, l106, hS133, p115, p116, p117⟩
    ·rintro f106 w109 ⟨t105, hc108, hM102⟩
     have hm := hc108.elim (hn101 _) (hb101 _)
     clear hc108
     obtain ⟨s113, l107, hS134, p118, p119, p120⟩ := hM102
     refine (Ze ?_)
     refine Zc ?_
     refine Zd ?_
     refine Za rfl rfl (Exec.assign (v := Value.bool (true)) rfl rfl ?_)
     refine Zb (Ze ?_)
     refine W_ret ?_
     have e116 := Zu hm
     subst r
     refine ⟨_, ret1 rfl, ?_⟩
     have hS135 := (hS134).drop
     have hS136 := (hS135).drop
     exact ⟨s113, (Zt (Zt l101 l104) l107), hS136, rfl⟩

theorem N32 : (Try.f32.name == "runtime.NumGoroutine") = false := by kernel_rfl

theorem base_Many_sim {w0 w : World} {s : PHeap} {H : List Res} {vars100 : (List Int)} {most100 : Int} {v100 : Value} {r : Int} (hm : base_Many_p vars100 most100 = some r) (hS : St w0 s (H) w) (a100 : SliceRep (encInt .i64) s v100 vars100) :
  Calls Try.prog 32 #[v100, Value.int .i64 (most100)] w fun e w' => ∃ v, e = .returned v ∧ ((fun (y100 : Int) => ∃ (s100 : PHeap) , PHeap.le s s100 ∧ St w0 s100 (H) w' ∧ v = Value.int .i64 (y100)) r) := by
 unfold base_Many_p at hm
 refine calls_of_W Try.func32 rfl rfl ?_
 refine Zc ?_
 refine Zd ?_
 refine Za rfl rfl (Exec.assign (v := Value.int .i64 (0)) rfl rfl ?_)
 refine Zb (Ze ?_)
 refine Zc ?_
 refine Zd ?_
 refine Za rfl rfl (Exec.assign (v := Value.int .i64 (1)) rfl rfl ?_)
 refine Zb (Ze ?_)
 refine Zc ?_
 refine Zc ?_
 refine Zd ?_
 refine Za rfl rfl (Exec.move (v := v100) rfl rfl ?_)
 refine Za rfl rfl (Exec.len_rep S22 rfl rfl a100 ?_)
 refine Za rfl rfl (Exec.move (v := Value.int .i64 (0)) rfl rfl ?_)
 refine Zb (Ze ?_)
 obtain ⟨c100, hB100, hr100, hn100, hb100⟩ := ctl_some hm
 refine W_mid (M := fun f' w' => ∃ s', (c100 = .next s' ∨ c100 = .brk s') ∧ (fun (n100 : Int) => ∃ (s101 : PHeap) , PHeap.le s s101 ∧ St w0 s101 (H) w' ∧ f' 1 = Value.int .i64 (most100) ∧ f' 5 = Value.int .i64 (n100) ∧ f' 8 = v100 ∧ f' 9 = Value.int .i64 ((vars100.length : Int))) s') ?_ ?_
 ·refine W_block (W_forC (fun k' s' f' w' => (fun (n101 : Int) => ∃ (s102 : PHeap) , PHeap.le s s102 ∧ St w0 s102 (H) w' ∧ f' 1 = Value.int .i64 (most100) ∧ f' 5 = Value.int .i64 (n101) ∧ f' 8 = v100 ∧ f' 9 = Value.int .i64 ((vars100.length : Int)) ∧ f' 10 = Value.int .i64 (k' : Int)) s') hB100 ?_ ?_ ?_)
  ·exact ⟨s, (PHeap.le_refl _), hS, rfl, rfl, rfl, rfl, rfl⟩
  ·intro i100 n101 c101 f100 w100 hi100 hI100 hm100 hres100
   obtain ⟨s103, l100, hS100, p100, p101, p102, p103, x100⟩ := hI100
   refine Zc ?_
   refine Zd ?_
   refine Za rfl rfl (Exec.lss rfl x100 p103 ?_)
   refine Zb (Ze ?_)
   refine Zc ?_
   refine W_true (congrArg Value.bool (decide_eq_true (by omega))) ?_
   refine W_skip (Ze ?_)
   refine Zc ?_
   refine W_block ?_
   refine Zc ?_
   refine Zd ?_
   obtain ⟨x101, q100, hm100⟩ := Zg hm100
   refine Za rfl rfl (Exec.index_rep S22 rfl p102 x100 (a100.mono l100) q100 ?_)
   intro b100 o100 a101
   refine Za rfl rfl (Exec.load_at (E := (encInt .i64)) hS100 A3 rfl rfl rfl a101 ?_)
   intro v101 q101
   obtain rfl := encInt_val.1 q101
   refine Za rfl rfl (Exec.assign (v := Value.int .i64 (x101)) rfl rfl ?_)
   refine Zb (Ze ?_)
   refine Zc ?_
   refine Zd ?_
   refine Za rfl rfl (Exec.move (v := Value.int .i64 (n101)) rfl p101 ?_)
   refine Za rfl rfl (Exec.move (v := Value.int .i64 (x101)) rfl rfl ?_)
   refine Za rfl rfl (Exec.max2 rfl rfl rfl ?_)
   refine Za rfl rfl (Exec.move (v := Value.int .i64 (most100)) rfl p100 ?_)
   refine Za rfl rfl (Exec.add rfl rfl rfl ?_)
   refine Za rfl rfl (Exec.min2 rfl rfl rfl ?_)
   refine Za rfl rfl (Exec.mul rfl rfl rfl ?_)
   refine Za rfl rfl (Exec.assign (v := Value.int .i64 (IntKind.i64.wrap (n101 * (min (max x101 0) (IntKind.i64.wrap (most100 + 1)))))) rfl rfl ?_)
   refine Zb (Ze ?_)
   refine Zc ?_
   refine Zd ?_
   refine Za rfl rfl (Exec.move (v := Value.int .i64 (IntKind.i64.wrap (n101 * (min (max x101 0) (IntKind.i64.wrap (most100 + 1)))))) rfl rfl ?_)
   refine Za rfl rfl (Exec.move (v := Value.int .i64 (most100)) rfl p100 ?_)
   refine Za rfl rfl (Exec.gtr rfl rfl rfl ?_)
   refine Zb (Ze ?_)
   rcases ite_some hm100 with ⟨hc100, hm100⟩ | ⟨hc100, hm100⟩
   ·refine W_cond_t rfl hc100 ?_
    refine Zc ?_
    refine Zd ?_
    refine Za rfl rfl (Exec.move (v := Value.int .i64 (most100)) rfl p100 ?_)
    refine Za rfl rfl (Exec.add rfl rfl rfl ?_)
    refine Za rfl rfl (Exec.assign (v := Value.int .i64 (IntKind.i64.wrap (most100 + 1))) rfl rfl ?_)
    refine Zb (Ze ?_)
    refine W_ret (ib_ret (at_ret (at_ret (ib_ret (at_ret (at_ret ?_))))))
    have e100 := Zu hm100
    subst c101
    have hq100 := hr100 _ (hres100 (by intro _ h; cases h))
    have e101 := Zu hq100
    subst r
    refine ⟨_, ret1 rfl, ?_⟩
    exact ⟨s103, l100, hS100, rfl⟩
   ·refine W_cond_f rfl hc100 ?_
    replace hc100 := Zk hc100
    refine W_skip (ib_normal (Ze ?_))
    refine Zd ?_
    refine Za rfl rfl (Exec.add rfl x100 rfl ?_)
    refine Za rfl rfl (Exec.move (v := Value.int .i64 (IntKind.i64.wrap ((i100 : Int) + 1))) rfl rfl ?_)
    refine Zb (Ze ?_)
    have e102 := Zu hm100
    subst c101
    refine ⟨_, rfl, ?_⟩; exact ⟨s103, l100, hS100, p100, rfl, p102, p103, (Eq.trans rfl (wrap_up hi100 (SliceRep.le a100)))⟩
  ·intro n101 f101 w101 hI101 hres101
   obtain ⟨s104, l101, hS101, p104, p105, p106, p107, x102⟩ := hI101
   refine Zc ?_
   refine Zd ?_
   refine Za rfl rfl (Exec.lss rfl x102 p107 ?_)
   refine Zb (Ze ?_)
   refine Zc ?_
   refine W_false (congrArg Value.bool (decide_eq_false (by omega))) ?_
   refine W_exit (at_exit (at_exit (ib_here (Ze ?_))))
   refine ⟨_, .inl hres101, ?_⟩; exact ⟨s104, l101, hS101, p104, p105, p106, p107⟩
 ·rintro f102 w102 ⟨n100, hc101, hM100⟩
  have hm := hc101.elim (hn100 _) (hb100 _)
  clear hc101
  obtain ⟨s105, l102, hS102, p108, p109, p110, p111⟩ := hM100
  refine (Ze ?_)
  refine Zc ?_
  refine Zd ?_
  refine Za rfl rfl (Exec.move (v := Value.int .i64 (n100)) rfl p109 ?_)
  refine Za rfl rfl (Exec.assign (v := Value.int .i64 (n100)) rfl rfl ?_)
  refine Zb (Ze ?_)
  refine W_ret ?_
  have e103 := Zu hm
  subst r
  refine ⟨_, ret1 rfl, ?_⟩
  exact ⟨s105, l102, hS102, rfl⟩

theorem N30 : (Try.f30.name == "runtime.NumGoroutine") = false := by kernel_rfl

theorem base_Small_sim {w0 w : World} {s : PHeap} {H : List Res} {t100 : Task} {v100 : Value} {v101 : Value} {v102 : Value} {v103 : Value} {r : Bool} (hm : base_Small_p t100 = some r) (hS : St w0 s (H) w) (a100 : SliceRep (encInt .i64) s v100 t100.Vars) (a101 : SliceRep (encInt .i64) s v101 t100.Init) (a102 : SliceRep encFact s v102 t100.Goal) (a103 : SliceRep encOp s v103 t100.Ops) :
  Calls Try.prog 30 #[Value.agg #[v100, v101, v102, v103]] w fun e w' => ∃ v, e = .returned v ∧ ((fun (y100 : Bool) => ∃ (s100 : PHeap) , PHeap.le s s100 ∧ St w0 s100 (H) w' ∧ v = Value.bool (y100)) r) := by
 unfold base_Small_p at hm
 refine calls_of_W Try.func30 rfl rfl ?_
 refine Zc ?_
 refine Zd ?_
 refine Za rfl rfl (Exec.box (cs := [v100, v101, v102, v103]) hS rfl rfl rfl ?_)
 intro b100 w100 hS100
 refine Za rfl rfl (Exec.assign (v := Value.bool (false)) rfl rfl ?_)
 refine Zb (Ze ?_)
 refine Zc ?_
 refine Zc ?_
 refine W_mid (M := fun f' w' => ∃ (s101 : PHeap) , PHeap.le s s101 ∧ St w0 s101 (Res.box b100 55 [v100, v101, v102, v103] :: H) w' ∧ f' 1 = Value.pointer (some ⟨b100, 0, none⟩) ∧ f' 14 = Value.bool (((decide (12 < (t100.Vars.length : Int))) || decide (20 < (t100.Ops.length : Int))))) ?_ ?_
 ·refine Zd ?_
  refine Za rfl rfl (Exec.field F55_0 rfl rfl rfl ?_)
  refine Za rfl rfl (Exec.load_box (hS100) A22 rfl rfl rfl ?_)
  refine Za rfl rfl (Exec.len_rep S22 rfl rfl a100 ?_)
  refine Za rfl rfl (Exec.gtr rfl rfl rfl ?_)
  refine Za rfl rfl (Exec.move (v := Value.bool (decide (12 < (t100.Vars.length : Int)))) rfl rfl ?_)
  by_cases hc100 : (decide (12 < (t100.Vars.length : Int))) = true
  ·refine Zl rfl (Zf rfl (congrArg Value.bool hc100)) rfl rfl ?_
   refine Zl rfl (Zf rfl (congrArg Value.bool hc100)) rfl rfl ?_
   refine Zl rfl (Zf rfl (congrArg Value.bool hc100)) rfl rfl ?_
   refine Zl rfl (Zf rfl (congrArg Value.bool hc100)) rfl rfl ?_
   refine Za rfl rfl (Exec.pick_t (v := Value.bool (true)) rfl (congrArg Value.bool hc100) rfl ?_)
   refine Zb (Ze ?_)
   exact ⟨s, (PHeap.le_refl _), hS100, rfl, (congrArg Value.bool (or_t hc100)).symm⟩
  ·replace hc100 := Zk hc100
   refine WL_run rfl (Zf rfl (congrArg Value.bool hc100)) rfl (Exec.field F55_3 rfl rfl rfl ?_)
   refine WL_run rfl (Zf rfl (congrArg Value.bool hc100)) rfl (Exec.load_box (hS100) A53 rfl rfl rfl ?_)
   refine WL_run rfl (Zf rfl (congrArg Value.bool hc100)) rfl (Exec.len_rep S53 rfl rfl a103 ?_)
   refine WL_run rfl (Zf rfl (congrArg Value.bool hc100)) rfl (Exec.gtr rfl rfl rfl ?_)
   refine Za rfl rfl (Exec.pick_f (v := Value.bool (decide (20 < (t100.Ops.length : Int)))) rfl (congrArg Value.bool hc100) rfl ?_)
   refine Zb (Ze ?_)
   exact ⟨s, (PHeap.le_refl _), hS100, rfl, (congrArg Value.bool (or_f hc100)).symm⟩
 ·intro f100 w101 hM100
  obtain ⟨s102, l100, hS101, p100, p101⟩ := hM100
  refine (Ze ?_)
  rcases ite_some hm with ⟨hc101, hm⟩ | ⟨hc101, hm⟩
  ·refine W_cond_t p101 hc101 ?_
   refine Zc ?_
   refine Zd ?_
   refine Za rfl rfl (Exec.assign (v := Value.bool (false)) rfl rfl ?_)
   refine Zb (Ze ?_)
   refine W_ret (at_ret ?_)
   have e100 := Zu hm
   subst r
   refine ⟨_, ret1 rfl, ?_⟩
   have hS102 := (hS101).drop
   exact ⟨s102, l100, hS102, rfl⟩
  ·refine W_cond_f p101 hc101 ?_
   replace hc101 := Zk hc101
   refine W_skip (Ze ?_)
   refine Zc ?_
   refine Zc ?_
   refine Zd ?_
   refine Za rfl rfl (Exec.field F55_3 rfl p100 rfl ?_)
   refine Za rfl rfl (Exec.load_box (hS101) A53 rfl rfl rfl ?_)
   refine Za rfl rfl (Exec.len_rep S53 rfl rfl (a103.mono l100) ?_)
   refine Za rfl rfl (Exec.move (v := Value.int .i64 (0)) rfl rfl ?_)
   refine Zb (Ze ?_)
   obtain ⟨c100, hB100, hr100, hn100, hb100⟩ := ctl_some hm
   refine W_mid (M := fun f' w' => ∃ s', (c100 = .next s' ∨ c100 = .brk s') ∧ (fun (_ : Unit) => ∃ (s103 : PHeap) , PHeap.le s102 s103 ∧ St w0 s103 (Res.box b100 55 [v100, v101, v102, v103] :: H) w' ∧ f' 1 = Value.pointer (some ⟨b100, 0, none⟩) ∧ f' 16 = v103 ∧ f' 17 = Value.int .i64 ((t100.Ops.length : Int))) s') ?_ ?_
   ·refine W_block (W_forC (fun k' s' f' w' => (fun (_ : Unit) => ∃ (s104 : PHeap) , PHeap.le s102 s104 ∧ St w0 s104 (Res.box b100 55 [v100, v101, v102, v103] :: H) w' ∧ f' 1 = Value.pointer (some ⟨b100, 0, none⟩) ∧ f' 16 = v103 ∧ f' 17 = Value.int .i64 ((t100.Ops.length : Int)) ∧ f' 18 = Value.int .i64 (k' : Int)) s') hB100 ?_ ?_ ?_)
    ·exact ⟨s102, (PHeap.le_refl _), hS101, p100, rfl, rfl, rfl⟩
    ·intro i100 t101 c101 f101 w102 hi100 hI100 hm100 hres100
     obtain ⟨s105, l101, hS103, p102, p103, p104, x100⟩ := hI100
     refine Zc ?_
     refine Zd ?_
     refine Za rfl rfl (Exec.lss rfl x100 p104 ?_)
     refine Zb (Ze ?_)
     refine Zc ?_
     refine W_true (congrArg Value.bool (decide_eq_true (by omega))) ?_
     refine W_skip (Ze ?_)
     refine Zc ?_
     refine W_block ?_
     refine Zc ?_
     refine Zd ?_
     obtain ⟨x101, q100, hm100⟩ := Zg hm100
     refine Za rfl rfl (Exec.index_rep S53 rfl p103 x100 (a103.mono (Zt l100 l101)) q100 ?_)
     intro b101 o100 a104
     refine Za rfl rfl (Exec.load_at (E := encOp) hS103 A79 rfl rfl rfl a104 ?_)
     intro v104 q101
     obtain ⟨u100, u101, rfl, r100, r101⟩ := encOp_val.1 q101
     refine Za rfl rfl (Exec.alloc (cs := [Value.string (⟨#[]⟩), Value.int .i64 (0), Value.slice none 0 0, Value.slice none 0 0]) hS103 Z79 rfl rfl ?_)
     intro b102 w103 hS104
     refine Za rfl rfl (Exec.store_box (ds := [Value.string (x101.Name), Value.int .i64 (x101.Cost), u100, u101]) (es := [Value.string (x101.Name), Value.int .i64 (x101.Cost), u100, u101]) hS104 A79 rfl rfl rfl rfl (Zj rfl (Zj rfl (Zj (r100).one (Zj (r101).one one_nil)))) (Nat.le_of_ble_eq_true rfl) rfl ?_)
     intro w104 hS105
     refine Zb (Ze ?_)
     refine Zc ?_
     refine Zd ?_
     refine Za rfl rfl (Exec.field F79_3 rfl rfl rfl ?_)
     refine Za rfl rfl (Exec.load_box (hS105) A77 rfl rfl rfl ?_)
     refine Za rfl rfl (Exec.len_rep S77 rfl rfl r101 ?_)
     refine Za rfl rfl (Exec.gtr rfl rfl rfl ?_)
     refine Zb (Ze ?_)
     rcases ite_some hm100 with ⟨hc102, hm100⟩ | ⟨hc102, hm100⟩
     ·refine W_cond_t rfl hc102 ?_
      refine Zc ?_
      refine Zd ?_
      refine Za rfl rfl (Exec.assign (v := Value.bool (false)) rfl rfl ?_)
      refine Zb (Ze ?_)
      refine W_ret (ib_ret (at_ret (at_ret (ib_ret (at_ret (at_ret ?_))))))
      have e101 := Zu hm100
      subst c101
      have hq100 := hr100 _ (hres100 (by intro _ h; cases h))
      have e102 := Zu hq100
      subst r
      refine ⟨_, ret1 rfl, ?_⟩
      have hS106 := (hS105).drop
      have hS107 := (hS106).drop
      exact ⟨s105, (Zt l100 l101), hS107, rfl⟩
     ·refine W_cond_f rfl hc102 ?_
      replace hc102 := Zk hc102
      refine W_skip (ib_normal (Ze ?_))
      refine Zd ?_
      refine Za rfl rfl (Exec.add rfl x100 rfl ?_)
      refine Za rfl rfl (Exec.move (v := Value.int .i64 (IntKind.i64.wrap ((i100 : Int) + 1))) rfl rfl ?_)
      refine Zb (Ze ?_)
      have e103 := Zu hm100
      subst c101
      have hS108 := (hS105).drop
      refine ⟨_, rfl, ?_⟩; exact ⟨s105, l101, hS108, p102, p103, p104, (Eq.trans rfl (wrap_up hi100 (SliceRep.le (a103.mono l100))))⟩
    ·intro t102 f102 w105 hI101 hres101
     obtain ⟨s106, l102, hS109, p105, p106, p107, x102⟩ := hI101
     refine Zc ?_
     refine Zd ?_
     refine Za rfl rfl (Exec.lss rfl x102 p107 ?_)
     refine Zb (Ze ?_)
     refine Zc ?_
     refine W_false (congrArg Value.bool (decide_eq_false (by omega))) ?_
     refine W_exit (at_exit (at_exit (ib_here (Ze ?_))))
     refine ⟨_, .inl hres101, ?_⟩; exact ⟨s106, l102, hS109, p105, p106, p107⟩
   ·rintro f103 w106 ⟨t103, hc103, hM101⟩
    have hm := hc103.elim (hn100 _) (hb100 _)
    clear hc103
    obtain ⟨s107, l103, hS110, p108, p109, p110⟩ := hM101
    refine (Ze ?_)
    refine Zc ?_
    obtain ⟨z100, ht100, hm⟩ := Zg hm
    refine W_mid (M := fun f' w' => (fun (z100 : Bool) => ∃ (s108 : PHeap) , PHeap.le s107 s108 ∧ St w0 s108 (H) w' ∧ f' 2 = Value.bool (z100)) z100) ?_ ?_
    ·refine Zd ?_
     refine Za rfl rfl (Exec.load_box_agg (ds := [v100, v101, v102, v103]) (hS110) A55 rfl p108 rfl ?_)
     obtain ⟨y101, q102, ht100⟩ := Zg ht100
     refine Za rfl rfl (Exec.call rfl rfl Try.func29 rfl N29 (Zi rfl args_nil) ((base_Good_sim q102 hS110 (a100.mono (Zt l100 l103)) (a101.mono (Zt l100 l103)) (a102.mono (Zt l100 l103)) (a103.mono (Zt l100 l103))).mono ?_))
     rintro _ w107 ⟨_, rfl, ⟨s109, l104, hS111, rfl⟩⟩
     refine ⟨_, rfl, ?_⟩
     refine Za rfl rfl (Exec.move (v := Value.bool (y101)) rfl rfl ?_)
     rcases ite_some ht100 with ⟨hc104, ht100⟩ | ⟨hc104, ht100⟩
     ·refine WL_run rfl (Zf rfl (congrArg Value.bool hc104)) rfl (Exec.field F55_0 rfl p108 rfl ?_)
      refine WL_run rfl (Zf rfl (congrArg Value.bool hc104)) rfl (Exec.load_box (hS111) A22 rfl rfl rfl ?_)
      obtain ⟨y102, q103, ht100⟩ := Zg ht100
      refine WL_run rfl (Zf rfl (congrArg Value.bool hc104)) rfl (Exec.call rfl rfl Try.func32 rfl N32 (Zi rfl (Zi rfl args_nil)) ((base_Many_sim q103 hS111 (a100.mono (Zt (Zt l100 l103) l104))).mono ?_))
      rintro _ w108 ⟨_, rfl, ⟨s110, l105, hS112, rfl⟩⟩
      refine ⟨_, rfl, ?_⟩
      refine WL_run rfl (Zf rfl (congrArg Value.bool hc104)) rfl (Exec.leq rfl rfl rfl ?_)
      refine Za rfl rfl (Exec.pick_t (v := Value.bool (decide (y102 ≤ 512))) rfl (congrArg Value.bool hc104) rfl ?_)
      refine Za rfl rfl (Exec.assign (v := Value.bool (decide (y102 ≤ 512))) rfl rfl ?_)
      refine Zb (Ze ?_)
      have e104 := Zu ht100
      subst z100
      have hS113 := (hS112).drop
      exact ⟨s110, (Zt l104 l105), hS113, rfl⟩
     ·replace hc104 := Zk hc104
      refine Zl rfl (Zf rfl (congrArg Value.bool hc104)) rfl rfl ?_
      refine Zl rfl (Zf rfl (congrArg Value.bool hc104)) rfl rfl ?_
      refine Zl rfl (Zf rfl (congrArg Value.bool hc104)) rfl rfl ?_
      refine Zl rfl (Zf rfl (congrArg Value.bool hc104)) rfl rfl ?_
      refine Za rfl rfl (Exec.pick_f (v := Value.bool (false)) rfl (congrArg Value.bool hc104) rfl ?_)
      refine Za rfl rfl (Exec.assign (v := Value.bool (false)) rfl rfl ?_)
      refine Zb (Ze ?_)
      have e105 := Zu ht100
      subst z100
      have hS114 := (hS111).drop
      exact ⟨s109, l104, hS114, rfl⟩
    ·intro f104 w109 hM102
     obtain ⟨s111, l106, hS115, p111⟩ := hM102
     refine (Ze ?_)
     refine W_ret ?_
     have e106 := Zu hm
     subst r
     refine ⟨_, ret1 rfl, ?_⟩
     exact ⟨s111, (Zt (Zt l100 l103) l106), hS115, p111⟩

theorem N49 : (Try.f49.name == "runtime.NumGoroutine") = false := by kernel_rfl

theorem base_States_sim {w0 w : World} {s : PHeap} {H : List Res} {vars100 : (List Int)} {v100 : Value} {r : (List (List Int))} (hm : base_States_p vars100 = some r) (hS : St w0 s (H) w) (a100 : SliceRep (encInt .i64) s v100 vars100) :
  Calls Try.prog 49 #[v100] w fun e w' => ∃ v, e = .returned v ∧ ((fun (y100 : (List (List Int))) => ∃ (s100 : PHeap) (v101 : Value), PHeap.le s s100 ∧ St w0 s100 (H) w' ∧ v = v101 ∧ SliceRep (encSlice (encInt .i64)) s100 v101 y100) r) := by
 unfold base_States_p at hm
 refine calls_of_W Try.func49 rfl rfl ?_
 refine Zc ?_
 refine Zd ?_
 refine Za rfl rfl (Exec.assign (v := Value.slice none 0 0) rfl rfl ?_)
 refine Zb (Ze ?_)
 refine Zc ?_
 refine Zd ?_
 refine Za rfl rfl (Exec.buildSlice (Te := 3) (cs := []) hS rfl parts_nil (fun _ => by kernel_rfl) ?_)
 intro b100 w100 hS100
 have hS101 := St.boxArr (E := (encInt .i64)) (xs := []) hS100 rfl (by simp [maxLen])
 obtain ⟨s101, l100, hS102, r100⟩ := hS101.freezeArr
 refine Za rfl rfl (Exec.buildSlice (Te := 22) (cs := [Value.slice (some ⟨b100, 0, none⟩) 0 0]) hS102 rfl (parts_cons (c := [Value.slice (some ⟨b100, 0, none⟩) 0 0]) (cells_of rfl rfl) parts_nil) (fun _ => by kernel_rfl) ?_)
 intro b101 w101 hS103
 refine Za rfl rfl (Exec.assign (v := Value.slice (some ⟨b101, 0, none⟩) 1 1) rfl rfl ?_)
 refine Zb (Ze ?_)
 refine Zc ?_
 refine Zc ?_
 refine Zd ?_
 refine Za rfl rfl (Exec.move (v := v100) rfl rfl ?_)
 refine Za rfl rfl (Exec.len_rep S22 rfl rfl (a100.mono l100) ?_)
 refine Za rfl rfl (Exec.move (v := Value.int .i64 (0)) rfl rfl ?_)
 refine Zb (Ze ?_)
 obtain ⟨out100, hB100, hm⟩ := Zg hm
 refine W_block (W_forS (fun k' s' f' w' => (fun (out100 : (List (List Int))) => ∃ (s102 : PHeap) (v102 : Value), PHeap.le s101 s102 ∧ St w0 s102 (Res.arr (encSlice (encInt .i64)) 22 v102 out100 :: H) w' ∧ f' 3 = v102 ∧ f' 12 = v100 ∧ f' 13 = Value.int .i64 ((vars100.length : Int)) ∧ f' 14 = Value.int .i64 (k' : Int)) s') hB100 ?_ ?_ ?_)
 ·have hS104 := St.boxArr (E := (encSlice (encInt .i64))) (xs := [[]]) hS103 ⟨[Value.slice (some ⟨b100, 0, none⟩) 0 0], [], rfl, ⟨_, rfl, r100⟩, rfl⟩ (by simp [maxLen])
  exact ⟨s101, (Value.slice (some ⟨b101, 0, none⟩) 1 1), (PHeap.le_refl _), hS104, rfl, rfl, rfl, rfl⟩
 ·intro i100 out100 s103 f100 w102 hi100 hI100 hm100
  obtain ⟨s104, v102, l101, hS105, p100, p101, p102, x100⟩ := hI100
  refine Zc ?_
  refine Zd ?_
  refine Za rfl rfl (Exec.lss rfl x100 p102 ?_)
  refine Zb (Ze ?_)
  refine Zc ?_
  refine W_true (congrArg Value.bool (decide_eq_true (by omega))) ?_
  refine W_skip (Ze ?_)
  refine Zc ?_
  refine W_block ?_
  refine Zc ?_
  refine Zd ?_
  obtain ⟨x101, q100, hm100⟩ := Zg hm100
  refine Za rfl rfl (Exec.index_rep S22 rfl p101 x100 (a100.mono (Zt l100 l101)) q100 ?_)
  intro b102 o100 a101
  refine Za rfl rfl (Exec.load_at (E := (encInt .i64)) hS105 A3 rfl rfl rfl a101 ?_)
  intro v103 q101
  obtain rfl := encInt_val.1 q101
  refine Za rfl rfl (Exec.assign (v := Value.int .i64 (x101)) rfl rfl ?_)
  refine Zb (Ze ?_)
  refine Zc ?_
  refine Zd ?_
  refine Za rfl rfl (Exec.assign (v := Value.slice none 0 0) rfl rfl ?_)
  refine Zb (Ze ?_)
  refine Zc ?_
  refine Zc ?_
  refine Zd ?_
  refine Za rfl rfl (Exec.move (v := v102) rfl p100 ?_)
  refine Za rfl rfl (Exec.len_arr (hS105) S83 rfl rfl ?_)
  refine Za rfl rfl (Exec.move (v := Value.int .i64 (0)) rfl rfl ?_)
  refine Zb (Ze ?_)
  obtain ⟨next100, hB101, hm100⟩ := Zg hm100
  refine W_block (W_forS (fun k' s' f' w' => (fun (next100 : (List (List Int))) => ∃ (s105 : PHeap) (v104 : Value), PHeap.le s104 s105 ∧ St w0 s105 (Res.arr (encSlice (encInt .i64)) 22 v104 next100 :: Res.arr (encSlice (encInt .i64)) 22 v102 out100 :: H) w' ∧ f' 5 = Value.int .i64 (x101) ∧ f' 6 = v104 ∧ f' 12 = v100 ∧ f' 13 = Value.int .i64 ((vars100.length : Int)) ∧ f' 14 = Value.int .i64 ((i100 : Int)) ∧ f' 18 = v102 ∧ f' 19 = Value.int .i64 ((out100.length : Int)) ∧ f' 20 = Value.int .i64 (k' : Int)) s') hB101 ?_ ?_ ?_)
  ·have hS106 := hS105.nilArr (encSlice (encInt .i64)) 22
   have hS107 := (hS106).f1
   have hS108 := (hS107).f1
   exact ⟨s104, (Value.slice none 0 0), (PHeap.le_refl _), hS108, rfl, rfl, p101, p102, x100, rfl, rfl, rfl⟩
  ·intro i101 next100 s106 f101 w103 hi101 hI101 hm101
   obtain ⟨s107, v104, l102, hS109, p103, p104, p105, p106, p107, p108, p109, x102⟩ := hI101
   refine Zc ?_
   refine Zd ?_
   refine Za rfl rfl (Exec.lss rfl x102 p109 ?_)
   refine Zb (Ze ?_)
   refine Zc ?_
   refine W_true (congrArg Value.bool (decide_eq_true (by omega))) ?_
   refine W_skip (Ze ?_)
   refine Zc ?_
   refine W_block ?_
   refine Zc ?_
   refine Zd ?_
   obtain ⟨x103, q102, hm101⟩ := Zg hm101
   obtain ⟨g100, c100, e100⟩ := ((hS109).f1).arr_at q102
   refine Za rfl rfl (Exec.index_slice S83 rfl (Eq.trans p108 e100) x102 (idx_some q102).1 (idx_some q102).2.1 ?_)
   refine Za rfl rfl (Exec.load_arr (F := (encSlice (encInt .i64))) ((hS109).f1) e100 A22 rfl rfl rfl q102 (Sub.refl _) ?_)
   intro v105 q103
   have r101 := encSlice_val.1 q103
   refine Za rfl rfl (Exec.assign (v := v105) rfl rfl ?_)
   refine Zb (Ze ?_)
   refine Zc ?_
   refine Zd ?_
   refine Za rfl rfl (Exec.move (v := Value.int .i64 (x101)) rfl p103 ?_)
   refine Za rfl rfl (Exec.move (v := Value.int .i64 (0)) rfl rfl ?_)
   refine Zb (Ze ?_)
   obtain ⟨u100, q104, hm101⟩ := Zg hm101
   obtain ⟨l103, hB102, hm101⟩ := Zg hm101
   refine W_block (W_forS (fun k' s' f' w' => (fun (l103 : (List (List Int))) => ∃ (s108 : PHeap) (v106 : Value), PHeap.le s107 s108 ∧ St w0 s108 (Res.arr (encSlice (encInt .i64)) 22 v106 l103 :: Res.arr (encSlice (encInt .i64)) 22 v102 out100 :: H) w' ∧ f' 5 = Value.int .i64 (x101) ∧ f' 6 = v106 ∧ f' 8 = v105 ∧ f' 12 = v100 ∧ f' 13 = Value.int .i64 ((vars100.length : Int)) ∧ f' 14 = Value.int .i64 ((i100 : Int)) ∧ f' 18 = v102 ∧ f' 19 = Value.int .i64 ((out100.length : Int)) ∧ f' 20 = Value.int .i64 ((i101 : Int)) ∧ f' 24 = Value.int .i64 (x101) ∧ f' 25 = Value.int .i64 (k' : Int)) s') hB102 ?_ ?_ ?_)
   ·have hS110 := (hS109).f1
    have hS111 := (hS110).f1
    exact ⟨s107, v104, (PHeap.le_refl _), hS111, p103, p104, rfl, p105, p106, p107, p108, p109, x102, rfl, rfl⟩
   ·intro i102 l103 s109 f102 w104 hi102 hI102 hm102
    obtain ⟨s110, v106, l104, hS112, p110, p111, p112, p113, p114, p115, p116, p117, p118, p119, x104⟩ := hI102
    refine Zc ?_
    refine Zd ?_
    refine Za rfl rfl (Exec.lss rfl x104 p119 ?_)
    refine Zb (Ze ?_)
    refine Zc ?_
    refine W_true (congrArg Value.bool (decide_eq_true (by omega))) ?_
    refine W_skip (Ze ?_)
    refine Zc ?_
    refine W_block ?_
    refine Zc ?_
    refine Zd ?_
    refine Za rfl rfl (Exec.move (v := Value.int .i64 ((i102 : Int))) rfl x104 ?_)
    refine Za rfl rfl (Exec.assign (v := Value.int .i64 ((i102 : Int))) rfl rfl ?_)
    refine Zb (Ze ?_)
    refine Zd ?_
    refine Za rfl rfl (Exec.move (v := v106) rfl p111 ?_)
    refine Za rfl rfl (Exec.buildSlice (Te := 3) (cs := []) hS112 rfl parts_nil (fun _ => by kernel_rfl) ?_)
    intro b103 w105 hS113
    refine Za rfl rfl (Exec.move (v := v105) rfl p112 ?_)
    have hS114 := St.boxArr (E := (encInt .i64)) (xs := []) hS113 rfl (by simp [maxLen])
    obtain ⟨l105, q105, hm102⟩ := Zg hm102
    refine Za rfl rfl (Exec.append_rep (E := (encInt .i64)) (ys := x103) hS114 S22 Z3 rfl (by decide) rfl rfl rfl (r101.mono l104) q105 ?_)
    intro v107 w106 hS115
    refine Za rfl rfl (Exec.move (v := Value.int .i64 ((i102 : Int))) rfl rfl ?_)
    refine Za rfl rfl (Exec.buildSlice (Te := 3) (cs := [Value.int .i64 ((i102 : Int))]) hS115 rfl (parts_cons (c := [Value.int .i64 ((i102 : Int))]) (cells_of rfl rfl) parts_nil) (fun _ => by kernel_rfl) ?_)
    intro b104 w107 hS116
    obtain ⟨l106, q106, hm102⟩ := Zg hm102
    have hS117 := (hS116).f1
    refine Za rfl rfl (Exec.append_box (E := (encInt .i64)) (ys := [(i102 : Int)]) hS117 S22 Z3 rfl (by decide) rfl rfl rfl rfl ⟨[Value.int .i64 ((i102 : Int))], [], rfl, rfl, rfl⟩ rfl q106 ?_)
    intro v108 w108 hS118
    obtain ⟨s111, l107, hS119, r102⟩ := hS118.freezeArr
    refine Za rfl rfl (Exec.buildSlice (Te := 22) (cs := [v108]) hS119 rfl (parts_cons (c := [v108]) (cells_of rfl (cells_one (r102).one)) parts_nil) (fun _ => by kernel_rfl) ?_)
    intro b105 w109 hS120
    obtain ⟨l108, q107, hm102⟩ := Zg hm102
    have hS121 := (hS120).f1
    refine Za rfl rfl (Exec.append_box (E := (encSlice (encInt .i64))) (ys := [l106]) hS121 S83 Z22 rfl (by decide) rfl rfl rfl rfl ⟨[v108], [], rfl, ⟨_, rfl, r102⟩, rfl⟩ rfl q107 ?_)
    intro v109 w110 hS122
    refine Za rfl rfl (Exec.assign (v := v109) rfl rfl ?_)
    refine Zb (ib_normal (Ze ?_))
    refine Zd ?_
    refine Za rfl rfl (Exec.add rfl x104 rfl ?_)
    refine Za rfl rfl (Exec.move (v := Value.int .i64 (IntKind.i64.wrap ((i102 : Int) + 1))) rfl rfl ?_)
    refine Zb (Ze ?_)
    have e101 := Zu hm102
    subst s109
    have hS123 := (hS122).f1
    have hS124 := (hS123).f1
    exact ⟨s111, v109, (Zt l104 l107), hS124, p110, rfl, p112, p113, p114, p115, p116, p117, p118, p119, (Eq.trans rfl (wrap_up hi102 (by have h := must_some q104; simp at h; simp only [maxLen]; omega)))⟩
   ·intro f103 w111 hI103
    obtain ⟨s112, v106, l109, hS125, p120, p121, p122, p123, p124, p125, p126, p127, p128, p129, x105⟩ := hI103
    refine Zc ?_
    refine Zd ?_
    refine Za rfl rfl (Exec.lss rfl x105 p129 ?_)
    refine Zb (Ze ?_)
    refine Zc ?_
    refine W_false (congrArg Value.bool (decide_eq_false (by omega))) ?_
    refine W_exit (at_exit (at_exit (ib_here (ib_normal (Ze ?_)))))
    refine Zd ?_
    refine Za rfl rfl (Exec.add rfl p128 rfl ?_)
    refine Za rfl rfl (Exec.move (v := Value.int .i64 (IntKind.i64.wrap ((i101 : Int) + 1))) rfl rfl ?_)
    refine Zb (Ze ?_)
    have e102 := Zu hm101
    subst s106
    have hS126 := (hS125).f1
    have hS127 := (hS126).f1
    exact ⟨s112, v106, (Zt l102 l109), hS127, p120, p121, p123, p124, p125, p126, p127, (Eq.trans rfl (wrap_up hi101 (hS105).arr_le))⟩
  ·intro f104 w112 hI104
   obtain ⟨s113, v104, l110, hS128, p130, p131, p132, p133, p134, p135, p136, x106⟩ := hI104
   refine Zc ?_
   refine Zd ?_
   refine Za rfl rfl (Exec.lss rfl x106 p136 ?_)
   refine Zb (Ze ?_)
   refine Zc ?_
   refine W_false (congrArg Value.bool (decide_eq_false (by omega))) ?_
   refine W_exit (at_exit (at_exit (ib_here (Ze ?_))))
   refine Zd ?_
   refine Za rfl rfl (Exec.move (v := v104) rfl p131 ?_)
   refine Za rfl rfl (Exec.assign (v := v104) rfl rfl ?_)
   refine Zb (ib_normal (Ze ?_))
   refine Zd ?_
   refine Za rfl rfl (Exec.add rfl p134 rfl ?_)
   refine Za rfl rfl (Exec.move (v := Value.int .i64 (IntKind.i64.wrap ((i100 : Int) + 1))) rfl rfl ?_)
   refine Zb (Ze ?_)
   have e103 := Zu hm100
   subst s103
   have hS129 := ((hS128).f1).drop
   exact ⟨s113, v104, (Zt l101 l110), hS129, rfl, p132, p133, (Eq.trans rfl (wrap_up hi100 (SliceRep.le (a100.mono l100))))⟩
 ·intro f105 w113 hI105
  obtain ⟨s114, v102, l111, hS130, p137, p138, p139, x107⟩ := hI105
  refine Zc ?_
  refine Zd ?_
  refine Za rfl rfl (Exec.lss rfl x107 p139 ?_)
  refine Zb (Ze ?_)
  refine Zc ?_
  refine W_false (congrArg Value.bool (decide_eq_false (by omega))) ?_
  refine W_exit (at_exit (at_exit (ib_here (Ze ?_))))
  refine Zc ?_
  refine Zd ?_
  refine Za rfl rfl (Exec.move (v := v102) rfl p137 ?_)
  refine Za rfl rfl (Exec.assign (v := v102) rfl rfl ?_)
  refine Zb (Ze ?_)
  refine W_ret ?_
  have e104 := Zu hm
  subst r
  refine ⟨_, ret1 rfl, ?_⟩
  obtain ⟨s115, l112, hS131, r103⟩ := hS130.freezeArr
  exact ⟨s115, v102, (Zt (Zt l100 l111) l112), hS131, rfl, r103⟩

theorem N51 : (Try.f51.name == "runtime.NumGoroutine") = false := by kernel_rfl

theorem base_Holds_sim {w0 w : World} {s : PHeap} {H : List Res} {f_100 : (List Fact)} {s_100 : (List Int)} {v100 : Value} {v101 : Value} {r : Bool} (hm : base_Holds_p f_100 s_100 = some r) (hS : St w0 s (H) w) (a100 : SliceRep encFact s v100 f_100) (a101 : SliceRep (encInt .i64) s v101 s_100) :
  Calls Try.prog 51 #[v100, v101] w fun e w' => ∃ v, e = .returned v ∧ ((fun (y100 : Bool) => ∃ (s100 : PHeap) , PHeap.le s s100 ∧ St w0 s100 (H) w' ∧ v = Value.bool (y100)) r) := by
 unfold base_Holds_p at hm
 refine calls_of_W Try.func51 rfl rfl ?_
 refine Zc ?_
 refine Zd ?_
 refine Za rfl rfl (Exec.assign (v := Value.bool (false)) rfl rfl ?_)
 refine Zb (Ze ?_)
 refine Zc ?_
 refine Zc ?_
 refine Zd ?_
 refine Za rfl rfl (Exec.move (v := v100) rfl rfl ?_)
 refine Za rfl rfl (Exec.len_rep S52 rfl rfl a100 ?_)
 refine Za rfl rfl (Exec.move (v := Value.int .i64 (0)) rfl rfl ?_)
 refine Zb (Ze ?_)
 obtain ⟨c100, hB100, hr100, hn100, hb100⟩ := ctl_some hm
 refine W_mid (M := fun f' w' => ∃ s', (c100 = .next s' ∨ c100 = .brk s') ∧ (fun (_ : Unit) => ∃ (s101 : PHeap) , PHeap.le s s101 ∧ St w0 s101 (H) w' ∧ f' 1 = v101 ∧ f' 7 = v100 ∧ f' 8 = Value.int .i64 ((f_100.length : Int))) s') ?_ ?_
 ·refine W_block (W_forC (fun k' s' f' w' => (fun (_ : Unit) => ∃ (s102 : PHeap) , PHeap.le s s102 ∧ St w0 s102 (H) w' ∧ f' 1 = v101 ∧ f' 7 = v100 ∧ f' 8 = Value.int .i64 ((f_100.length : Int)) ∧ f' 9 = Value.int .i64 (k' : Int)) s') hB100 ?_ ?_ ?_)
  ·exact ⟨s, (PHeap.le_refl _), hS, rfl, rfl, rfl, rfl⟩
  ·intro i100 t100 c101 f100 w100 hi100 hI100 hm100 hres100
   obtain ⟨s103, l100, hS100, p100, p101, p102, x100⟩ := hI100
   refine Zc ?_
   refine Zd ?_
   refine Za rfl rfl (Exec.lss rfl x100 p102 ?_)
   refine Zb (Ze ?_)
   refine Zc ?_
   refine W_true (congrArg Value.bool (decide_eq_true (by omega))) ?_
   refine W_skip (Ze ?_)
   refine Zc ?_
   refine W_block ?_
   refine Zc ?_
   refine Zd ?_
   obtain ⟨x101, q100, hm100⟩ := Zg hm100
   refine Za rfl rfl (Exec.index_rep S52 rfl p101 x100 (a100.mono l100) q100 ?_)
   intro b100 o100 a102
   refine Za rfl rfl (Exec.load_at (E := encFact) hS100 A82 rfl rfl rfl a102 ?_)
   intro v102 q101
   obtain rfl := encFact_val.1 q101
   refine Za rfl rfl (Exec.alloc (cs := [Value.int .i64 (0), Value.int .i64 (0)]) hS100 Z82 rfl rfl ?_)
   intro b101 w101 hS101
   refine Za rfl rfl (Exec.store_box (ds := [Value.int .i64 (x101.Var), Value.int .i64 (x101.Val)]) (es := [Value.int .i64 (x101.Var), Value.int .i64 (x101.Val)]) hS101 A82 rfl rfl rfl rfl (Zj rfl (Zj rfl one_nil)) (Nat.le_of_ble_eq_true rfl) rfl ?_)
   intro w102 hS102
   refine Zb (Ze ?_)
   refine Zc ?_
   obtain ⟨z100, ht100, hm100⟩ := Zg hm100
   refine W_mid (M := fun f' w' => (fun (z100 : Bool) => ∃ (s104 : PHeap) , PHeap.le s103 s104 ∧ St w0 s104 (H) w' ∧ f' 1 = v101 ∧ f' 7 = v100 ∧ f' 8 = Value.int .i64 ((f_100.length : Int)) ∧ f' 9 = Value.int .i64 ((i100 : Int)) ∧ f' 32 = Value.bool (z100)) z100) ?_ ?_
   ·refine W_dl (n0 := 20) (.q 0 (.q 1 (.q 2 (.q 3 (.q 4 (.q 5 (.q 6 (.q 7 (.q 8 (.q 9 (.q 10 (.q 11 (.q 12 (.q 13 (.q 14 (.q 15 (.q 16 (.q 17 (.q 18 (.q 19 .done)))))))))))))))))))) hmix (by kernel_rfl) (by kernel_rfl) ?_
    have hS103 := hS102.drew
    refine DL_q rfl rfl (Exec.field F82_0 rfl rfl rfl ⟨rfl, ?_⟩)
    refine DL_q rfl rfl (Exec.load_box (hS103) A3 rfl rfl rfl ⟨rfl, ?_⟩)
    refine DL_q rfl rfl (Exec.lss rfl rfl rfl ⟨rfl, ?_⟩)
    refine DL_q rfl rfl (Exec.move (v := Value.bool (decide (x101.Var < 0))) rfl rfl ⟨rfl, ?_⟩)
    rcases ite_some ht100 with ⟨hc100, ht100⟩ | ⟨hc100, ht100⟩
    ·refine DL_qp rfl rfl (Zf rfl (congrArg Value.bool hc100)) rfl ?_
     refine DL_qp rfl rfl (Zf rfl (congrArg Value.bool hc100)) rfl ?_
     refine DL_qp rfl rfl (Zf rfl (congrArg Value.bool hc100)) rfl ?_
     refine DL_qp rfl rfl (Zf rfl (congrArg Value.bool hc100)) rfl ?_
     refine DL_qp rfl rfl (Zf rfl (congrArg Value.bool hc100)) rfl ?_
     refine DL_q rfl rfl (Exec.pick_t (v := Value.bool (true)) rfl (congrArg Value.bool hc100) rfl ⟨rfl, ?_⟩)
     refine DL_q rfl rfl (Exec.move (v := Value.bool (true)) rfl rfl ⟨rfl, ?_⟩)
     refine DL_qp rfl rfl (Zf rfl rfl) rfl ?_
     refine DL_qp rfl rfl (Zf rfl rfl) rfl ?_
     refine DL_qp rfl rfl (Zf rfl rfl) rfl ?_
     refine DL_qp rfl rfl (Zf rfl rfl) rfl ?_
     refine DL_qp rfl rfl (Zf rfl rfl) rfl ?_
     refine DL_qp rfl rfl (Zf rfl rfl) rfl ?_
     refine DL_qp rfl rfl (Zf rfl rfl) rfl ?_
     refine DL_qp rfl rfl (Zf rfl rfl) rfl ?_
     refine DL_q rfl rfl (Exec.pick_t (v := Value.bool (true)) rfl rfl rfl ⟨rfl, ?_⟩)
     refine DL_done ?_
     refine Zb (Ze ?_)
     have e100 := Zu ht100
     subst z100
     have hS104 := (hS103).drop
     exact ⟨s103, (PHeap.le_refl _), hS104, p100, p101, p102, x100, rfl⟩
    ·replace hc100 := Zk hc100
     refine DL_qg rfl rfl (Zf rfl (congrArg Value.bool hc100)) (Exec.field F82_0 rfl rfl rfl ⟨rfl, ?_⟩)
     refine DL_qg rfl rfl (Zf rfl (congrArg Value.bool hc100)) (Exec.load_box (hS103) A3 rfl rfl rfl ⟨rfl, ?_⟩)
     refine DL_qg rfl rfl (Zf rfl (congrArg Value.bool hc100)) (Exec.move (v := v101) rfl p100 ⟨rfl, ?_⟩)
     refine DL_qg rfl rfl (Zf rfl (congrArg Value.bool hc100)) (Exec.len_rep S22 rfl rfl (a101.mono l100) ⟨rfl, ?_⟩)
     refine DL_qg rfl rfl (Zf rfl (congrArg Value.bool hc100)) (Exec.geq rfl rfl rfl ⟨rfl, ?_⟩)
     refine DL_q rfl rfl (Exec.pick_f (v := Value.bool (decide ((s_100.length : Int) ≤ x101.Var))) rfl (congrArg Value.bool hc100) rfl ⟨rfl, ?_⟩)
     refine DL_q rfl rfl (Exec.move (v := Value.bool (decide ((s_100.length : Int) ≤ x101.Var))) rfl rfl ⟨rfl, ?_⟩)
     rcases ite_some ht100 with ⟨hc101, ht100⟩ | ⟨hc101, ht100⟩
     ·refine DL_qp rfl rfl (Zf rfl (congrArg Value.bool hc101)) rfl ?_
      refine DL_qp rfl rfl (Zf rfl (congrArg Value.bool hc101)) rfl ?_
      refine DL_qp rfl rfl (Zf rfl (congrArg Value.bool hc101)) rfl ?_
      refine DL_qp rfl rfl (Zf rfl (congrArg Value.bool hc101)) rfl ?_
      refine DL_qp rfl rfl (Zf rfl (congrArg Value.bool hc101)) rfl ?_
      refine DL_qp rfl rfl (Zf rfl (congrArg Value.bool hc101)) rfl ?_
      refine DL_qp rfl rfl (Zf rfl (congrArg Value.bool hc101)) rfl ?_
      refine DL_qp rfl rfl (Zf rfl (congrArg Value.bool hc101)) rfl ?_
      refine DL_q rfl rfl (Exec.pick_t (v := Value.bool (true)) rfl (congrArg Value.bool hc101) rfl ⟨rfl, ?_⟩)
      refine DL_done ?_
      refine Zb (Ze ?_)
      have e101 := Zu ht100
      subst z100
      have hS105 := (hS103).drop
      exact ⟨s103, (PHeap.le_refl _), hS105, p100, p101, p102, x100, rfl⟩
     ·replace hc101 := Zk hc101
      refine DL_qg rfl rfl (Zf rfl (congrArg Value.bool hc101)) (Exec.move (v := v101) rfl p100 ⟨rfl, ?_⟩)
      refine DL_qg rfl rfl (Zf rfl (congrArg Value.bool hc101)) (Exec.field F82_0 rfl rfl rfl ⟨rfl, ?_⟩)
      refine DL_qg rfl rfl (Zf rfl (congrArg Value.bool hc101)) (Exec.load_box (hS103) A3 rfl rfl rfl ⟨rfl, ?_⟩)
      obtain ⟨x102, q102, ht100⟩ := Zg ht100
      refine DL_qg rfl rfl (Zf rfl (congrArg Value.bool hc101)) (Exec.index_repE S22 rfl rfl rfl (a101.mono l100) q102 ?_)
      intro b102 o101 a103 e102
      refine ⟨rfl, ?_⟩
      refine DL_qg rfl rfl (Zf rfl (congrArg Value.bool hc101)) (Exec.load_at (E := (encInt .i64)) hS103 A3 rfl rfl rfl a103 ?_)
      intro v103 q103
      obtain rfl := encInt_val.1 q103
      refine ⟨rfl, ?_⟩
      refine DL_qg rfl rfl (Zf rfl (congrArg Value.bool hc101)) (Exec.field F82_1 rfl rfl rfl ⟨rfl, ?_⟩)
      refine DL_qg rfl rfl (Zf rfl (congrArg Value.bool hc101)) (Exec.load_box (hS103) A3 rfl rfl rfl ⟨rfl, ?_⟩)
      refine DL_qg rfl rfl (Zf rfl (congrArg Value.bool hc101)) (Exec.neq rfl rfl rfl ⟨rfl, ?_⟩)
      refine DL_q rfl rfl (Exec.pick_f (v := Value.bool (!decide (x102 = x101.Val))) rfl (congrArg Value.bool hc101) rfl ⟨rfl, ?_⟩)
      refine DL_done ?_
      refine Zb (Ze ?_)
      have e103 := Zu ht100
      subst z100
      have hS106 := (hS103).drop
      exact ⟨s103, (PHeap.le_refl _), hS106, p100, p101, p102, x100, rfl⟩
   ·intro f101 w103 hM100
    obtain ⟨s105, l101, hS107, p103, p104, p105, p106, p107⟩ := hM100
    refine (Ze ?_)
    rcases ite_some hm100 with ⟨hc102, hm100⟩ | ⟨hc102, hm100⟩
    ·refine W_cond_t p107 hc102 ?_
     refine Zc ?_
     refine Zd ?_
     refine Za rfl rfl (Exec.assign (v := Value.bool (false)) rfl rfl ?_)
     refine Zb (Ze ?_)
     refine W_ret (ib_ret (at_ret (at_ret (ib_ret (at_ret (at_ret ?_))))))
     have e104 := Zu hm100
     subst c101
     have hq100 := hr100 _ (hres100 (by intro _ h; cases h))
     have e105 := Zu hq100
     subst r
     refine ⟨_, ret1 rfl, ?_⟩
     exact ⟨s105, (Zt l100 l101), hS107, rfl⟩
    ·refine W_cond_f p107 hc102 ?_
     replace hc102 := Zk hc102
     refine W_skip (ib_normal (Ze ?_))
     refine Zd ?_
     refine Za rfl rfl (Exec.add rfl p106 rfl ?_)
     refine Za rfl rfl (Exec.move (v := Value.int .i64 (IntKind.i64.wrap ((i100 : Int) + 1))) rfl rfl ?_)
     refine Zb (Ze ?_)
     have e106 := Zu hm100
     subst c101
     refine ⟨_, rfl, ?_⟩; exact ⟨s105, (Zt l100 l101), hS107, p103, p104, p105, (Eq.trans rfl (wrap_up hi100 (SliceRep.le a100)))⟩
  ·intro t101 f102 w104 hI101 hres101
   obtain ⟨s106, l102, hS108, p108, p109, p110, x103⟩ := hI101
   refine Zc ?_
   refine Zd ?_
   refine Za rfl rfl (Exec.lss rfl x103 p110 ?_)
   refine Zb (Ze ?_)
   refine Zc ?_
   refine W_false (congrArg Value.bool (decide_eq_false (by omega))) ?_
   refine W_exit (at_exit (at_exit (ib_here (Ze ?_))))
   refine ⟨_, .inl hres101, ?_⟩; exact ⟨s106, l102, hS108, p108, p109, p110⟩
 ·rintro f103 w105 ⟨t102, hc103, hM101⟩
  have hm := hc103.elim (hn100 _) (hb100 _)
  clear hc103
  obtain ⟨s107, l103, hS109, p111, p112, p113⟩ := hM101
  refine (Ze ?_)
  refine Zc ?_
  refine Zd ?_
  refine Za rfl rfl (Exec.assign (v := Value.bool (true)) rfl rfl ?_)
  refine Zb (Ze ?_)
  refine W_ret ?_
  have e107 := Zu hm
  subst r
  refine ⟨_, ret1 rfl, ?_⟩
  exact ⟨s107, l103, hS109, rfl⟩

theorem N50 : (Try.f50.name == "runtime.NumGoroutine") = false := by kernel_rfl

theorem base_Apply_sim {w0 w : World} {s : PHeap} {H : List Res} {t100 : Task} {s_100 : (List Int)} {op100 : Int} {v100 : Value} {v101 : Value} {v102 : Value} {v103 : Value} {v104 : Value} {r : (List Int) × Bool} (hm : base_Apply_p t100 s_100 op100 = some r) (hS : St w0 s (H) w) (a100 : SliceRep (encInt .i64) s v100 t100.Vars) (a101 : SliceRep (encInt .i64) s v101 t100.Init) (a102 : SliceRep encFact s v102 t100.Goal) (a103 : SliceRep encOp s v103 t100.Ops) (a104 : SliceRep (encInt .i64) s v104 s_100) :
  Calls Try.prog 50 #[Value.agg #[v100, v101, v102, v103], v104, Value.int .i64 (op100)] w fun e w' => ∃ v, e = .returned v ∧ ((un2 fun (y100 : (List Int)) (y101 : Bool) => ∃ (s100 : PHeap) (v105 : Value), PHeap.le s s100 ∧ St w0 s100 (H) w' ∧ v = Value.tuple #[v105, Value.bool (y101)] ∧ SliceRep (encInt .i64) s100 v105 y100) r) := by
 unfold base_Apply_p at hm
 refine calls_of_W Try.func50 rfl rfl ?_
 refine Zc ?_
 refine Zd ?_
 refine Za rfl rfl (Exec.box (cs := [v100, v101, v102, v103]) hS rfl rfl rfl ?_)
 intro b100 w100 hS100
 refine Za rfl rfl (Exec.assign (v := Value.slice none 0 0) rfl rfl ?_)
 refine Za rfl rfl (Exec.assign (v := Value.bool (false)) rfl rfl ?_)
 refine Zb (Ze ?_)
 refine Zc ?_
 refine Zc ?_
 obtain ⟨z100, ht100, hm⟩ := Zg hm
 refine W_mid (M := fun f' w' => (fun (z100 : Bool) => ∃ (s101 : PHeap) , PHeap.le s s101 ∧ St w0 s101 (Res.box b100 55 [v100, v101, v102, v103] :: H) w' ∧ f' 1 = v104 ∧ f' 2 = Value.int .i64 (op100) ∧ f' 3 = Value.pointer (some ⟨b100, 0, none⟩) ∧ f' 30 = Value.bool (z100)) z100) ?_ ?_
 ·refine Zd ?_
  refine Za rfl rfl (Exec.move (v := Value.int .i64 (op100)) rfl rfl ?_)
  refine Za rfl rfl (Exec.lss rfl rfl rfl ?_)
  refine Za rfl rfl (Exec.move (v := Value.bool (decide (op100 < 0))) rfl rfl ?_)
  rcases ite_some ht100 with ⟨hc100, ht100⟩ | ⟨hc100, ht100⟩
  ·refine Zl rfl (Zf rfl (congrArg Value.bool hc100)) rfl rfl ?_
   refine Zl rfl (Zf rfl (congrArg Value.bool hc100)) rfl rfl ?_
   refine Zl rfl (Zf rfl (congrArg Value.bool hc100)) rfl rfl ?_
   refine Zl rfl (Zf rfl (congrArg Value.bool hc100)) rfl rfl ?_
   refine Zl rfl (Zf rfl (congrArg Value.bool hc100)) rfl rfl ?_
   refine Za rfl rfl (Exec.pick_t (v := Value.bool (true)) rfl (congrArg Value.bool hc100) rfl ?_)
   refine Za rfl rfl (Exec.move (v := Value.bool (true)) rfl rfl ?_)
   refine Zl rfl (Zf rfl rfl) rfl rfl ?_
   refine Zl rfl (Zf rfl rfl) rfl rfl ?_
   refine Zl rfl (Zf rfl rfl) rfl rfl ?_
   refine Zl rfl (Zf rfl rfl) rfl rfl ?_
   refine Zl rfl (Zf rfl rfl) rfl rfl ?_
   refine Zl rfl (Zf rfl rfl) rfl rfl ?_
   refine Zl rfl (Zf rfl rfl) rfl rfl ?_
   refine Zl rfl (Zf rfl rfl) rfl rfl ?_
   refine Zl rfl (Zf rfl rfl) rfl rfl ?_
   refine Za rfl rfl (Exec.pick_t (v := Value.bool (true)) rfl rfl rfl ?_)
   refine Zb (Ze ?_)
   have e100 := Zu ht100
   subst z100
   exact ⟨s, (PHeap.le_refl _), hS100, rfl, rfl, rfl, rfl⟩
  ·replace hc100 := Zk hc100
   refine WL_run rfl (Zf rfl (congrArg Value.bool hc100)) rfl (Exec.move (v := Value.int .i64 (op100)) rfl rfl ?_)
   refine WL_run rfl (Zf rfl (congrArg Value.bool hc100)) rfl (Exec.field F55_3 rfl rfl rfl ?_)
   refine WL_run rfl (Zf rfl (congrArg Value.bool hc100)) rfl (Exec.load_box (hS100) A53 rfl rfl rfl ?_)
   refine WL_run rfl (Zf rfl (congrArg Value.bool hc100)) rfl (Exec.len_rep S53 rfl rfl a103 ?_)
   refine WL_run rfl (Zf rfl (congrArg Value.bool hc100)) rfl (Exec.geq rfl rfl rfl ?_)
   refine Za rfl rfl (Exec.pick_f (v := Value.bool (decide ((t100.Ops.length : Int) ≤ op100))) rfl (congrArg Value.bool hc100) rfl ?_)
   refine Za rfl rfl (Exec.move (v := Value.bool (decide ((t100.Ops.length : Int) ≤ op100))) rfl rfl ?_)
   rcases ite_some ht100 with ⟨hc101, ht100⟩ | ⟨hc101, ht100⟩
   ·refine Zl rfl (Zf rfl (congrArg Value.bool hc101)) rfl rfl ?_
    refine Zl rfl (Zf rfl (congrArg Value.bool hc101)) rfl rfl ?_
    refine Zl rfl (Zf rfl (congrArg Value.bool hc101)) rfl rfl ?_
    refine Zl rfl (Zf rfl (congrArg Value.bool hc101)) rfl rfl ?_
    refine Zl rfl (Zf rfl (congrArg Value.bool hc101)) rfl rfl ?_
    refine Zl rfl (Zf rfl (congrArg Value.bool hc101)) rfl rfl ?_
    refine Zl rfl (Zf rfl (congrArg Value.bool hc101)) rfl rfl ?_
    refine Zl rfl (Zf rfl (congrArg Value.bool hc101)) rfl rfl ?_
    refine Zl rfl (Zf rfl (congrArg Value.bool hc101)) rfl rfl ?_
    refine Za rfl rfl (Exec.pick_t (v := Value.bool (true)) rfl (congrArg Value.bool hc101) rfl ?_)
    refine Zb (Ze ?_)
    have e101 := Zu ht100
    subst z100
    exact ⟨s, (PHeap.le_refl _), hS100, rfl, rfl, rfl, rfl⟩
   ·replace hc101 := Zk hc101
    refine WL_run rfl (Zf rfl (congrArg Value.bool hc101)) rfl (Exec.field F55_3 rfl rfl rfl ?_)
    refine WL_run rfl (Zf rfl (congrArg Value.bool hc101)) rfl (Exec.load_box (hS100) A53 rfl rfl rfl ?_)
    refine WL_run rfl (Zf rfl (congrArg Value.bool hc101)) rfl (Exec.move (v := Value.int .i64 (op100)) rfl rfl ?_)
    obtain ⟨x100, q100, ht100⟩ := Zg ht100
    refine WL_run rfl (Zf rfl (congrArg Value.bool hc101)) rfl (Exec.index_rep S53 rfl rfl rfl a103 q100 ?_)
    intro b101 o100 a105
    refine WL_run rfl (Zf rfl (congrArg Value.bool hc101)) rfl (Exec.field F79_2 rfl rfl rfl ?_)
    refine WL_run rfl (Zf rfl (congrArg Value.bool hc101)) rfl (Exec.load_at (E := (encSlice encFact)) hS100 A52 rfl rfl rfl (a105.sub (Sub.iso (Sub.snd (Sub.snd (Sub.fst (Sub.refl _)) rfl) rfl)) rfl) ?_)
    intro v106 q101
    have r100 := encSlice_val.1 q101
    refine WL_run rfl (Zf rfl (congrArg Value.bool hc101)) rfl (Exec.move (v := v104) rfl rfl ?_)
    obtain ⟨y102, q102, ht100⟩ := Zg ht100
    refine WL_run rfl (Zf rfl (congrArg Value.bool hc101)) rfl (Exec.call rfl rfl Try.func51 rfl N51 (Zi rfl (Zi rfl args_nil)) ((base_Holds_sim q102 hS100 r100 a104).mono ?_))
    rintro _ w101 ⟨_, rfl, ⟨s102, l100, hS101, rfl⟩⟩
    refine ⟨_, rfl, ?_⟩
    refine WL_run rfl (Zf rfl (congrArg Value.bool hc101)) rfl (Exec.not rfl rfl ?_)
    refine Za rfl rfl (Exec.pick_f (v := Value.bool (!y102)) rfl (congrArg Value.bool hc101) rfl ?_)
    refine Zb (Ze ?_)
    have e102 := Zu ht100
    subst z100
    exact ⟨s102, l100, hS101, rfl, rfl, rfl, rfl⟩
 ·intro f100 w102 hM100
  obtain ⟨s103, l101, hS102, p100, p101, p102, p103⟩ := hM100
  refine (Ze ?_)
  rcases ite_some hm with ⟨hc102, hm⟩ | ⟨hc102, hm⟩
  ·refine W_cond_t p103 hc102 ?_
   refine Zc ?_
   refine Zd ?_
   refine Za rfl rfl (Exec.assign (v := Value.slice none 0 0) rfl rfl ?_)
   refine Za rfl rfl (Exec.assign (v := Value.bool (false)) rfl rfl ?_)
   refine Zb (Ze ?_)
   refine W_ret (at_ret ?_)
   have e103 := Zu hm
   subst r
   refine ⟨_, ret2 rfl, ?_⟩
   have hS103 := (hS102).drop
   exact ⟨s103, (Value.slice none 0 0), l101, hS103, (tup2 rfl rfl), (SliceRep.nil _ _)⟩
  ·refine W_cond_f p103 hc102 ?_
   replace hc102 := Zk hc102
   refine W_skip (Ze ?_)
   refine Zc ?_
   refine Zd ?_
   refine Za rfl rfl (Exec.buildSlice (Te := 3) (cs := []) hS102 rfl parts_nil (fun _ => by kernel_rfl) ?_)
   intro b102 w103 hS104
   refine Za rfl rfl (Exec.move (v := v104) rfl p100 ?_)
   have hS105 := St.boxArr (E := (encInt .i64)) (xs := []) hS104 rfl (by simp [maxLen])
   obtain ⟨l102, q103, hm⟩ := Zg hm
   refine Za rfl rfl (Exec.append_rep (E := (encInt .i64)) (ys := s_100) hS105 S22 Z3 rfl (by decide) rfl rfl rfl (a104.mono l101) q103 ?_)
   intro v107 w104 hS106
   refine Za rfl rfl (Exec.assign (v := v107) rfl rfl ?_)
   refine Zb (Ze ?_)
   refine Zc ?_
   refine Zc ?_
   refine Zd ?_
   refine Za rfl rfl (Exec.field F55_3 rfl p102 rfl ?_)
   refine Za rfl rfl (Exec.load_box ((hS106).f1) A53 rfl rfl rfl ?_)
   refine Za rfl rfl (Exec.move (v := Value.int .i64 (op100)) rfl p101 ?_)
   obtain ⟨x101, q104, hm⟩ := Zg hm
   refine Za rfl rfl (Exec.index_rep S53 rfl rfl rfl (a103.mono l101) q104 ?_)
   intro b103 o101 a106
   refine Za rfl rfl (Exec.field F79_3 rfl rfl rfl ?_)
   refine Za rfl rfl (Exec.load_at (E := (encSlice encEffect)) hS106 A77 rfl rfl rfl (a106.sub (Sub.iso (Sub.snd (Sub.snd (Sub.snd (Sub.refl _) rfl) rfl) rfl)) rfl) ?_)
   intro v108 q105
   have r101 := encSlice_val.1 q105
   refine Za rfl rfl (Exec.len_rep S77 rfl rfl r101 ?_)
   refine Za rfl rfl (Exec.move (v := Value.int .i64 (0)) rfl rfl ?_)
   refine Zb (Ze ?_)
   obtain ⟨l103, hB100, hm⟩ := Zg hm
   refine W_block (W_forS (fun k' s' f' w' => (fun (l103 : (List Int)) => ∃ (s104 : PHeap) , PHeap.le s103 s104 ∧ St w0 s104 (Res.arr (encInt .i64) 3 v107 l103 :: H) w' ∧ f' 1 = v104 ∧ f' 8 = v107 ∧ f' 39 = v108 ∧ f' 40 = Value.int .i64 ((x101.Effs.length : Int)) ∧ f' 41 = Value.int .i64 (k' : Int)) s') hB100 ?_ ?_ ?_)
   ·have hS107 := ((hS106).f1).drop
    exact ⟨s103, (PHeap.le_refl _), hS107, p100, rfl, rfl, rfl, rfl⟩
   ·intro i100 l103 s105 f101 w105 hi100 hI100 hm100
    obtain ⟨s106, l104, hS108, p104, p105, p106, p107, x102⟩ := hI100
    refine Zc ?_
    refine Zd ?_
    refine Za rfl rfl (Exec.lss rfl x102 p107 ?_)
    refine Zb (Ze ?_)
    refine Zc ?_
    refine W_true (congrArg Value.bool (decide_eq_true (by omega))) ?_
    refine W_skip (Ze ?_)
    refine Zc ?_
    refine W_block ?_
    refine Zc ?_
    refine Zd ?_
    obtain ⟨x103, q106, hm100⟩ := Zg hm100
    refine Za rfl rfl (Exec.index_rep S77 rfl p106 x102 (r101.mono l104) q106 ?_)
    intro b104 o102 a107
    refine Za rfl rfl (Exec.load_at (E := encEffect) hS108 A93 rfl rfl rfl a107 ?_)
    intro v109 q107
    obtain ⟨u100, rfl, r102⟩ := encEffect_val.1 q107
    refine Za rfl rfl (Exec.alloc (cs := [Value.slice none 0 0, Value.int .i64 (0), Value.int .i64 (0)]) hS108 Z93 rfl rfl ?_)
    intro b105 w106 hS109
    refine Za rfl rfl (Exec.store_box (ds := [u100, Value.int .i64 (x103.Var), Value.int .i64 (x103.Val)]) (es := [u100, Value.int .i64 (x103.Var), Value.int .i64 (x103.Val)]) hS109 A93 rfl rfl rfl rfl (Zj (r102).one (Zj rfl (Zj rfl one_nil))) (Nat.le_of_ble_eq_true rfl) rfl ?_)
    intro w107 hS110
    refine Zb (Ze ?_)
    refine Zc ?_
    refine Zd ?_
    refine Za rfl rfl (Exec.field F93_0 rfl rfl rfl ?_)
    refine Za rfl rfl (Exec.load_box (hS110) A52 rfl rfl rfl ?_)
    refine Za rfl rfl (Exec.move (v := v104) rfl p104 ?_)
    obtain ⟨y103, q108, hm100⟩ := Zg hm100
    refine Za rfl rfl (Exec.call rfl rfl Try.func51 rfl N51 (Zi rfl (Zi rfl args_nil)) ((base_Holds_sim q108 hS110 r102 (a104.mono (Zt l101 l104))).mono ?_))
    rintro _ w108 ⟨_, rfl, ⟨s107, l105, hS111, rfl⟩⟩
    refine ⟨_, rfl, ?_⟩
    refine Zb (Ze ?_)
    obtain ⟨l106, ht101, hm100⟩ := Zg hm100
    refine W_mid (M := fun f' w' => (fun (l106 : (List Int)) => ∃ (s108 : PHeap) , PHeap.le s107 s108 ∧ St w0 s108 (Res.arr (encInt .i64) 3 v107 l106 :: H) w' ∧ f' 1 = v104 ∧ f' 8 = v107 ∧ f' 39 = v108 ∧ f' 40 = Value.int .i64 ((x101.Effs.length : Int)) ∧ f' 41 = Value.int .i64 ((i100 : Int))) l106) ?_ ?_
    ·rcases ite_some ht101 with ⟨hc103, ht101⟩ | ⟨hc103, ht101⟩
     ·refine W_cond_t rfl hc103 ?_
      refine Zd ?_
      refine Za rfl rfl (Exec.move (v := v107) rfl p105 ?_)
      refine Za rfl rfl (Exec.field F93_1 rfl rfl rfl ?_)
      refine Za rfl rfl (Exec.load_box (hS111) A3 rfl rfl rfl ?_)
      refine Za rfl rfl (Exec.field F93_2 rfl rfl rfl ?_)
      refine Za rfl rfl (Exec.load_box (hS111) A3 rfl rfl rfl ?_)
      obtain ⟨x104, q109, ht101⟩ := Zg ht101
      obtain ⟨g100, c100, e104⟩ := ((hS111).f1).arr_at q109
      refine Za rfl rfl (Exec.index_slice S22 rfl e104 rfl (idx_some q109).1 (idx_some q109).2.1 ?_)
      obtain ⟨l107, q110, ht101⟩ := Zg ht101
      have hS112 := (hS111).f1
      refine Za rfl rfl (Exec.store_arr hS112 e104 A3 rfl rfl rfl rfl (encInt_val.2 rfl) q110 ?_)
      intro w109 hS113
      refine Zb (Ze ?_)
      have e105 := Zu ht101
      subst l106
      have hS114 := ((hS113).f1).drop
      exact ⟨s107, (PHeap.le_refl _), hS114, p104, p105, p106, p107, x102⟩
     ·refine W_cond_f rfl hc103 ?_
      replace hc103 := Zk hc103
      refine W_skip (Ze ?_)
      have e106 := Zu ht101
      subst l106
      have hS115 := (hS111).drop
      exact ⟨s107, (PHeap.le_refl _), hS115, p104, p105, p106, p107, x102⟩
    ·intro f102 w110 hM101
     obtain ⟨s109, l108, hS116, p108, p109, p110, p111, p112⟩ := hM101
     refine (ib_normal (Ze ?_))
     refine Zd ?_
     refine Za rfl rfl (Exec.add rfl p112 rfl ?_)
     refine Za rfl rfl (Exec.move (v := Value.int .i64 (IntKind.i64.wrap ((i100 : Int) + 1))) rfl rfl ?_)
     refine Zb (Ze ?_)
     have e107 := Zu hm100
     subst s105
     exact ⟨s109, (Zt (Zt l104 l105) l108), hS116, p108, p109, p110, p111, (Eq.trans rfl (wrap_up hi100 (SliceRep.le r101)))⟩
   ·intro f103 w111 hI101
    obtain ⟨s110, l109, hS117, p113, p114, p115, p116, x105⟩ := hI101
    refine Zc ?_
    refine Zd ?_
    refine Za rfl rfl (Exec.lss rfl x105 p116 ?_)
    refine Zb (Ze ?_)
    refine Zc ?_
    refine W_false (congrArg Value.bool (decide_eq_false (by omega))) ?_
    refine W_exit (at_exit (at_exit (ib_here (Ze ?_))))
    refine Zc ?_
    refine Zd ?_
    refine Za rfl rfl (Exec.move (v := v107) rfl p114 ?_)
    refine Za rfl rfl (Exec.assign (v := v107) rfl rfl ?_)
    refine Za rfl rfl (Exec.assign (v := Value.bool (true)) rfl rfl ?_)
    refine Zb (Ze ?_)
    refine W_ret ?_
    have e108 := Zu hm
    subst r
    refine ⟨_, ret2 rfl, ?_⟩
    obtain ⟨s111, l110, hS118, r103⟩ := hS117.freezeArr
    exact ⟨s111, v107, (Zt (Zt l101 l109) l110), hS118, (tup2 rfl rfl), r103⟩

theorem N41 : (Try.f41.name == "runtime.NumGoroutine") = false := by kernel_rfl

theorem ref44_Before_sim {w0 w : World} {s : PHeap} {H : List Res} {a100 : Edge} {b100 : Edge}  {r : Bool} (hm : ref44_Before_p a100 b100 = some r) (hS : St w0 s (H) w)  :
  Calls Try.prog 41 #[Value.agg #[Value.int .i64 (a100.From), Value.int .i64 (a100.Label), Value.int .i64 (a100.To)], Value.agg #[Value.int .i64 (b100.From), Value.int .i64 (b100.Label), Value.int .i64 (b100.To)]] w fun e w' => ∃ v, e = .returned v ∧ ((fun (y100 : Bool) => ∃ (s100 : PHeap) , PHeap.le s s100 ∧ St w0 s100 (H) w' ∧ v = Value.bool (y100)) r) := by
 unfold ref44_Before_p at hm
 refine calls_of_W Try.func41 rfl rfl ?_
 refine Zc ?_
 refine Zd ?_
 refine Za rfl rfl (Exec.box (cs := [Value.int .i64 (a100.From), Value.int .i64 (a100.Label), Value.int .i64 (a100.To)]) hS rfl rfl rfl ?_)
 intro b101 w100 hS100
 refine Za rfl rfl (Exec.box (cs := [Value.int .i64 (b100.From), Value.int .i64 (b100.Label), Value.int .i64 (b100.To)]) hS100 rfl rfl rfl ?_)
 intro b102 w101 hS101
 refine Za rfl rfl (Exec.assign (v := Value.bool (false)) rfl rfl ?_)
 refine Zb (Ze ?_)
 refine Zc ?_
 refine Zc ?_
 refine Zd ?_
 refine Za rfl rfl (Exec.field F66_0 rfl rfl rfl ?_)
 refine Za rfl rfl (Exec.load_box ((hS101).f1) A3 rfl rfl rfl ?_)
 refine Za rfl rfl (Exec.field F66_0 rfl rfl rfl ?_)
 refine Za rfl rfl (Exec.load_box (hS101) A3 rfl rfl rfl ?_)
 refine Za rfl rfl (Exec.neq rfl rfl rfl ?_)
 refine Zb (Ze ?_)
 rcases ite_some hm with ⟨hc100, hm⟩ | ⟨hc100, hm⟩
 ·refine W_cond_t rfl hc100 ?_
  refine Zc ?_
  refine Zd ?_
  refine Za rfl rfl (Exec.field F66_0 rfl rfl rfl ?_)
  refine Za rfl rfl (Exec.load_box ((hS101).f1) A3 rfl rfl rfl ?_)
  refine Za rfl rfl (Exec.field F66_0 rfl rfl rfl ?_)
  refine Za rfl rfl (Exec.load_box (hS101) A3 rfl rfl rfl ?_)
  refine Za rfl rfl (Exec.lss rfl rfl rfl ?_)
  refine Za rfl rfl (Exec.assign (v := Value.bool (decide (a100.From < b100.From))) rfl rfl ?_)
  refine Zb (Ze ?_)
  refine W_ret (at_ret ?_)
  have e100 := Zu hm
  subst r
  refine ⟨_, ret1 rfl, ?_⟩
  have hS102 := (hS101).drop
  have hS103 := (hS102).drop
  exact ⟨s, (PHeap.le_refl _), hS103, rfl⟩
 ·refine W_cond_f rfl hc100 ?_
  replace hc100 := Zk hc100
  refine W_skip (Ze ?_)
  refine Zc ?_
  refine Zc ?_
  refine Zd ?_
  refine Za rfl rfl (Exec.field F66_1 rfl rfl rfl ?_)
  refine Za rfl rfl (Exec.load_box ((hS101).f1) A3 rfl rfl rfl ?_)
  refine Za rfl rfl (Exec.field F66_1 rfl rfl rfl ?_)
  refine Za rfl rfl (Exec.load_box (hS101) A3 rfl rfl rfl ?_)
  refine Za rfl rfl (Exec.neq rfl rfl rfl ?_)
  refine Zb (Ze ?_)
  rcases ite_some hm with ⟨hc101, hm⟩ | ⟨hc101, hm⟩
  ·refine W_cond_t rfl hc101 ?_
   refine Zc ?_
   refine Zd ?_
   refine Za rfl rfl (Exec.field F66_1 rfl rfl rfl ?_)
   refine Za rfl rfl (Exec.load_box ((hS101).f1) A3 rfl rfl rfl ?_)
   refine Za rfl rfl (Exec.field F66_1 rfl rfl rfl ?_)
   refine Za rfl rfl (Exec.load_box (hS101) A3 rfl rfl rfl ?_)
   refine Za rfl rfl (Exec.lss rfl rfl rfl ?_)
   refine Za rfl rfl (Exec.assign (v := Value.bool (decide (a100.Label < b100.Label))) rfl rfl ?_)
   refine Zb (Ze ?_)
   refine W_ret (at_ret ?_)
   have e101 := Zu hm
   subst r
   refine ⟨_, ret1 rfl, ?_⟩
   have hS104 := (hS101).drop
   have hS105 := (hS104).drop
   exact ⟨s, (PHeap.le_refl _), hS105, rfl⟩
  ·refine W_cond_f rfl hc101 ?_
   replace hc101 := Zk hc101
   refine W_skip (Ze ?_)
   refine Zc ?_
   refine Zd ?_
   refine Za rfl rfl (Exec.field F66_2 rfl rfl rfl ?_)
   refine Za rfl rfl (Exec.load_box ((hS101).f1) A3 rfl rfl rfl ?_)
   refine Za rfl rfl (Exec.field F66_2 rfl rfl rfl ?_)
   refine Za rfl rfl (Exec.load_box (hS101) A3 rfl rfl rfl ?_)
   refine Za rfl rfl (Exec.lss rfl rfl rfl ?_)
   refine Za rfl rfl (Exec.assign (v := Value.bool (decide (a100.To < b100.To))) rfl rfl ?_)
   refine Zb (Ze ?_)
   refine W_ret ?_
   have e102 := Zu hm
   subst r
   refine ⟨_, ret1 rfl, ?_⟩
   have hS106 := (hS101).drop
   have hS107 := (hS106).drop
   exact ⟨s, (PHeap.le_refl _), hS107, rfl⟩

theorem N40 : (Try.f40.name == "runtime.NumGoroutine") = false := by kernel_rfl

theorem ref44_Insert_sim {w0 w : World} {s : PHeap} {H : List Res} {l100 : (List Edge)} {e100 : Edge} {v100 : Value} {r : (List Edge)} (hm : ref44_Insert_p l100 e100 = some r) (hS : St w0 s (H) w) (a100 : SliceRep encEdge s v100 l100) :
  Calls Try.prog 40 #[v100, Value.agg #[Value.int .i64 (e100.From), Value.int .i64 (e100.Label), Value.int .i64 (e100.To)]] w fun e w' => ∃ v, e = .returned v ∧ ((fun (y100 : (List Edge)) => ∃ (s100 : PHeap) (v101 : Value), PHeap.le s s100 ∧ St w0 s100 (H) w' ∧ v = v101 ∧ SliceRep encEdge s100 v101 y100) r) := by
 unfold ref44_Insert_p at hm
 refine calls_of_W Try.func40 rfl rfl ?_
 refine Zc ?_
 refine Zd ?_
 refine Za rfl rfl (Exec.box (cs := [Value.int .i64 (e100.From), Value.int .i64 (e100.Label), Value.int .i64 (e100.To)]) hS rfl rfl rfl ?_)
 intro b100 w100 hS100
 refine Za rfl rfl (Exec.assign (v := Value.slice none 0 0) rfl rfl ?_)
 refine Zb (Ze ?_)
 refine Zc ?_
 refine Zd ?_
 refine Za rfl rfl (Exec.move (v := v100) rfl rfl ?_)
 refine Za rfl rfl (Exec.len_rep S23 rfl rfl a100 ?_)
 refine Za rfl rfl (Exec.assign (v := Value.int .i64 ((l100.length : Int))) rfl rfl ?_)
 refine Zb (Ze ?_)
 refine Zc ?_
 obtain ⟨c100, hB100, hr100, hn100, hb100⟩ := ctl_some hm
 refine W_mid (M := fun f' w' => ∃ s', (c100 = .next s' ∨ c100 = .brk s') ∧ (fun (at_100 : Int) => ∃ (s101 : PHeap) , PHeap.le s s101 ∧ St w0 s101 (Res.box b100 66 [Value.int .i64 (e100.From), Value.int .i64 (e100.Label), Value.int .i64 (e100.To)] :: H) w' ∧ f' 0 = v100 ∧ f' 3 = Value.pointer (some ⟨b100, 0, none⟩) ∧ f' 5 = Value.int .i64 (at_100)) s') ?_ ?_
 ·refine W_block (W_while (fun s' f' w' => (fun (at_101 : Int) => ∃ (s102 : PHeap) , PHeap.le s s102 ∧ St w0 s102 (Res.box b100 66 [Value.int .i64 (e100.From), Value.int .i64 (e100.Label), Value.int .i64 (e100.To)] :: H) w' ∧ f' 0 = v100 ∧ f' 3 = Value.pointer (some ⟨b100, 0, none⟩) ∧ f' 5 = Value.int .i64 (at_101)) s') hB100 ?_ ?_)
  ·exact ⟨s, (PHeap.le_refl _), hS100, rfl, rfl, rfl⟩
  ·intro at_101 c101 f100 w101 hI100 hm100 hres100
   obtain ⟨s103, l101, hS101, p100, p101, p102⟩ := hI100
   refine Zc ?_
   refine Zc ?_
   obtain ⟨z100, ht100, hm100⟩ := Zg hm100
   refine W_mid (M := fun f' w' => (fun (z100 : Bool) => ∃ (s104 : PHeap) , PHeap.le s103 s104 ∧ St w0 s104 (Res.box b100 66 [Value.int .i64 (e100.From), Value.int .i64 (e100.Label), Value.int .i64 (e100.To)] :: H) w' ∧ f' 0 = v100 ∧ f' 3 = Value.pointer (some ⟨b100, 0, none⟩) ∧ f' 5 = Value.int .i64 (at_101) ∧ f' 19 = Value.bool (z100)) z100) ?_ ?_
   ·refine W_dl (n0 := 12) (.q 0 (.q 1 (.q 2 (.q 3 (.q 4 (.q 5 (.q 6 (.q 7 (.q 8 (.e 9 [] (.q 10 (.q 11 .done)))))))))))) hmix (by kernel_rfl) (by kernel_rfl) ?_
    have hS102 := hS101.drew
    refine DL_q rfl rfl (Exec.move (v := Value.int .i64 (at_101)) rfl p102 ⟨rfl, ?_⟩)
    refine DL_q rfl rfl (Exec.gtr rfl rfl rfl ⟨rfl, ?_⟩)
    refine DL_q rfl rfl (Exec.move (v := Value.bool (decide (0 < at_101))) rfl rfl ⟨rfl, ?_⟩)
    rcases ite_some ht100 with ⟨hc100, ht100⟩ | ⟨hc100, ht100⟩
    ·refine DL_qg rfl rfl (Zf rfl (congrArg Value.bool hc100)) (Exec.move (v := v100) rfl p100 ⟨rfl, ?_⟩)
     refine DL_qg rfl rfl (Zf rfl (congrArg Value.bool hc100)) (Exec.move (v := Value.int .i64 (at_101)) rfl p102 ⟨rfl, ?_⟩)
     refine DL_qg rfl rfl (Zf rfl (congrArg Value.bool hc100)) (Exec.sub rfl rfl rfl ⟨rfl, ?_⟩)
     obtain ⟨x100, q100, ht100⟩ := Zg ht100
     refine DL_qg rfl rfl (Zf rfl (congrArg Value.bool hc100)) (Exec.index_repE S23 rfl rfl rfl (a100.mono l101) q100 ?_)
     intro b101 o100 a101 e101
     refine ⟨rfl, ?_⟩
     refine DL_qg rfl rfl (Zf rfl (congrArg Value.bool hc100)) (Exec.load_at (E := encEdge) hS102 A66 rfl rfl rfl a101 ?_)
     intro v102 q101
     obtain rfl := encEdge_val.1 q101
     refine ⟨rfl, ?_⟩
     refine DL_qg rfl rfl (Zf rfl (congrArg Value.bool hc100)) (Exec.load_box_agg (ds := [Value.int .i64 (e100.From), Value.int .i64 (e100.Label), Value.int .i64 (e100.To)]) (hS102) A66 rfl p101 rfl ⟨rfl, ?_⟩)
     refine DL_eg rfl rfl (Zf rfl (congrArg Value.bool hc100)) (Exec.call rfl rfl Try.func41 rfl N41 (Zi rfl (Zi rfl args_nil)) ((ref44_Before_sim (ref44_Before_tot x100 e100) hS102 ).mono ?_))
     rintro _ w102 ⟨_, rfl, ⟨s105, l102, hS103, rfl⟩⟩
     refine ⟨_, rfl, ?_⟩
     refine ⟨ag_nil, ?_⟩
     refine DL_qg rfl rfl (Zf rfl (congrArg Value.bool hc100)) (Exec.not rfl rfl ⟨rfl, ?_⟩)
     refine DL_q rfl rfl (Exec.pick_t (v := Value.bool (!(ref44_Before_t x100 e100))) rfl (congrArg Value.bool hc100) rfl ⟨rfl, ?_⟩)
     refine DL_done ?_
     refine Zb (Ze ?_)
     have e102 := Zu ht100
     subst z100
     exact ⟨s105, l102, hS103, p100, p101, p102, rfl⟩
    ·replace hc100 := Zk hc100
     refine DL_qp rfl rfl (Zf rfl (congrArg Value.bool hc100)) rfl ?_
     refine DL_qp rfl rfl (Zf rfl (congrArg Value.bool hc100)) rfl ?_
     refine DL_qp rfl rfl (Zf rfl (congrArg Value.bool hc100)) rfl ?_
     refine DL_qp rfl rfl (Zf rfl (congrArg Value.bool hc100)) rfl ?_
     refine DL_qp rfl rfl (Zf rfl (congrArg Value.bool hc100)) rfl ?_
     refine DL_qp rfl rfl (Zf rfl (congrArg Value.bool hc100)) rfl ?_
     refine DL_ep rfl rfl (Zf rfl (congrArg Value.bool hc100)) rfl ?_
     refine DL_qp rfl rfl (Zf rfl (congrArg Value.bool hc100)) rfl ?_
     refine DL_q rfl rfl (Exec.pick_f (v := Value.bool (false)) rfl (congrArg Value.bool hc100) rfl ⟨rfl, ?_⟩)
     refine DL_done ?_
     refine Zb (Ze ?_)
     have e103 := Zu ht100
     subst z100
     exact ⟨s103, (PHeap.le_refl _), hS102, p100, p101, p102, rfl⟩
   ·intro f101 w103 hM100
    obtain ⟨s106, l103, hS104, p103, p104, p105, p106⟩ := hM100
    refine (Ze ?_)
    rcases ite_some hm100 with ⟨hc101, hm100⟩ | ⟨hc101, hm100⟩
    ·refine W_cond_t p106 hc101 ?_
     refine W_skip (Ze ?_)
     refine W_block ?_
     refine Zc ?_
     refine Zc ?_
     refine W_dl (n0 := 7) (.q 0 (.q 1 (.q 2 (.q 3 (.q 4 (.q 5 (.q 6 .done))))))) hmix (by kernel_rfl) (by kernel_rfl) ?_
     have hS105 := hS104.drew
     refine DL_q rfl rfl (Exec.move (v := v100) rfl p103 ⟨rfl, ?_⟩)
     refine DL_q rfl rfl (Exec.move (v := Value.int .i64 (at_101)) rfl p105 ⟨rfl, ?_⟩)
     refine DL_q rfl rfl (Exec.sub rfl rfl rfl ⟨rfl, ?_⟩)
     obtain ⟨x101, q102, hm100⟩ := Zg hm100
     refine DL_q rfl rfl (Exec.index_repE S23 rfl rfl rfl (a100.mono (Zt l101 l103)) q102 ?_)
     intro b102 o101 a102 e104
     refine ⟨rfl, ?_⟩
     refine DL_q rfl rfl (Exec.load_at (E := encEdge) hS105 A66 rfl rfl rfl a102 ?_)
     intro v103 q103
     obtain rfl := encEdge_val.1 q103
     refine ⟨rfl, ?_⟩
     refine DL_q rfl rfl (Exec.load_box_agg (ds := [Value.int .i64 (e100.From), Value.int .i64 (e100.Label), Value.int .i64 (e100.To)]) (hS105) A66 rfl p104 rfl ⟨rfl, ?_⟩)
     refine DL_q rfl rfl (Exec.ints_eql (xs := [x101.From, x101.Label, x101.To]) (ys := [e100.From, e100.Label, e100.To]) IS66 rfl rfl rfl rfl rfl rfl rfl ⟨rfl, ?_⟩)
     refine DL_done ?_
     refine Zb (Ze ?_)
     rcases ite_some hm100 with ⟨hc102, hm100⟩ | ⟨hc102, hm100⟩
     ·refine W_cond_t rfl hc102 ?_
      refine Zc ?_
      refine Zd ?_
      refine Za rfl rfl (Exec.move (v := v100) rfl p103 ?_)
      refine Za rfl rfl (Exec.assign (v := v100) rfl rfl ?_)
      refine Zb (Ze ?_)
      refine W_ret (at_ret (ib_ret (at_ret (ib_ret (at_ret (at_ret ?_))))))
      have e105 := Zu hm100
      subst c101
      have hq100 := hr100 _ (hres100 (by intro _ h; cases h))
      have e106 := Zu hq100
      subst r
      refine ⟨_, ret1 rfl, ?_⟩
      have hS106 := (hS105).drop
      exact ⟨s106, v100, (Zt l101 l103), hS106, rfl, (a100.mono (Zt l101 l103))⟩
     ·refine W_cond_f rfl hc102 ?_
      replace hc102 := Zk hc102
      refine W_skip (Ze ?_)
      refine Zd ?_
      refine Za rfl rfl (Exec.move (v := Value.int .i64 (at_101)) rfl p105 ?_)
      refine Za rfl rfl (Exec.sub rfl rfl rfl ?_)
      refine Za rfl rfl (Exec.assign (v := Value.int .i64 (IntKind.i64.wrap (at_101 - 1))) rfl rfl ?_)
      refine Zb (ib_normal (Ze ?_))
      have e107 := Zu hm100
      subst c101
      refine ⟨_, rfl, ?_⟩; exact ⟨s106, (Zt l101 l103), hS105, p103, p104, rfl⟩
    ·refine W_cond_f p106 hc101 ?_
     replace hc101 := Zk hc101
     refine W_exit (at_exit (at_exit (ib_here (Ze ?_))))
     have e108 := Zu hm100
     subst c101
     refine ⟨_, .inr (hres100 (by intro _ h; cases h)), ?_⟩; exact ⟨s106, (Zt l101 l103), hS104, p103, p104, p105⟩
 ·rintro f102 w104 ⟨at_100, hc103, hM101⟩
  have hm := hc103.elim (hn100 _) (hb100 _)
  clear hc103
  obtain ⟨s107, l104, hS107, p107, p108, p109⟩ := hM101
  refine (Ze ?_)
  refine Zc ?_
  obtain ⟨c102, q104, hm⟩ := Zg hm
  obtain ⟨l105, q105, hm⟩ := Zg hm
  obtain ⟨l106, q106, hm⟩ := Zg hm
  obtain ⟨c103, q107, hm⟩ := Zg hm
  obtain ⟨l107, q108, hm⟩ := Zg hm
  refine W_drawnR (n0 := 12) (Hs := Res.box b100 66 [Value.int .i64 (e100.From), Value.int .i64 (e100.Label), Value.int .i64 (e100.To)] :: []) hmix (by kernel_rfl) [RR.lit encEdge 66 0 [], RR.of (RP.eq (v100)), RR.of (RP.eq (Value.int .i64 (at_100))), RR.of (RP.sl encEdge c102), RR.arr encEdge 66 l105, RR.of (RP.eq (Value.agg #[Value.int .i64 (e100.From), Value.int .i64 (e100.Label), Value.int .i64 (e100.To)])), RR.lit encEdge 66 1 [e100], RR.arr encEdge 66 l106, RR.of (RP.eq (v100)), RR.of (RP.eq (Value.int .i64 (at_100))), RR.of (RP.sl encEdge c103), RR.arr encEdge 66 l107] [[], [], [], [], [0], [], [], [4, 6], [], [], [], [7]] (by kernel_rfl) hS107 (HeadAll.cons ?_ (HeadAll.cons ?_ (HeadAll.cons ?_ (HeadAll.cons ?_ (HeadAll.cons ?_ (HeadAll.cons ?_ (HeadAll.cons ?_ (HeadAll.cons ?_ (HeadAll.cons ?_ (HeadAll.cons ?_ (HeadAll.cons ?_ (HeadAll.cons ?_ (HeadAll.nil))))))))))))) ?_
  ·intro g100 s108 w105 F100 L100 le100 hS108 fr100 pre100
   have hS109 : St w0 s108 (Res.box b100 66 [Value.int .i64 (e100.From), Value.int .i64 (e100.Label), Value.int .i64 (e100.To)] :: F100) w105 := hS108
   refine head_runR rfl (Exec.buildSlice (Te := 66) (cs := []) hS109 rfl parts_nil (fun _ => by kernel_rfl) ?_)
   intro b103 w106 hS110
   have hS111 := (hS110).f1
   have hS112 := (hS111).f1
   exact ⟨s108, [Res.box b103 66 []], (PHeap.le_refl _), hS112, ⟨_, _, rfl, rfl, rfl⟩⟩
  ·intro g101 s109 w107 F101 L101 le101 hS113 fr101 pre101
   have hS114 : St w0 s109 (Res.box b100 66 [Value.int .i64 (e100.From), Value.int .i64 (e100.Label), Value.int .i64 (e100.To)] :: F101) w107 := hS113
   refine head_runR rfl (Exec.move (v := v100) rfl (Eq.trans (fr101 0 rfl) p107) ?_)
   exact head_doneR hS114 ⟨rfl, rfl⟩
  ·intro g102 s110 w108 F102 L102 le102 hS115 fr102 pre102
   have hS116 : St w0 s110 (Res.box b100 66 [Value.int .i64 (e100.From), Value.int .i64 (e100.Label), Value.int .i64 (e100.To)] :: F102) w108 := hS115
   refine head_runR rfl (Exec.move (v := Value.int .i64 (at_100)) rfl (Eq.trans (fr102 5 rfl) p109) ?_)
   exact head_doneR hS116 ⟨rfl, rfl⟩
  ·intro g103 s111 w109 F103 L103 le103 hS117 fr103 pre103
   have hS118 : St w0 s111 (Res.box b100 66 [Value.int .i64 (e100.From), Value.int .i64 (e100.Label), Value.int .i64 (e100.To)] :: F103) w109 := hS117
   have p110 : g103 31 = (v100) := (pre103 0 _ rfl rfl (Or.inl rfl)).2
   have p111 : g103 32 = (Value.int .i64 (at_100)) := (pre103 1 _ rfl rfl (Or.inl rfl)).2
   refine head_runR rfl (Exec.slice_to S23 rfl p110 p111 (a100.mono (Zt l104 le103)) q104 ?_)
   intro v104 q109
   exact head_doneR hS118 ⟨rfl, q109⟩
  ·intro g104 s112 w110 F104 L104 le104 hS119 fr104 pre104
   obtain ⟨b104, cs100, ev100, e109, hr101⟩ := (show ∃ b cs, g104 30 = .slice (some ⟨b, 0, none⟩) 0 0 ∧ L104 0 = [.box b 66 cs] ∧ reps encEdge s112 cs [] from (pre104 0 _ rfl rfl (Or.inr (show 0 ∈ [0] by decide))))
   have hS120 : St w0 s112 (Res.box b104 66 cs100 :: Res.box b100 66 [Value.int .i64 (e100.From), Value.int .i64 (e100.Label), Value.int .i64 (e100.To)] :: F104) w110 := flat1 (show St _ _ ([0].flatMap L104 ++ (Res.box b100 66 [Value.int .i64 (e100.From), Value.int .i64 (e100.Label), Value.int .i64 (e100.To)] :: [] ++ F104)) _ from hS119) e109
   have p112 : SliceRep encEdge s112 (g104 33) c102 := (pre104 1 _ rfl rfl (Or.inl rfl)).2
   have hS121 := St.boxArr (E := encEdge) (xs := []) hS120 hr101 (by simp [maxLen])
   refine head_runR rfl (Exec.append_rep (E := encEdge) (ys := c102) hS121 S23 Z66 rfl (by decide) rfl ev100 rfl p112 q105 ?_)
   intro v105 w111 hS122
   have hS123 := (hS122).f1
   have hS124 := (hS123).f1
   exact ⟨s112, [Res.arr encEdge 66 v105 l105], (PHeap.le_refl _), hS124, rfl⟩
  ·intro g105 s113 w112 F105 L105 le105 hS125 fr105 pre105
   have hS126 : St w0 s113 (Res.box b100 66 [Value.int .i64 (e100.From), Value.int .i64 (e100.Label), Value.int .i64 (e100.To)] :: F105) w112 := hS125
   refine head_runR rfl (Exec.load_box_agg (ds := [Value.int .i64 (e100.From), Value.int .i64 (e100.Label), Value.int .i64 (e100.To)]) (hS126) A66 rfl (Eq.trans (fr105 3 rfl) p108) rfl ?_)
   exact head_doneR hS126 ⟨rfl, rfl⟩
  ·intro g106 s114 w113 F106 L106 le106 hS127 fr106 pre106
   have hS128 : St w0 s114 (Res.box b100 66 [Value.int .i64 (e100.From), Value.int .i64 (e100.Label), Value.int .i64 (e100.To)] :: F106) w113 := hS127
   have p113 : g106 35 = (Value.agg #[Value.int .i64 (e100.From), Value.int .i64 (e100.Label), Value.int .i64 (e100.To)]) := (pre106 0 _ rfl rfl (Or.inl rfl)).2
   refine head_runR rfl (Exec.buildSlice (Te := 66) (cs := [Value.int .i64 (e100.From), Value.int .i64 (e100.Label), Value.int .i64 (e100.To)]) hS128 rfl (parts_cons (c := [Value.int .i64 (e100.From), Value.int .i64 (e100.Label), Value.int .i64 (e100.To)]) (cells_of p113 rfl) parts_nil) (fun _ => by kernel_rfl) ?_)
   intro b105 w114 hS129
   have hS130 := (hS129).f1
   have hS131 := (hS130).f1
   exact ⟨s114, [Res.box b105 66 [Value.int .i64 (e100.From), Value.int .i64 (e100.Label), Value.int .i64 (e100.To)]], (PHeap.le_refl _), hS131, ⟨_, _, rfl, rfl, ⟨[Value.int .i64 (e100.From), Value.int .i64 (e100.Label), Value.int .i64 (e100.To)], [], rfl, ⟨[Value.int .i64 (e100.From)], [Value.int .i64 (e100.Label), Value.int .i64 (e100.To)], rfl, rfl, ⟨[Value.int .i64 (e100.Label)], [Value.int .i64 (e100.To)], rfl, rfl, rfl⟩⟩, rfl⟩⟩⟩
  ·intro g107 s115 w115 F107 L107 le107 hS132 fr107 pre107
   have e110 : L107 4 = [Res.arr encEdge 66 (g107 34) l105] := (pre107 0 _ rfl rfl (Or.inr (show 4 ∈ [4, 6] by decide)))
   obtain ⟨b106, cs101, ev101, e111, hr102⟩ := (show ∃ b cs, g107 36 = .slice (some ⟨b, 0, none⟩) 1 1 ∧ L107 6 = [.box b 66 cs] ∧ reps encEdge s115 cs [e100] from (pre107 1 _ rfl rfl (Or.inr (show 6 ∈ [4, 6] by decide))))
   have hS133 : St w0 s115 (Res.arr encEdge 66 (g107 34) l105 :: Res.box b106 66 cs101 :: Res.box b100 66 [Value.int .i64 (e100.From), Value.int .i64 (e100.Label), Value.int .i64 (e100.To)] :: F107) w115 := flat2 (show St _ _ ([4, 6].flatMap L107 ++ (Res.box b100 66 [Value.int .i64 (e100.From), Value.int .i64 (e100.Label), Value.int .i64 (e100.To)] :: [] ++ F107)) _ from hS132) e110 e111
   have hS134 := (hS133).f1
   have hS135 := (hS134).f1
   refine head_runR rfl (Exec.append_box (E := encEdge) (ys := [e100]) hS135 S23 Z66 rfl (by decide) rfl rfl ev101 rfl hr102 rfl q106 ?_)
   intro v106 w116 hS136
   have hS137 := (hS136).f1
   have hS138 := (hS137).f1
   exact ⟨s115, [Res.arr encEdge 66 v106 l106], (PHeap.le_refl _), hS138, rfl⟩
  ·intro g108 s116 w117 F108 L108 le108 hS139 fr108 pre108
   have hS140 : St w0 s116 (Res.box b100 66 [Value.int .i64 (e100.From), Value.int .i64 (e100.Label), Value.int .i64 (e100.To)] :: F108) w117 := hS139
   refine head_runR rfl (Exec.move (v := v100) rfl (Eq.trans (fr108 0 rfl) p107) ?_)
   exact head_doneR hS140 ⟨rfl, rfl⟩
  ·intro g109 s117 w118 F109 L109 le109 hS141 fr109 pre109
   have hS142 : St w0 s117 (Res.box b100 66 [Value.int .i64 (e100.From), Value.int .i64 (e100.Label), Value.int .i64 (e100.To)] :: F109) w118 := hS141
   refine head_runR rfl (Exec.move (v := Value.int .i64 (at_100)) rfl (Eq.trans (fr109 5 rfl) p109) ?_)
   exact head_doneR hS142 ⟨rfl, rfl⟩
  ·intro g110 s118 w119 F110 L110 le110 hS143 fr110 pre110
   have hS144 : St w0 s118 (Res.box b100 66 [Value.int .i64 (e100.From), Value.int .i64 (e100.Label), Value.int .i64 (e100.To)] :: F110) w119 := hS143
   have p114 : g110 38 = (v100) := (pre110 0 _ rfl rfl (Or.inl rfl)).2
   have p115 : g110 39 = (Value.int .i64 (at_100)) := (pre110 1 _ rfl rfl (Or.inl rfl)).2
   refine head_runR rfl (Exec.slice_from S23 rfl p114 p115 (a100.mono (Zt l104 le110)) q107 ?_)
   intro v107 q110
   exact head_doneR hS144 ⟨rfl, q110⟩
  ·intro g111 s119 w120 F111 L111 le111 hS145 fr111 pre111
   have e112 : L111 7 = [Res.arr encEdge 66 (g111 37) l106] := (pre111 0 _ rfl rfl (Or.inr (show 7 ∈ [7] by decide)))
   have hS146 : St w0 s119 (Res.arr encEdge 66 (g111 37) l106 :: Res.box b100 66 [Value.int .i64 (e100.From), Value.int .i64 (e100.Label), Value.int .i64 (e100.To)] :: F111) w120 := flat1 (show St _ _ ([7].flatMap L111 ++ (Res.box b100 66 [Value.int .i64 (e100.From), Value.int .i64 (e100.Label), Value.int .i64 (e100.To)] :: [] ++ F111)) _ from hS145) e112
   have p116 : SliceRep encEdge s119 (g111 40) c103 := (pre111 1 _ rfl rfl (Or.inl rfl)).2
   refine head_runR rfl (Exec.append_rep (E := encEdge) (ys := c103) hS146 S23 Z66 rfl (by decide) rfl rfl rfl p116 q108 ?_)
   intro v108 w121 hS147
   have hS148 := (hS147).f1
   have hS149 := (hS148).f1
   exact ⟨s119, [Res.arr encEdge 66 v108 l107], (PHeap.le_refl _), hS149, rfl⟩
  ·intro g112 s120 w122 L112 le112 hS150 fr112 hR100
   have e113 : L112 11 = [Res.arr encEdge 66 (g112 41) l107] := (hR100 11 rfl (Or.inr (show 11 ∈ [11] by decide)))
   have hS151 : St w0 s120 (Res.arr encEdge 66 (g112 41) l107 :: Res.box b100 66 [Value.int .i64 (e100.From), Value.int .i64 (e100.Label), Value.int .i64 (e100.To)] :: H) w122 := flat1 (show St _ _ ([11].flatMap L112 ++ (Res.box b100 66 [Value.int .i64 (e100.From), Value.int .i64 (e100.Label), Value.int .i64 (e100.To)] :: [] ++ H)) _ from hS150) e113
   have p117 : g112 31 = (v100) := (hR100 1 rfl (Or.inl rfl)).2
   have p118 : g112 32 = (Value.int .i64 (at_100)) := (hR100 2 rfl (Or.inl rfl)).2
   have p119 : SliceRep encEdge s120 (g112 33) c102 := (hR100 3 rfl (Or.inl rfl)).2
   have p120 : g112 35 = (Value.agg #[Value.int .i64 (e100.From), Value.int .i64 (e100.Label), Value.int .i64 (e100.To)]) := (hR100 5 rfl (Or.inl rfl)).2
   have p121 : g112 38 = (v100) := (hR100 8 rfl (Or.inl rfl)).2
   have p122 : g112 39 = (Value.int .i64 (at_100)) := (hR100 9 rfl (Or.inl rfl)).2
   have p123 : SliceRep encEdge s120 (g112 40) c103 := (hR100 10 rfl (Or.inl rfl)).2
   refine Za rfl rfl (Exec.assign (v := (g112 41)) rfl rfl ?_)
   refine Zb (Ze ?_)
   refine W_ret ?_
   have e114 := Zu hm
   subst r
   refine ⟨_, ret1 rfl, ?_⟩
   obtain ⟨s121, l108, hS152, r100⟩ := hS151.freezeArr
   have hS153 := (hS152).drop
   exact ⟨s121, (g112 41), (Zt (Zt l104 le112) l108), hS153, rfl, r100⟩

theorem N31 : (Try.f31.name == "runtime.NumGoroutine") = false := by kernel_rfl

theorem ref44_Atomic_sim {w0 w : World} {s : PHeap} {H : List Res} {t100 : Task} {v100 : Int} {v101 : Value} {v102 : Value} {v103 : Value} {v104 : Value} {r : System} (hm : ref44_Atomic_p t100 v100 = some r) (hS : St w0 s (H) w) (a100 : SliceRep (encInt .i64) s v101 t100.Vars) (a101 : SliceRep (encInt .i64) s v102 t100.Init) (a102 : SliceRep encFact s v103 t100.Goal) (a103 : SliceRep encOp s v104 t100.Ops) :
  Calls Try.prog 31 #[Value.agg #[v101, v102, v103, v104], Value.int .i64 (v100)] w fun e w' => ∃ v, e = .returned v ∧ ((fun (y100 : System) => ∃ (s100 : PHeap) (v105 : Value) (v106 : Value) (v107 : Value), PHeap.le s s100 ∧ St w0 s100 (H) w' ∧ v = Value.agg #[Value.int .i64 (y100.States), Value.int .i64 (y100.Init), v105, v106, v107] ∧ SliceRep (encInt .i64) s100 v105 y100.Costs ∧ SliceRep encEdge s100 v106 y100.Edges ∧ SliceRep encBool s100 v107 y100.Goals) r) := by
 unfold ref44_Atomic_p at hm
 refine calls_of_W Try.func31 rfl rfl ?_
 refine Zc ?_
 refine Zd ?_
 refine Za rfl rfl (Exec.box (cs := [v101, v102, v103, v104]) hS rfl rfl rfl ?_)
 intro b100 w100 hS100
 refine Za rfl rfl (Exec.alloc (cs := [Value.int .i64 (0), Value.int .i64 (0), Value.slice none 0 0, Value.slice none 0 0, Value.slice none 0 0]) hS100 Z26 rfl rfl ?_)
 intro b101 w101 hS101
 refine Zb (Ze ?_)
 refine Zc ?_
 refine W_dl (n0 := 12) (.q 0 (.q 1 (.q 2 (.q 3 (.q 4 (.q 5 (.q 6 (.q 7 (.q 8 (.q 9 (.q 10 (.e 11 [0, 1, 2, 3, 4, 5, 6, 7, 8, 9, 10] .done)))))))))))) hmix (by kernel_rfl) (by kernel_rfl) ?_
 have hS102 := hS101.drew
 refine DL_q rfl rfl (Exec.field F55_0 rfl rfl rfl ⟨rfl, ?_⟩)
 refine DL_q rfl rfl (Exec.load_box ((hS102).f1) A22 rfl rfl rfl ⟨rfl, ?_⟩)
 refine DL_q rfl rfl (Exec.move (v := Value.int .i64 (v100)) rfl rfl ⟨rfl, ?_⟩)
 obtain ⟨x100, q100, hm⟩ := Zg hm
 refine DL_q rfl rfl (Exec.index_repE S22 rfl rfl rfl a100 q100 ?_)
 intro b102 o100 a104 e100
 refine ⟨rfl, ?_⟩
 refine DL_q rfl rfl (Exec.load_at (E := (encInt .i64)) hS102 A3 rfl rfl rfl a104 ?_)
 intro v108 q101
 obtain rfl := encInt_val.1 q101
 refine ⟨rfl, ?_⟩
 refine DL_q rfl rfl (Exec.field F55_1 rfl rfl rfl ⟨rfl, ?_⟩)
 refine DL_q rfl rfl (Exec.load_box ((hS102).f1) A22 rfl rfl rfl ⟨rfl, ?_⟩)
 refine DL_q rfl rfl (Exec.move (v := Value.int .i64 (v100)) rfl rfl ⟨rfl, ?_⟩)
 obtain ⟨x101, q102, hm⟩ := Zg hm
 refine DL_q rfl rfl (Exec.index_repE S22 rfl rfl rfl a101 q102 ?_)
 intro b103 o101 a105 e101
 refine ⟨rfl, ?_⟩
 refine DL_q rfl rfl (Exec.load_at (E := (encInt .i64)) hS102 A3 rfl rfl rfl a105 ?_)
 intro v109 q103
 obtain rfl := encInt_val.1 q103
 refine ⟨rfl, ?_⟩
 refine DL_q rfl rfl (Exec.build rfl (parts_cons (c := [Value.int .i64 (x100)]) (cells_of rfl rfl) (parts_cons (c := [Value.int .i64 (x101)]) (cells_of rfl rfl) parts_nil)) (v := Value.agg #[Value.int .i64 (x100), Value.int .i64 (x101), Value.slice none 0 0, Value.slice none 0 0, Value.slice none 0 0]) (fun _ => by kernel_rfl) ⟨rfl, ?_⟩)
 refine DL_e rfl rfl (Exec.alloc (cs := [Value.int .i64 (0), Value.int .i64 (0), Value.slice none 0 0, Value.slice none 0 0, Value.slice none 0 0]) hS102 Z26 rfl rfl ?_)
 intro b104 w102 hS103
 refine ⟨(ag_cons (ag_r rfl rfl (Exec.field F55_0 rfl rfl rfl ⟨rfl, rfl⟩)) (ag_cons (ag_r rfl rfl (Exec.load_box ((hS103).f2) A22 rfl rfl rfl ⟨rfl, rfl⟩)) (ag_cons (ag_r rfl rfl (Exec.move (v := Value.int .i64 (v100)) rfl rfl ⟨rfl, rfl⟩)) (ag_cons (ag_r rfl rfl (Exec.index_run rfl rfl rfl e100 ⟨rfl, rfl⟩)) (ag_cons (ag_r rfl rfl (Exec.load_at (E := (encInt .i64)) hS103 A3 rfl rfl rfl a104 (fun _ q => ⟨rfl, encInt_val.1 q⟩))) (ag_cons (ag_r rfl rfl (Exec.field F55_1 rfl rfl rfl ⟨rfl, rfl⟩)) (ag_cons (ag_r rfl rfl (Exec.load_box ((hS103).f2) A22 rfl rfl rfl ⟨rfl, rfl⟩)) (ag_cons (ag_r rfl rfl (Exec.move (v := Value.int .i64 (v100)) rfl rfl ⟨rfl, rfl⟩)) (ag_cons (ag_r rfl rfl (Exec.index_run rfl rfl rfl e101 ⟨rfl, rfl⟩)) (ag_cons (ag_r rfl rfl (Exec.load_at (E := (encInt .i64)) hS103 A3 rfl rfl rfl a105 (fun _ q => ⟨rfl, encInt_val.1 q⟩))) (ag_cons (ag_r rfl rfl (Exec.build rfl (parts_cons (c := [Value.int .i64 (x100)]) (cells_of rfl rfl) (parts_cons (c := [Value.int .i64 (x101)]) (cells_of rfl rfl) parts_nil)) (v := Value.agg #[Value.int .i64 (x100), Value.int .i64 (x101), Value.slice none 0 0, Value.slice none 0 0, Value.slice none 0 0]) (fun _ => by kernel_rfl) ⟨rfl, rfl⟩)) ag_nil))))))))))), ?_⟩
 refine DL_done ?_
 refine Za rfl rfl (Exec.store_box (ds := [Value.int .i64 (x100), Value.int .i64 (x101), Value.slice none 0 0, Value.slice none 0 0, Value.slice none 0 0]) (es := [Value.int .i64 (x100), Value.int .i64 (x101), Value.slice none 0 0, Value.slice none 0 0, Value.slice none 0 0]) hS103 A26 rfl rfl rfl rfl (Zj rfl (Zj rfl (Zj rfl (Zj rfl (Zj rfl one_nil))))) (Nat.le_of_ble_eq_true rfl) rfl ?_)
 intro w103 hS104
 refine Zb (Ze ?_)
 refine Zc ?_
 refine Zc ?_
 refine Zd ?_
 refine Za rfl rfl (Exec.field F55_3 rfl rfl rfl ?_)
 refine Za rfl rfl (Exec.load_box ((hS104).f2) A53 rfl rfl rfl ?_)
 refine Za rfl rfl (Exec.len_rep S53 rfl rfl a103 ?_)
 refine Za rfl rfl (Exec.move (v := Value.int .i64 (0)) rfl rfl ?_)
 refine Zb (Ze ?_)
 obtain ⟨z100, hB100, hm⟩ := Zg hm
 refine W_block (W_forS (fun k' s' f' w' => (fun (z100 : (List Int)) => ∃ (s101 : PHeap) (v110 : Value), PHeap.le s s101 ∧ St w0 s101 (Res.box b100 55 [v101, v102, v103, v104] :: Res.box b101 26 [Value.int .i64 (0), Value.int .i64 (0), Value.slice none 0 0, Value.slice none 0 0, Value.slice none 0 0] :: Res.box b104 26 [Value.int .i64 (x100), Value.int .i64 (x101), v110, Value.slice none 0 0, Value.slice none 0 0] :: Res.arr (encInt .i64) 3 v110 z100 :: H) w' ∧ f' 1 = Value.int .i64 (v100) ∧ f' 2 = Value.pointer (some ⟨b100, 0, none⟩) ∧ f' 4 = Value.pointer (some ⟨b101, 0, none⟩) ∧ f' 5 = Value.pointer (some ⟨b104, 0, none⟩) ∧ f' 29 = v104 ∧ f' 30 = Value.int .i64 ((t100.Ops.length : Int)) ∧ f' 31 = Value.int .i64 (k' : Int)) s') hB100 ?_ ?_ ?_)
 ·have hS105 := hS104.nilArr (encInt .i64) 3
  have hS106 := (hS105).f1
  have hS107 := (hS106).f2
  have hS108 := (hS107).f3
  exact ⟨s, (Value.slice none 0 0), (PHeap.le_refl _), hS108, rfl, rfl, rfl, rfl, rfl, rfl, rfl⟩
 ·intro i100 z100 s102 f100 w104 hi100 hI100 hm100
  obtain ⟨s103, v110, l100, hS109, p100, p101, p102, p103, p104, p105, x102⟩ := hI100
  refine Zc ?_
  refine Zd ?_
  refine Za rfl rfl (Exec.lss rfl x102 p105 ?_)
  refine Zb (Ze ?_)
  refine Zc ?_
  refine W_true (congrArg Value.bool (decide_eq_true (by omega))) ?_
  refine W_skip (Ze ?_)
  refine Zc ?_
  refine W_block ?_
  refine Zc ?_
  refine Zd ?_
  obtain ⟨x103, q104, hm100⟩ := Zg hm100
  refine Za rfl rfl (Exec.index_rep S53 rfl p104 x102 (a103.mono l100) q104 ?_)
  intro b105 o102 a106
  refine Za rfl rfl (Exec.load_at (E := encOp) hS109 A79 rfl rfl rfl a106 ?_)
  intro v111 q105
  obtain ⟨u100, u101, rfl, r100, r101⟩ := encOp_val.1 q105
  refine Za rfl rfl (Exec.alloc (cs := [Value.string (⟨#[]⟩), Value.int .i64 (0), Value.slice none 0 0, Value.slice none 0 0]) hS109 Z79 rfl rfl ?_)
  intro b106 w105 hS110
  refine Za rfl rfl (Exec.store_box (ds := [Value.string (x103.Name), Value.int .i64 (x103.Cost), u100, u101]) (es := [Value.string (x103.Name), Value.int .i64 (x103.Cost), u100, u101]) hS110 A79 rfl rfl rfl rfl (Zj rfl (Zj rfl (Zj (r100).one (Zj (r101).one one_nil)))) (Nat.le_of_ble_eq_true rfl) rfl ?_)
  intro w106 hS111
  refine Zb (Ze ?_)
  refine Zd ?_
  refine Za rfl rfl (Exec.field F26_2 rfl p103 rfl ?_)
  refine Za rfl rfl (Exec.load_box ((hS111).f3) A22 rfl rfl rfl ?_)
  refine Za rfl rfl (Exec.field F79_1 rfl rfl rfl ?_)
  refine Za rfl rfl (Exec.load_box (hS111) A3 rfl rfl rfl ?_)
  refine Za rfl rfl (Exec.buildSlice (Te := 3) (cs := [Value.int .i64 (x103.Cost)]) hS111 rfl (parts_cons (c := [Value.int .i64 (x103.Cost)]) (cells_of rfl rfl) parts_nil) (fun _ => by kernel_rfl) ?_)
  intro b107 w107 hS112
  obtain ⟨l101, q106, hm100⟩ := Zg hm100
  have hS113 := (hS112).f5
  refine Za rfl rfl (Exec.append_box (E := (encInt .i64)) (ys := [x103.Cost]) hS113 S22 Z3 rfl (by decide) rfl rfl rfl rfl ⟨[Value.int .i64 (x103.Cost)], [], rfl, rfl, rfl⟩ rfl q106 ?_)
  intro v112 w108 hS114
  refine Za rfl rfl (Exec.field F26_2 rfl p103 rfl ?_)
  have hS115 := (hS114).f4
  refine Za rfl rfl (Exec.store_box (ds := [v112]) (es := [Value.int .i64 (x100), Value.int .i64 (x101), v112, Value.slice none 0 0, Value.slice none 0 0]) hS115 A22 rfl rfl rfl (cells_one ((hS115).f1).arr_one) (Zj ((hS115).f1).arr_one one_nil) (Nat.le_of_ble_eq_true rfl) rfl ?_)
  intro w109 hS116
  refine Zb (ib_normal (Ze ?_))
  refine Zd ?_
  refine Za rfl rfl (Exec.add rfl x102 rfl ?_)
  refine Za rfl rfl (Exec.move (v := Value.int .i64 (IntKind.i64.wrap ((i100 : Int) + 1))) rfl rfl ?_)
  refine Zb (Ze ?_)
  have e102 := Zu hm100
  subst s102
  have hS117 := ((hS116).f2).drop
  have hS118 := (hS117).f1
  have hS119 := (hS118).f1
  have hS120 := (hS119).f3
  have hS121 := (hS120).f3
  exact ⟨s103, v112, l100, hS121, p100, p101, p102, p103, p104, p105, (Eq.trans rfl (wrap_up hi100 (SliceRep.le a103)))⟩
 ·intro f101 w110 hI101
  obtain ⟨s104, v110, l102, hS122, p106, p107, p108, p109, p110, p111, x104⟩ := hI101
  refine Zc ?_
  refine Zd ?_
  refine Za rfl rfl (Exec.lss rfl x104 p111 ?_)
  refine Zb (Ze ?_)
  refine Zc ?_
  refine W_false (congrArg Value.bool (decide_eq_false (by omega))) ?_
  refine W_exit (at_exit (at_exit (ib_here (Ze ?_))))
  refine Zc ?_
  refine Zc ?_
  refine Zd ?_
  refine Za rfl rfl (Exec.field F55_0 rfl p107 rfl ?_)
  refine Za rfl rfl (Exec.load_box (hS122) A22 rfl rfl rfl ?_)
  refine Za rfl rfl (Exec.move (v := Value.int .i64 (v100)) rfl p106 ?_)
  refine Za rfl rfl (Exec.index_rep S22 rfl rfl rfl (a100.mono l102) q100 ?_)
  intro b108 o103 a107
  refine Za rfl rfl (Exec.load_at (E := (encInt .i64)) hS122 A3 rfl rfl rfl a107 ?_)
  intro v113 q107
  obtain rfl := encInt_val.1 q107
  refine Za rfl rfl (Exec.move (v := Value.int .i64 (0)) rfl rfl ?_)
  refine Zb (Ze ?_)
  obtain ⟨u102, q108, hm⟩ := Zg hm
  obtain ⟨z101, hB101, hm⟩ := Zg hm
  refine W_block (W_forS (fun k' s' f' w' => (fun (z101 : (List Bool)) => ∃ (s105 : PHeap) (v114 : Value), PHeap.le s104 s105 ∧ St w0 s105 (Res.box b100 55 [v101, v102, v103, v104] :: Res.box b101 26 [Value.int .i64 (0), Value.int .i64 (0), Value.slice none 0 0, Value.slice none 0 0, Value.slice none 0 0] :: Res.box b104 26 [Value.int .i64 (x100), Value.int .i64 (x101), v110, Value.slice none 0 0, v114] :: Res.arr (encInt .i64) 3 v110 z100 :: Res.arr encBool 4 v114 z101 :: H) w' ∧ f' 1 = Value.int .i64 (v100) ∧ f' 2 = Value.pointer (some ⟨b100, 0, none⟩) ∧ f' 4 = Value.pointer (some ⟨b101, 0, none⟩) ∧ f' 5 = Value.pointer (some ⟨b104, 0, none⟩) ∧ f' 47 = Value.int .i64 (x100) ∧ f' 48 = Value.int .i64 (k' : Int)) s') hB101 ?_ ?_ ?_)
  ·have hS123 := hS122.nilArr encBool 4
   have hS124 := (hS123).f4
   have hS125 := (hS124).f4
   have hS126 := (hS125).f4
   have hS127 := (hS126).f4
   exact ⟨s104, (Value.slice none 0 0), (PHeap.le_refl _), hS127, p106, p107, p108, p109, rfl, rfl⟩
  ·intro i101 z101 s106 f102 w111 hi101 hI102 hm101
   obtain ⟨s107, v114, l103, hS128, p112, p113, p114, p115, p116, x105⟩ := hI102
   refine Zc ?_
   refine Zd ?_
   refine Za rfl rfl (Exec.lss rfl x105 p116 ?_)
   refine Zb (Ze ?_)
   refine Zc ?_
   refine W_true (congrArg Value.bool (decide_eq_true (by omega))) ?_
   refine W_skip (Ze ?_)
   refine Zc ?_
   refine W_block ?_
   refine Zc ?_
   refine Zd ?_
   refine Za rfl rfl (Exec.move (v := Value.int .i64 ((i101 : Int))) rfl x105 ?_)
   refine Za rfl rfl (Exec.assign (v := Value.int .i64 ((i101 : Int))) rfl rfl ?_)
   refine Zb (Ze ?_)
   refine Zc ?_
   refine Zd ?_
   refine Za rfl rfl (Exec.assign (v := Value.bool (true)) rfl rfl ?_)
   refine Zb (Ze ?_)
   refine Zc ?_
   refine Zc ?_
   refine Zd ?_
   refine Za rfl rfl (Exec.field F55_2 rfl p113 rfl ?_)
   refine Za rfl rfl (Exec.load_box (hS128) A52 rfl rfl rfl ?_)
   refine Za rfl rfl (Exec.len_rep S52 rfl rfl (a102.mono (Zt l102 l103)) ?_)
   refine Za rfl rfl (Exec.move (v := Value.int .i64 (0)) rfl rfl ?_)
   refine Zb (Ze ?_)
   obtain ⟨goal100, hB102, hm101⟩ := Zg hm101
   refine W_block (W_forS (fun k' s' f' w' => (fun (goal100 : Bool) => ∃ (s108 : PHeap) , PHeap.le s107 s108 ∧ St w0 s108 (Res.box b100 55 [v101, v102, v103, v104] :: Res.box b101 26 [Value.int .i64 (0), Value.int .i64 (0), Value.slice none 0 0, Value.slice none 0 0, Value.slice none 0 0] :: Res.box b104 26 [Value.int .i64 (x100), Value.int .i64 (x101), v110, Value.slice none 0 0, v114] :: Res.arr (encInt .i64) 3 v110 z100 :: Res.arr encBool 4 v114 z101 :: H) w' ∧ f' 1 = Value.int .i64 (v100) ∧ f' 2 = Value.pointer (some ⟨b100, 0, none⟩) ∧ f' 4 = Value.pointer (some ⟨b101, 0, none⟩) ∧ f' 5 = Value.pointer (some ⟨b104, 0, none⟩) ∧ f' 8 = Value.int .i64 ((i101 : Int)) ∧ f' 9 = Value.bool (goal100) ∧ f' 47 = Value.int .i64 (x100) ∧ f' 48 = Value.int .i64 ((i101 : Int)) ∧ f' 52 = v103 ∧ f' 53 = Value.int .i64 ((t100.Goal.length : Int)) ∧ f' 54 = Value.int .i64 (k' : Int)) s') hB102 ?_ ?_ ?_)
   ·have hS129 := (hS128).f4
    have hS130 := (hS129).f4
    have hS131 := (hS130).f4
    have hS132 := (hS131).f4
    have hS133 := (hS132).f4
    exact ⟨s107, (PHeap.le_refl _), hS133, p112, p113, p114, p115, rfl, rfl, p116, x105, rfl, rfl, rfl⟩
   ·intro i102 goal100 s109 f103 w112 hi102 hI103 hm102
    obtain ⟨s110, l104, hS134, p117, p118, p119, p120, p121, p122, p123, p124, p125, p126, x106⟩ := hI103
    refine Zc ?_
    refine Zd ?_
    refine Za rfl rfl (Exec.lss rfl x106 p126 ?_)
    refine Zb (Ze ?_)
    refine Zc ?_
    refine W_true (congrArg Value.bool (decide_eq_true (by omega))) ?_
    refine W_skip (Ze ?_)
    refine Zc ?_
    refine W_block ?_
    refine Zc ?_
    refine Zd ?_
    obtain ⟨x107, q109, hm102⟩ := Zg hm102
    refine Za rfl rfl (Exec.index_rep S52 rfl p125 x106 (a102.mono (Zt (Zt l102 l103) l104)) q109 ?_)
    intro b109 o104 a108
    refine Za rfl rfl (Exec.load_at (E := encFact) hS134 A82 rfl rfl rfl a108 ?_)
    intro v115 q110
    obtain rfl := encFact_val.1 q110
    refine Za rfl rfl (Exec.alloc (cs := [Value.int .i64 (0), Value.int .i64 (0)]) hS134 Z82 rfl rfl ?_)
    intro b110 w113 hS135
    refine Za rfl rfl (Exec.store_box (ds := [Value.int .i64 (x107.Var), Value.int .i64 (x107.Val)]) (es := [Value.int .i64 (x107.Var), Value.int .i64 (x107.Val)]) hS135 A82 rfl rfl rfl rfl (Zj rfl (Zj rfl one_nil)) (Nat.le_of_ble_eq_true rfl) rfl ?_)
    intro w114 hS136
    refine Zb (Ze ?_)
    refine W_mid (M := fun f' w' => ∃ (s111 : PHeap) , PHeap.le s110 s111 ∧ St w0 s111 (Res.box b100 55 [v101, v102, v103, v104] :: Res.box b101 26 [Value.int .i64 (0), Value.int .i64 (0), Value.slice none 0 0, Value.slice none 0 0, Value.slice none 0 0] :: Res.box b104 26 [Value.int .i64 (x100), Value.int .i64 (x101), v110, Value.slice none 0 0, v114] :: Res.arr (encInt .i64) 3 v110 z100 :: Res.arr encBool 4 v114 z101 :: H) w' ∧ f' 1 = Value.int .i64 (v100) ∧ f' 2 = Value.pointer (some ⟨b100, 0, none⟩) ∧ f' 4 = Value.pointer (some ⟨b101, 0, none⟩) ∧ f' 5 = Value.pointer (some ⟨b104, 0, none⟩) ∧ f' 8 = Value.int .i64 ((i101 : Int)) ∧ f' 9 = Value.bool ((goal100 && ((!decide (x107.Var = v100)) || decide (x107.Val = (i101 : Int))))) ∧ f' 47 = Value.int .i64 (x100) ∧ f' 48 = Value.int .i64 ((i101 : Int)) ∧ f' 52 = v103 ∧ f' 53 = Value.int .i64 ((t100.Goal.length : Int)) ∧ f' 54 = Value.int .i64 ((i102 : Int))) ?_ ?_
    ·refine Zd ?_
     refine Za rfl rfl (Exec.move (v := Value.bool (goal100)) rfl p122 ?_)
     refine Za rfl rfl (Exec.move (v := Value.bool (goal100)) rfl rfl ?_)
     by_cases hc100 : goal100 = true
     ·refine WL_run rfl (Zf rfl (congrArg Value.bool hc100)) rfl (Exec.field F82_0 rfl rfl rfl ?_)
      refine WL_run rfl (Zf rfl (congrArg Value.bool hc100)) rfl (Exec.load_box (hS136) A3 rfl rfl rfl ?_)
      refine WL_run rfl (Zf rfl (congrArg Value.bool hc100)) rfl (Exec.move (v := Value.int .i64 (v100)) rfl p117 ?_)
      refine WL_run rfl (Zf rfl (congrArg Value.bool hc100)) rfl (Exec.neq rfl rfl rfl ?_)
      refine WL_run rfl (Zf rfl (congrArg Value.bool hc100)) rfl (Exec.move (v := Value.bool (!decide (x107.Var = v100))) rfl rfl ?_)
      by_cases hc101 : (!decide (x107.Var = v100)) = true
      ·refine Zl rfl (Zf rfl (congrArg Value.bool hc101)) rfl rfl ?_
       refine Zl rfl (Zf rfl (congrArg Value.bool hc101)) rfl rfl ?_
       refine Zl rfl (Zf rfl (congrArg Value.bool hc101)) rfl rfl ?_
       refine Zl rfl (Zf rfl (congrArg Value.bool hc101)) rfl rfl ?_
       refine WL_run rfl (Zf rfl (congrArg Value.bool hc100)) rfl (Exec.pick_t (v := Value.bool (true)) rfl (congrArg Value.bool hc101) rfl ?_)
       refine Za rfl rfl (Exec.pick_t (v := Value.bool (true)) rfl (congrArg Value.bool hc100) rfl ?_)
       refine Za rfl rfl (Exec.assign (v := Value.bool (true)) rfl rfl ?_)
       refine Zb (Ze ?_)
       have hS137 := (hS136).drop
       have hS138 := (hS137).f4
       have hS139 := (hS138).f4
       have hS140 := (hS139).f4
       have hS141 := (hS140).f4
       have hS142 := (hS141).f4
       exact ⟨s110, (PHeap.le_refl _), hS142, p117, p118, p119, p120, p121, (congrArg Value.bool (Eq.trans (and_t hc100) (or_t hc101))).symm, p123, p124, p125, p126, x106⟩
      ·replace hc101 := Zk hc101
       refine WL_run rfl (Zf rfl (congrArg Value.bool hc101)) rfl (Exec.field F82_1 rfl rfl rfl ?_)
       refine WL_run rfl (Zf rfl (congrArg Value.bool hc101)) rfl (Exec.load_box (hS136) A3 rfl rfl rfl ?_)
       refine WL_run rfl (Zf rfl (congrArg Value.bool hc101)) rfl (Exec.move (v := Value.int .i64 ((i101 : Int))) rfl p121 ?_)
       refine WL_run rfl (Zf rfl (congrArg Value.bool hc101)) rfl (Exec.eql rfl rfl rfl ?_)
       refine WL_run rfl (Zf rfl (congrArg Value.bool hc100)) rfl (Exec.pick_f (v := Value.bool (decide (x107.Val = (i101 : Int)))) rfl (congrArg Value.bool hc101) rfl ?_)
       refine Za rfl rfl (Exec.pick_t (v := Value.bool (decide (x107.Val = (i101 : Int)))) rfl (congrArg Value.bool hc100) rfl ?_)
       refine Za rfl rfl (Exec.assign (v := Value.bool (decide (x107.Val = (i101 : Int)))) rfl rfl ?_)
       refine Zb (Ze ?_)
       have hS143 := (hS136).drop
       have hS144 := (hS143).f4
       have hS145 := (hS144).f4
       have hS146 := (hS145).f4
       have hS147 := (hS146).f4
       have hS148 := (hS147).f4
       exact ⟨s110, (PHeap.le_refl _), hS148, p117, p118, p119, p120, p121, (congrArg Value.bool (Eq.trans (and_t hc100) (or_f hc101))).symm, p123, p124, p125, p126, x106⟩
     ·replace hc100 := Zk hc100
      refine Zl rfl (Zf rfl (congrArg Value.bool hc100)) rfl rfl ?_
      refine Zl rfl (Zf rfl (congrArg Value.bool hc100)) rfl rfl ?_
      refine Zl rfl (Zf rfl (congrArg Value.bool hc100)) rfl rfl ?_
      refine Zl rfl (Zf rfl (congrArg Value.bool hc100)) rfl rfl ?_
      refine Zl rfl (Zf rfl (congrArg Value.bool hc100)) rfl rfl ?_
      refine WL_pass_none rfl (Zh rfl rfl) rfl ?_
      refine WL_pass_none rfl (Zh rfl rfl) rfl ?_
      refine WL_pass_none rfl (Zh rfl rfl) rfl ?_
      refine WL_pass_none rfl (Zh rfl rfl) rfl ?_
      refine Zl rfl (Zf rfl (congrArg Value.bool hc100)) rfl rfl ?_
      refine Za rfl rfl (Exec.pick_f (v := Value.bool (false)) rfl (congrArg Value.bool hc100) rfl ?_)
      refine Za rfl rfl (Exec.assign (v := Value.bool (false)) rfl rfl ?_)
      refine Zb (Ze ?_)
      have hS149 := (hS136).drop
      have hS150 := (hS149).f4
      have hS151 := (hS150).f4
      have hS152 := (hS151).f4
      have hS153 := (hS152).f4
      have hS154 := (hS153).f4
      exact ⟨s110, (PHeap.le_refl _), hS154, p117, p118, p119, p120, p121, (congrArg Value.bool (and_f hc100)).symm, p123, p124, p125, p126, x106⟩
    ·intro f104 w115 hM100
     obtain ⟨s112, l105, hS155, p127, p128, p129, p130, p131, p132, p133, p134, p135, p136, p137⟩ := hM100
     refine (ib_normal (Ze ?_))
     refine Zd ?_
     refine Za rfl rfl (Exec.add rfl p137 rfl ?_)
     refine Za rfl rfl (Exec.move (v := Value.int .i64 (IntKind.i64.wrap ((i102 : Int) + 1))) rfl rfl ?_)
     refine Zb (Ze ?_)
     have e103 := Zu hm102
     subst s109
     have hS156 := (hS155).f4
     have hS157 := (hS156).f4
     have hS158 := (hS157).f4
     have hS159 := (hS158).f4
     have hS160 := (hS159).f4
     exact ⟨s112, (Zt l104 l105), hS160, p127, p128, p129, p130, p131, p132, p133, p134, p135, p136, (Eq.trans rfl (wrap_up hi102 (SliceRep.le (a102.mono (Zt l102 l103)))))⟩
   ·intro f105 w116 hI104
    obtain ⟨s113, l106, hS161, p138, p139, p140, p141, p142, p143, p144, p145, p146, p147, x108⟩ := hI104
    refine Zc ?_
    refine Zd ?_
    refine Za rfl rfl (Exec.lss rfl x108 p147 ?_)
    refine Zb (Ze ?_)
    refine Zc ?_
    refine W_false (congrArg Value.bool (decide_eq_false (by omega))) ?_
    refine W_exit (at_exit (at_exit (ib_here (Ze ?_))))
    refine Zd ?_
    refine Za rfl rfl (Exec.field F26_4 rfl p141 rfl ?_)
    refine Za rfl rfl (Exec.load_box ((hS161).f2) A24 rfl rfl rfl ?_)
    refine Za rfl rfl (Exec.move (v := Value.bool (goal100)) rfl p143 ?_)
    refine Za rfl rfl (Exec.buildSlice (Te := 4) (cs := [Value.bool (goal100)]) hS161 rfl (parts_cons (c := [Value.bool (goal100)]) (cells_of rfl rfl) parts_nil) (fun _ => by kernel_rfl) ?_)
    intro b111 w117 hS162
    obtain ⟨l107, q111, hm101⟩ := Zg hm101
    have hS163 := (hS162).f5
    refine Za rfl rfl (Exec.append_box (E := encBool) (ys := [goal100]) hS163 S24 Z4 rfl (by decide) rfl rfl rfl rfl ⟨[Value.bool (goal100)], [], rfl, rfl, rfl⟩ rfl q111 ?_)
    intro v116 w118 hS164
    refine Za rfl rfl (Exec.field F26_4 rfl p141 rfl ?_)
    have hS165 := (hS164).f3
    refine Za rfl rfl (Exec.store_box (ds := [v116]) (es := [Value.int .i64 (x100), Value.int .i64 (x101), v110, Value.slice none 0 0, v116]) hS165 A24 rfl rfl rfl (cells_one ((hS165).f1).arr_one) (Zj ((hS165).f1).arr_one one_nil) (Nat.le_of_ble_eq_true rfl) rfl ?_)
    intro w119 hS166
    refine Zb (ib_normal (Ze ?_))
    refine Zd ?_
    refine Za rfl rfl (Exec.add rfl p145 rfl ?_)
    refine Za rfl rfl (Exec.move (v := Value.int .i64 (IntKind.i64.wrap ((i101 : Int) + 1))) rfl rfl ?_)
    refine Zb (Ze ?_)
    have e104 := Zu hm101
    subst s106
    have hS167 := (hS166).f1
    have hS168 := (hS167).f4
    have hS169 := (hS168).f2
    have hS170 := (hS169).f4
    have hS171 := (hS170).f4
    exact ⟨s113, v116, (Zt l103 l106), hS171, p138, p139, p140, p141, p144, (Eq.trans rfl (wrap_up hi101 (by have h := must_some q108; simp at h; simp only [maxLen]; omega)))⟩
  ·intro f106 w120 hI105
   obtain ⟨s114, v114, l108, hS172, p148, p149, p150, p151, p152, x109⟩ := hI105
   refine Zc ?_
   refine Zd ?_
   refine Za rfl rfl (Exec.lss rfl x109 p152 ?_)
   refine Zb (Ze ?_)
   refine Zc ?_
   refine W_false (congrArg Value.bool (decide_eq_false (by omega))) ?_
   refine W_exit (at_exit (at_exit (ib_here (Ze ?_))))
   refine Zc ?_
   refine Zc ?_
   refine Zd ?_
   refine Za rfl rfl (Exec.field F55_0 rfl p149 rfl ?_)
   refine Za rfl rfl (Exec.load_box (hS172) A22 rfl rfl rfl ?_)
   obtain ⟨y101, q112, hm⟩ := Zg hm
   refine Za rfl rfl (Exec.call rfl rfl Try.func49 rfl N49 (Zi rfl args_nil) ((base_States_sim q112 hS172 (a100.mono (Zt l102 l108))).mono ?_))
   rintro _ w121 ⟨v117, rfl, ⟨s115, _, l109, hS173, rfl, r102⟩⟩
   refine ⟨_, rfl, ?_⟩
   refine Za rfl rfl (Exec.len_rep S83 rfl rfl r102 ?_)
   refine Za rfl rfl (Exec.move (v := Value.int .i64 (0)) rfl rfl ?_)
   refine Zb (Ze ?_)
   obtain ⟨z102, hB103, hm⟩ := Zg hm
   refine W_block (W_forS (fun k' s' f' w' => (fun (z102 : (List Edge)) => ∃ (s116 : PHeap) (v118 : Value), PHeap.le s115 s116 ∧ St w0 s116 (Res.box b100 55 [v101, v102, v103, v104] :: Res.box b101 26 [Value.int .i64 (0), Value.int .i64 (0), Value.slice none 0 0, Value.slice none 0 0, Value.slice none 0 0] :: Res.box b104 26 [Value.int .i64 (x100), Value.int .i64 (x101), v110, v118, v114] :: Res.arr (encInt .i64) 3 v110 z100 :: Res.arr encBool 4 v114 z101 :: H) w' ∧ f' 1 = Value.int .i64 (v100) ∧ f' 2 = Value.pointer (some ⟨b100, 0, none⟩) ∧ f' 4 = Value.pointer (some ⟨b101, 0, none⟩) ∧ f' 5 = Value.pointer (some ⟨b104, 0, none⟩) ∧ f' 81 = v117 ∧ f' 82 = Value.int .i64 ((y101.length : Int)) ∧ f' 83 = Value.int .i64 (k' : Int) ∧ SliceRep encEdge s116 v118 z102) s') hB103 ?_ ?_ ?_)
   ·have hS174 := (hS173).f4
    have hS175 := (hS174).f4
    have hS176 := (hS175).f4
    have hS177 := (hS176).f4
    have hS178 := (hS177).f4
    exact ⟨s115, (Value.slice none 0 0), (PHeap.le_refl _), hS178, p148, p149, p150, p151, rfl, rfl, rfl, (SliceRep.nil _ _)⟩
   ·intro i103 z102 s117 f107 w122 hi103 hI106 hm103
    obtain ⟨s118, v118, l110, hS179, p153, p154, p155, p156, p157, p158, x110, hr_v100⟩ := hI106
    refine Zc ?_
    refine Zd ?_
    refine Za rfl rfl (Exec.lss rfl x110 p158 ?_)
    refine Zb (Ze ?_)
    refine Zc ?_
    refine W_true (congrArg Value.bool (decide_eq_true (by omega))) ?_
    refine W_skip (Ze ?_)
    refine Zc ?_
    refine W_block ?_
    refine Zc ?_
    refine Zd ?_
    obtain ⟨x111, q113, hm103⟩ := Zg hm103
    refine Za rfl rfl (Exec.index_rep S83 rfl p157 x110 (r102.mono l110) q113 ?_)
    intro b112 o105 a109
    refine Za rfl rfl (Exec.load_at (E := (encSlice (encInt .i64))) hS179 A22 rfl rfl rfl a109 ?_)
    intro v119 q114
    have r103 := encSlice_val.1 q114
    refine Za rfl rfl (Exec.assign (v := v119) rfl rfl ?_)
    refine Zb (Ze ?_)
    refine Zc ?_
    refine Zd ?_
    refine Za rfl rfl (Exec.field F55_3 rfl p154 rfl ?_)
    refine Za rfl rfl (Exec.load_box (hS179) A53 rfl rfl rfl ?_)
    refine Za rfl rfl (Exec.len_rep S53 rfl rfl (a103.mono (Zt (Zt (Zt l102 l108) l109) l110)) ?_)
    refine Za rfl rfl (Exec.move (v := Value.int .i64 (0)) rfl rfl ?_)
    refine Zb (Ze ?_)
    obtain ⟨z103, hB104, hm103⟩ := Zg hm103
    refine W_block (W_forS (fun k' s' f' w' => (fun (z103 : (List Edge)) => ∃ (s119 : PHeap) (v120 : Value), PHeap.le s118 s119 ∧ St w0 s119 (Res.box b100 55 [v101, v102, v103, v104] :: Res.box b101 26 [Value.int .i64 (0), Value.int .i64 (0), Value.slice none 0 0, Value.slice none 0 0, Value.slice none 0 0] :: Res.box b104 26 [Value.int .i64 (x100), Value.int .i64 (x101), v110, v120, v114] :: Res.arr (encInt .i64) 3 v110 z100 :: Res.arr encBool 4 v114 z101 :: H) w' ∧ f' 1 = Value.int .i64 (v100) ∧ f' 2 = Value.pointer (some ⟨b100, 0, none⟩) ∧ f' 4 = Value.pointer (some ⟨b101, 0, none⟩) ∧ f' 5 = Value.pointer (some ⟨b104, 0, none⟩) ∧ f' 13 = v119 ∧ f' 81 = v117 ∧ f' 82 = Value.int .i64 ((y101.length : Int)) ∧ f' 83 = Value.int .i64 ((i103 : Int)) ∧ f' 89 = Value.int .i64 ((t100.Ops.length : Int)) ∧ f' 90 = Value.int .i64 (k' : Int) ∧ SliceRep encEdge s119 v120 z103) s') hB104 ?_ ?_ ?_)
    ·have hS180 := (hS179).f4
     have hS181 := (hS180).f4
     have hS182 := (hS181).f4
     have hS183 := (hS182).f4
     have hS184 := (hS183).f4
     exact ⟨s118, v118, (PHeap.le_refl _), hS184, p153, p154, p155, p156, rfl, p157, p158, x110, rfl, rfl, hr_v100⟩
    ·intro i104 z103 s120 f108 w123 hi104 hI107 hm104
     obtain ⟨s121, v120, l111, hS185, p159, p160, p161, p162, p163, p164, p165, p166, p167, x112, hr_v101⟩ := hI107
     refine Zc ?_
     refine Zd ?_
     refine Za rfl rfl (Exec.lss rfl x112 p167 ?_)
     refine Zb (Ze ?_)
     refine Zc ?_
     refine W_true (congrArg Value.bool (decide_eq_true (by omega))) ?_
     refine W_skip (Ze ?_)
     refine Zc ?_
     refine W_block ?_
     refine Zc ?_
     refine Zd ?_
     refine Za rfl rfl (Exec.move (v := Value.int .i64 ((i104 : Int))) rfl x112 ?_)
     refine Za rfl rfl (Exec.assign (v := Value.int .i64 ((i104 : Int))) rfl rfl ?_)
     refine Zb (Ze ?_)
     refine Zc ?_
     refine Zd ?_
     refine Za rfl rfl (Exec.load_box_agg (ds := [v101, v102, v103, v104]) (hS185) A55 rfl p160 rfl ?_)
     refine Za rfl rfl (Exec.move (v := v119) rfl p163 ?_)
     refine Za rfl rfl (Exec.move (v := Value.int .i64 ((i104 : Int))) rfl rfl ?_)
     obtain ⟨t101, q115, hm104⟩ := Zg hm104
     obtain ⟨y102, y103⟩ := t101
     replace hm104 := un2_eq hm104
     refine Za rfl rfl (Exec.call rfl rfl Try.func50 rfl N50 (Zi rfl (Zi rfl (Zi rfl args_nil))) ((base_Apply_sim q115 hS185 (a100.mono (Zt (Zt (Zt (Zt l102 l108) l109) l110) l111)) (a101.mono (Zt (Zt (Zt (Zt l102 l108) l109) l110) l111)) (a102.mono (Zt (Zt (Zt (Zt l102 l108) l109) l110) l111)) (a103.mono (Zt (Zt (Zt (Zt l102 l108) l109) l110) l111)) (r103.mono l111)).mono ?_))
     rintro _ w124 ⟨_, rfl, ⟨s122, v121, l112, hS186, rfl, r104⟩⟩
     refine ⟨_, rfl, ?_⟩
     refine Za rfl rfl (Exec.move (v := Value.tuple #[v121, Value.bool (y103)]) rfl rfl ?_)
     refine Za rfl rfl (Exec.extract (v := v121) rfl rfl rfl ?_)
     refine Za rfl rfl (Exec.extract (v := Value.bool (y103)) rfl rfl rfl ?_)
     refine Za rfl rfl (Exec.assign (v := v121) rfl rfl ?_)
     refine Za rfl rfl (Exec.assign (v := Value.bool (y103)) rfl rfl ?_)
     refine Zb (Ze ?_)
     refine Zc ?_
     refine Zd ?_
     refine Za rfl rfl (Exec.move (v := Value.bool (y103)) rfl rfl ?_)
     refine Zb (Ze ?_)
     obtain ⟨z104, ht100, hm104⟩ := Zg hm104
     refine W_mid (M := fun f' w' => (fun (z104 : (List Edge)) => ∃ (s123 : PHeap) (v122 : Value), PHeap.le s122 s123 ∧ St w0 s123 (Res.box b100 55 [v101, v102, v103, v104] :: Res.box b101 26 [Value.int .i64 (0), Value.int .i64 (0), Value.slice none 0 0, Value.slice none 0 0, Value.slice none 0 0] :: Res.box b104 26 [Value.int .i64 (x100), Value.int .i64 (x101), v110, v122, v114] :: Res.arr (encInt .i64) 3 v110 z100 :: Res.arr encBool 4 v114 z101 :: H) w' ∧ f' 1 = Value.int .i64 (v100) ∧ f' 2 = Value.pointer (some ⟨b100, 0, none⟩) ∧ f' 4 = Value.pointer (some ⟨b101, 0, none⟩) ∧ f' 5 = Value.pointer (some ⟨b104, 0, none⟩) ∧ f' 13 = v119 ∧ f' 81 = v117 ∧ f' 82 = Value.int .i64 ((y101.length : Int)) ∧ f' 83 = Value.int .i64 ((i103 : Int)) ∧ f' 89 = Value.int .i64 ((t100.Ops.length : Int)) ∧ f' 90 = Value.int .i64 ((i104 : Int)) ∧ SliceRep encEdge s123 v122 z104) z104) ?_ ?_
     ·rcases ite_some ht100 with ⟨hc102, ht100⟩ | ⟨hc102, ht100⟩
      ·refine W_cond_t rfl hc102 ?_
       refine W_dl (n0 := 13) (.q 0 (.q 1 (.q 2 (.q 3 (.q 4 (.q 5 (.q 6 (.q 7 (.q 8 (.q 9 (.q 10 (.q 11 (.e 12 [] .done))))))))))))) hmix (by kernel_rfl) (by kernel_rfl) ?_
       have hS187 := hS186.drew
       refine DL_q rfl rfl (Exec.field F26_3 rfl p162 rfl ⟨rfl, ?_⟩)
       refine DL_q rfl rfl (Exec.load_box ((hS187).f2) A23 rfl rfl rfl ⟨rfl, ?_⟩)
       refine DL_q rfl rfl (Exec.move (v := v119) rfl p163 ⟨rfl, ?_⟩)
       refine DL_q rfl rfl (Exec.move (v := Value.int .i64 (v100)) rfl p159 ⟨rfl, ?_⟩)
       obtain ⟨x113, q116, ht100⟩ := Zg ht100
       refine DL_q rfl rfl (Exec.index_repE S22 rfl rfl rfl (r103.mono (Zt l111 l112)) q116 ?_)
       intro b113 o106 a110 e105
       refine ⟨rfl, ?_⟩
       refine DL_q rfl rfl (Exec.load_at (E := (encInt .i64)) hS187 A3 rfl rfl rfl a110 ?_)
       intro v123 q117
       obtain rfl := encInt_val.1 q117
       refine ⟨rfl, ?_⟩
       refine DL_q rfl rfl (Exec.move (v := Value.int .i64 ((i104 : Int))) rfl rfl ⟨rfl, ?_⟩)
       refine DL_q rfl rfl (Exec.move (v := v121) rfl rfl ⟨rfl, ?_⟩)
       refine DL_q rfl rfl (Exec.move (v := Value.int .i64 (v100)) rfl p159 ⟨rfl, ?_⟩)
       obtain ⟨x114, q118, ht100⟩ := Zg ht100
       refine DL_q rfl rfl (Exec.index_repE S22 rfl rfl rfl r104 q118 ?_)
       intro b114 o107 a111 e106
       refine ⟨rfl, ?_⟩
       refine DL_q rfl rfl (Exec.load_at (E := (encInt .i64)) hS187 A3 rfl rfl rfl a111 ?_)
       intro v124 q119
       obtain rfl := encInt_val.1 q119
       refine ⟨rfl, ?_⟩
       refine DL_q rfl rfl (Exec.build rfl (parts_cons (c := [Value.int .i64 (x113)]) (cells_of rfl rfl) (parts_cons (c := [Value.int .i64 ((i104 : Int))]) (cells_of rfl rfl) (parts_cons (c := [Value.int .i64 (x114)]) (cells_of rfl rfl) parts_nil))) (v := Value.agg #[Value.int .i64 (x113), Value.int .i64 ((i104 : Int)), Value.int .i64 (x114)]) (fun _ => by kernel_rfl) ⟨rfl, ?_⟩)
       obtain ⟨y104, q120, ht100⟩ := Zg ht100
       refine DL_e rfl rfl (Exec.call rfl rfl Try.func40 rfl N40 (Zi rfl (Zi rfl args_nil)) ((ref44_Insert_sim q120 hS187 (hr_v101.mono l112)).mono ?_))
       rintro _ w125 ⟨v125, rfl, ⟨s124, _, l113, hS188, rfl, r105⟩⟩
       refine ⟨_, rfl, ?_⟩
       refine ⟨ag_nil, ?_⟩
       refine DL_done ?_
       refine Za rfl rfl (Exec.field F26_3 rfl p162 rfl ?_)
       have hS189 := (hS188).f2
       refine Za rfl rfl (Exec.store_box (ds := [v125]) (es := [Value.int .i64 (x100), Value.int .i64 (x101), v110, v125, v114]) hS189 A23 rfl rfl rfl (cells_one (r105).one) (Zj (r105).one one_nil) (Nat.le_of_ble_eq_true rfl) rfl ?_)
       intro w126 hS190
       refine Zb (Ze ?_)
       have e107 := Zu ht100
       subst z104
       have hS191 := (hS190).f4
       have hS192 := (hS191).f4
       have hS193 := (hS192).f2
       have hS194 := (hS193).f4
       have hS195 := (hS194).f4
       exact ⟨s124, v125, l113, hS195, p159, p160, p161, p162, p163, p164, p165, p166, p167, x112, r105⟩
      ·refine W_cond_f rfl hc102 ?_
       replace hc102 := Zk hc102
       refine W_skip (Ze ?_)
       have e108 := Zu ht100
       subst z104
       have hS196 := (hS186).f4
       have hS197 := (hS196).f4
       have hS198 := (hS197).f4
       have hS199 := (hS198).f4
       have hS200 := (hS199).f4
       exact ⟨s122, v120, (PHeap.le_refl _), hS200, p159, p160, p161, p162, p163, p164, p165, p166, p167, x112, (hr_v101.mono l112)⟩
     ·intro f109 w127 hM101
      obtain ⟨s125, v122, l114, hS201, p168, p169, p170, p171, p172, p173, p174, p175, p176, p177, hr_v102⟩ := hM101
      refine (ib_normal (Ze ?_))
      refine Zd ?_
      refine Za rfl rfl (Exec.add rfl p177 rfl ?_)
      refine Za rfl rfl (Exec.move (v := Value.int .i64 (IntKind.i64.wrap ((i104 : Int) + 1))) rfl rfl ?_)
      refine Zb (Ze ?_)
      have e109 := Zu hm104
      subst s120
      have hS202 := (hS201).f4
      have hS203 := (hS202).f4
      have hS204 := (hS203).f4
      have hS205 := (hS204).f4
      have hS206 := (hS205).f4
      exact ⟨s125, v122, (Zt (Zt l111 l112) l114), hS206, p168, p169, p170, p171, p172, p173, p174, p175, p176, (Eq.trans rfl (wrap_up hi104 (SliceRep.le (a103.mono (Zt (Zt (Zt l102 l108) l109) l110))))), hr_v102⟩
    ·intro f110 w128 hI108
     obtain ⟨s126, v120, l115, hS207, p178, p179, p180, p181, p182, p183, p184, p185, p186, x115, hr_v101⟩ := hI108
     refine Zc ?_
     refine Zd ?_
     refine Za rfl rfl (Exec.lss rfl x115 p186 ?_)
     refine Zb (Ze ?_)
     refine Zc ?_
     refine W_false (congrArg Value.bool (decide_eq_false (by omega))) ?_
     refine W_exit (at_exit (at_exit (ib_here (ib_normal (Ze ?_)))))
     refine Zd ?_
     refine Za rfl rfl (Exec.add rfl p185 rfl ?_)
     refine Za rfl rfl (Exec.move (v := Value.int .i64 (IntKind.i64.wrap ((i103 : Int) + 1))) rfl rfl ?_)
     refine Zb (Ze ?_)
     have e110 := Zu hm103
     subst s117
     have hS208 := (hS207).f4
     have hS209 := (hS208).f4
     have hS210 := (hS209).f4
     have hS211 := (hS210).f4
     have hS212 := (hS211).f4
     exact ⟨s126, v120, (Zt l110 l115), hS212, p178, p179, p180, p181, p183, p184, (Eq.trans rfl (wrap_up hi103 (SliceRep.le r102))), hr_v101⟩
   ·intro f111 w129 hI109
    obtain ⟨s127, v118, l116, hS213, p187, p188, p189, p190, p191, p192, x116, hr_v100⟩ := hI109
    refine Zc ?_
    refine Zd ?_
    refine Za rfl rfl (Exec.lss rfl x116 p192 ?_)
    refine Zb (Ze ?_)
    refine Zc ?_
    refine W_false (congrArg Value.bool (decide_eq_false (by omega))) ?_
    refine W_exit (at_exit (at_exit (ib_here (Ze ?_))))
    refine Zc ?_
    refine Zd ?_
    refine Za rfl rfl (Exec.load_box_agg (ds := [Value.int .i64 (x100), Value.int .i64 (x101), v110, v118, v114]) ((hS213).f2) A26 rfl p190 rfl ?_)
    have hS214 := (hS213).f1
    refine Za rfl rfl (Exec.store_box (ds := [Value.int .i64 (x100), Value.int .i64 (x101), v110, v118, v114]) (es := [Value.int .i64 (x100), Value.int .i64 (x101), v110, v118, v114]) hS214 A26 rfl p189 rfl rfl (Zj rfl (Zj rfl (Zj ((hS214).f3).arr_one (Zj (hr_v100).one (Zj ((hS214).f4).arr_one one_nil))))) (Nat.le_of_ble_eq_true rfl) rfl ?_)
    intro w130 hS215
    refine Zb (Ze ?_)
    refine W_ret ?_
    have e111 := Zu hm
    subst r
    refine ⟨_, retG1 rfl ⟨_, _, p189, cellRes (hS215) A26⟩, ?_⟩
    have hS216 := (hS215).f3
    obtain ⟨s128, l117, hS217, r106⟩ := hS216.freezeArr
    have hS218 := (hS217).f3
    obtain ⟨s129, l118, hS219, r107⟩ := hS218.freezeArr
    have hS220 := (hS219).drop
    have hS221 := (hS220).drop
    have hS222 := (hS221).drop
    exact ⟨s129, v110, v118, v114, (Zt (Zt (Zt (Zt (Zt l102 l108) l109) l116) l117) l118), hS222, rfl, (r106.mono l118), (hr_v100.mono (Zt l117 l118)), r107⟩

theorem N8 : (Try.f8.name == "runtime.NumGoroutine") = false := by kernel_rfl

theorem law44_TransysAtomic_sim {w0 w : World} {s : PHeap} {H : List Res} {t1 : Task} {v10 : Int} {v2 : Value} {v4 : Value} {v6 : Value} {v8 : Value} {r : Bool} (hm : law44_TransysAtomic_p t1 v10 = some r) (hS : St w0 s (H) w) (a3 : SliceRep (encInt .i64) s v2 t1.Vars) (a5 : SliceRep (encInt .i64) s v4 t1.Init) (a7 : SliceRep encFact s v6 t1.Goal) (a9 : SliceRep encOp s v8 t1.Ops) :
  Calls Try.prog 8 #[Value.agg #[v2, v4, v6, v8], Value.int .i64 (v10)] w fun e w' => ∃ v, e = .returned v ∧ ((fun (y100 : Bool) => ∃ (s100 : PHeap) , PHeap.le s s100 ∧ St w0 s100 (H) w' ∧ v = Value.bool (y100)) r) := by
 unfold law44_TransysAtomic_p at hm
 refine calls_of_W Try.func8 rfl rfl ?_
 refine Zc ?_
 refine Zd ?_
 refine Za rfl rfl (Exec.box (cs := [v2, v4, v6, v8]) hS rfl rfl rfl ?_)
 intro b100 w100 hS100
 refine Za rfl rfl (Exec.assign (v := Value.bool (false)) rfl rfl ?_)
 refine Zb (Ze ?_)
 refine Zc ?_
 refine Zc ?_
 obtain ⟨z100, ht100, hm⟩ := Zg hm
 refine W_mid (M := fun f' w' => (fun (z100 : Bool) => ∃ (s101 : PHeap) , PHeap.le s s101 ∧ St w0 s101 (Res.box b100 55 [v2, v4, v6, v8] :: H) w' ∧ f' 1 = Value.int .i64 (v10) ∧ f' 2 = Value.pointer (some ⟨b100, 0, none⟩) ∧ f' 20 = Value.bool (z100)) z100) ?_ ?_
 ·refine Zd ?_
  obtain ⟨y101, q100, ht100⟩ := Zg ht100
  refine Za rfl rfl (Exec.call rfl rfl Try.func10 rfl N10 args_nil ((law44_awake_sim q100 hS100 ).mono ?_))
  rintro _ w101 ⟨_, rfl, ⟨s102, l100, hS101, rfl⟩⟩
  refine ⟨_, rfl, ?_⟩
  refine Za rfl rfl (Exec.not rfl rfl ?_)
  refine Za rfl rfl (Exec.move (v := Value.bool (!y101)) rfl rfl ?_)
  rcases ite_some ht100 with ⟨hc100, ht100⟩ | ⟨hc100, ht100⟩
  ·refine Zl rfl (Zf rfl (congrArg Value.bool hc100)) rfl rfl ?_
   refine Zl rfl (Zf rfl (congrArg Value.bool hc100)) rfl rfl ?_
   refine Zl rfl (Zf rfl (congrArg Value.bool hc100)) rfl rfl ?_
   refine Zl rfl (Zf rfl (congrArg Value.bool hc100)) rfl rfl ?_
   refine Za rfl rfl (Exec.pick_t (v := Value.bool (true)) rfl (congrArg Value.bool hc100) rfl ?_)
   refine Za rfl rfl (Exec.move (v := Value.bool (true)) rfl rfl ?_)
   refine Zl rfl (Zf rfl rfl) rfl rfl ?_
   refine Zl rfl (Zf rfl rfl) rfl rfl ?_
   refine Zl rfl (Zf rfl rfl) rfl rfl ?_
   refine Zl rfl (Zf rfl rfl) rfl rfl ?_
   refine Za rfl rfl (Exec.pick_t (v := Value.bool (true)) rfl rfl rfl ?_)
   refine Zb (Ze ?_)
   have e100 := Zu ht100
   subst z100
   exact ⟨s102, l100, hS101, rfl, rfl, rfl⟩
  ·replace hc100 := Zk hc100
   refine WL_run rfl (Zf rfl (congrArg Value.bool hc100)) rfl (Exec.field F55_0 rfl rfl rfl ?_)
   refine WL_run rfl (Zf rfl (congrArg Value.bool hc100)) rfl (Exec.load_box (hS101) A22 rfl rfl rfl ?_)
   refine WL_run rfl (Zf rfl (congrArg Value.bool hc100)) rfl (Exec.len_rep S22 rfl rfl (a3.mono l100) ?_)
   refine WL_run rfl (Zf rfl (congrArg Value.bool hc100)) rfl (Exec.gtr rfl rfl rfl ?_)
   refine Za rfl rfl (Exec.pick_f (v := Value.bool (decide (12 < (t1.Vars.length : Int)))) rfl (congrArg Value.bool hc100) rfl ?_)
   refine Za rfl rfl (Exec.move (v := Value.bool (decide (12 < (t1.Vars.length : Int)))) rfl rfl ?_)
   rcases ite_some ht100 with ⟨hc101, ht100⟩ | ⟨hc101, ht100⟩
   ·refine Zl rfl (Zf rfl (congrArg Value.bool hc101)) rfl rfl ?_
    refine Zl rfl (Zf rfl (congrArg Value.bool hc101)) rfl rfl ?_
    refine Zl rfl (Zf rfl (congrArg Value.bool hc101)) rfl rfl ?_
    refine Zl rfl (Zf rfl (congrArg Value.bool hc101)) rfl rfl ?_
    refine Za rfl rfl (Exec.pick_t (v := Value.bool (true)) rfl (congrArg Value.bool hc101) rfl ?_)
    refine Zb (Ze ?_)
    have e101 := Zu ht100
    subst z100
    exact ⟨s102, l100, hS101, rfl, rfl, rfl⟩
   ·replace hc101 := Zk hc101
    refine WL_run rfl (Zf rfl (congrArg Value.bool hc101)) rfl (Exec.field F55_3 rfl rfl rfl ?_)
    refine WL_run rfl (Zf rfl (congrArg Value.bool hc101)) rfl (Exec.load_box (hS101) A53 rfl rfl rfl ?_)
    refine WL_run rfl (Zf rfl (congrArg Value.bool hc101)) rfl (Exec.len_rep S53 rfl rfl (a9.mono l100) ?_)
    refine WL_run rfl (Zf rfl (congrArg Value.bool hc101)) rfl (Exec.gtr rfl rfl rfl ?_)
    refine Za rfl rfl (Exec.pick_f (v := Value.bool (decide (20 < (t1.Ops.length : Int)))) rfl (congrArg Value.bool hc101) rfl ?_)
    refine Zb (Ze ?_)
    have e102 := Zu ht100
    subst z100
    exact ⟨s102, l100, hS101, rfl, rfl, rfl⟩
 ·intro f100 w102 hM100
  obtain ⟨s103, l101, hS102, p100, p101, p102⟩ := hM100
  refine (Ze ?_)
  rcases ite_some hm with ⟨hc102, hm⟩ | ⟨hc102, hm⟩
  ·refine W_cond_t p102 hc102 ?_
   refine Zc ?_
   refine Zd ?_
   obtain ⟨y102, q101, hm⟩ := Zg hm
   refine Za rfl rfl (Exec.call rfl rfl Try.func10 rfl N10 args_nil ((law44_awake_sim q101 hS102 ).mono ?_))
   rintro _ w103 ⟨_, rfl, ⟨s104, l102, hS103, rfl⟩⟩
   refine ⟨_, rfl, ?_⟩
   refine Za rfl rfl (Exec.assign (v := Value.bool (y102)) rfl rfl ?_)
   refine Zb (Ze ?_)
   refine W_ret (at_ret ?_)
   have e103 := Zu hm
   subst r
   refine ⟨_, ret1 rfl, ?_⟩
   have hS104 := (hS103).drop
   exact ⟨s104, (Zt l101 l102), hS104, rfl⟩
  ·refine W_cond_f p102 hc102 ?_
   replace hc102 := Zk hc102
   refine W_skip (Ze ?_)
   refine Zc ?_
   refine Zd ?_
   refine Za rfl rfl (Exec.load_box_agg (ds := [v2, v4, v6, v8]) (hS102) A55 rfl p101 rfl ?_)
   refine Za rfl rfl (Exec.move (v := Value.int .i64 (v10)) rfl p100 ?_)
   obtain ⟨t100, q102, hm⟩ := Zg hm
   obtain ⟨y103, y104⟩ := t100
   replace hm := un2_eq hm
   refine Za rfl rfl (Exec.call rfl rfl Try.func28 rfl N28 (Zi rfl (Zi rfl args_nil)) ((transys_Atomic_sim q102 hS102 (a3.mono l101) (a5.mono l101) (a7.mono l101) (a9.mono l101)).mono ?_))
   rintro _ w104 ⟨_, rfl, ⟨s105, v100, v101, v102, l103, hS105, rfl, r100, r101, r102⟩⟩
   refine ⟨_, rfl, ?_⟩
   refine Za rfl rfl (Exec.move (v := Value.tuple #[Value.agg #[Value.int .i64 (y104.States), Value.int .i64 (y104.Init), v100, v101, v102], errV 39 (y103)]) rfl rfl ?_)
   refine Za rfl rfl (Exec.extract (v := Value.agg #[Value.int .i64 (y104.States), Value.int .i64 (y104.Init), v100, v101, v102]) rfl rfl rfl ?_)
   refine Za rfl rfl (Exec.extract (v := errV 39 (y103)) rfl rfl rfl ?_)
   refine Za rfl rfl (Exec.alloc (cs := [Value.int .i64 (0), Value.int .i64 (0), Value.slice none 0 0, Value.slice none 0 0, Value.slice none 0 0]) hS105 Z26 rfl rfl ?_)
   intro b101 w105 hS106
   refine Za rfl rfl (Exec.store_box (ds := [Value.int .i64 (y104.States), Value.int .i64 (y104.Init), v100, v101, v102]) (es := [Value.int .i64 (y104.States), Value.int .i64 (y104.Init), v100, v101, v102]) hS106 A26 rfl rfl rfl rfl (Zj rfl (Zj rfl (Zj (r100).one (Zj (r101).one (Zj (r102).one one_nil))))) (Nat.le_of_ble_eq_true rfl) rfl ?_)
   intro w106 hS107
   refine Za rfl rfl (Exec.assign (v := errV 39 (y103)) rfl rfl ?_)
   refine Zb (Ze ?_)
   refine Zc ?_
   refine Zc ?_
   obtain ⟨z101, ht101, hm⟩ := Zg hm
   refine W_mid (M := fun f' w' => (fun (z101 : Bool) => ∃ (s106 : PHeap) , PHeap.le s105 s106 ∧ St w0 s106 (Res.box b100 55 [v2, v4, v6, v8] :: Res.box b101 26 [Value.int .i64 (y104.States), Value.int .i64 (y104.Init), v100, v101, v102] :: H) w' ∧ f' 1 = Value.int .i64 (v10) ∧ f' 2 = Value.pointer (some ⟨b100, 0, none⟩) ∧ f' 5 = Value.pointer (some ⟨b101, 0, none⟩) ∧ f' 6 = errV 39 (y103) ∧ f' 41 = Value.bool (z101)) z101) ?_ ?_
   ·refine Zd ?_
    refine Za rfl rfl (Exec.load_box_agg (ds := [v2, v4, v6, v8]) ((hS107).f1) A55 rfl p101 rfl ?_)
    obtain ⟨y105, q103, ht101⟩ := Zg ht101
    refine Za rfl rfl (Exec.call rfl rfl Try.func29 rfl N29 (Zi rfl args_nil) ((base_Good_sim q103 hS107 (a3.mono (Zt l101 l103)) (a5.mono (Zt l101 l103)) (a7.mono (Zt l101 l103)) (a9.mono (Zt l101 l103))).mono ?_))
    rintro _ w107 ⟨_, rfl, ⟨s107, l104, hS108, rfl⟩⟩
    refine ⟨_, rfl, ?_⟩
    refine Za rfl rfl (Exec.not rfl rfl ?_)
    refine Za rfl rfl (Exec.move (v := Value.bool (!y105)) rfl rfl ?_)
    rcases ite_some ht101 with ⟨hc103, ht101⟩ | ⟨hc103, ht101⟩
    ·refine Zl rfl (Zf rfl (congrArg Value.bool hc103)) rfl rfl ?_
     refine Zl rfl (Zf rfl (congrArg Value.bool hc103)) rfl rfl ?_
     refine Za rfl rfl (Exec.pick_t (v := Value.bool (true)) rfl (congrArg Value.bool hc103) rfl ?_)
     refine Za rfl rfl (Exec.move (v := Value.bool (true)) rfl rfl ?_)
     refine Zl rfl (Zf rfl rfl) rfl rfl ?_
     refine Zl rfl (Zf rfl rfl) rfl rfl ?_
     refine Zl rfl (Zf rfl rfl) rfl rfl ?_
     refine Zl rfl (Zf rfl rfl) rfl rfl ?_
     refine Zl rfl (Zf rfl rfl) rfl rfl ?_
     refine Za rfl rfl (Exec.pick_t (v := Value.bool (true)) rfl rfl rfl ?_)
     refine Zb (Ze ?_)
     have e104 := Zu ht101
     subst z101
     have hS109 := (hS108).f1
     exact ⟨s107, l104, hS109, p100, p101, rfl, rfl, rfl⟩
    ·replace hc103 := Zk hc103
     refine WL_run rfl (Zf rfl (congrArg Value.bool hc103)) rfl (Exec.move (v := Value.int .i64 (v10)) rfl p100 ?_)
     refine WL_run rfl (Zf rfl (congrArg Value.bool hc103)) rfl (Exec.lss rfl rfl rfl ?_)
     refine Za rfl rfl (Exec.pick_f (v := Value.bool (decide (v10 < 0))) rfl (congrArg Value.bool hc103) rfl ?_)
     refine Za rfl rfl (Exec.move (v := Value.bool (decide (v10 < 0))) rfl rfl ?_)
     rcases ite_some ht101 with ⟨hc104, ht101⟩ | ⟨hc104, ht101⟩
     ·refine Zl rfl (Zf rfl (congrArg Value.bool hc104)) rfl rfl ?_
      refine Zl rfl (Zf rfl (congrArg Value.bool hc104)) rfl rfl ?_
      refine Zl rfl (Zf rfl (congrArg Value.bool hc104)) rfl rfl ?_
      refine Zl rfl (Zf rfl (congrArg Value.bool hc104)) rfl rfl ?_
      refine Zl rfl (Zf rfl (congrArg Value.bool hc104)) rfl rfl ?_
      refine Za rfl rfl (Exec.pick_t (v := Value.bool (true)) rfl (congrArg Value.bool hc104) rfl ?_)
      refine Zb (Ze ?_)
      have e105 := Zu ht101
      subst z101
      have hS110 := (hS108).f1
      exact ⟨s107, l104, hS110, p100, p101, rfl, rfl, rfl⟩
     ·replace hc104 := Zk hc104
      refine WL_run rfl (Zf rfl (congrArg Value.bool hc104)) rfl (Exec.move (v := Value.int .i64 (v10)) rfl p100 ?_)
      refine WL_run rfl (Zf rfl (congrArg Value.bool hc104)) rfl (Exec.field F55_0 rfl p101 rfl ?_)
      refine WL_run rfl (Zf rfl (congrArg Value.bool hc104)) rfl (Exec.load_box ((hS108).f1) A22 rfl rfl rfl ?_)
      refine WL_run rfl (Zf rfl (congrArg Value.bool hc104)) rfl (Exec.len_rep S22 rfl rfl (a3.mono (Zt (Zt l101 l103) l104)) ?_)
      refine WL_run rfl (Zf rfl (congrArg Value.bool hc104)) rfl (Exec.geq rfl rfl rfl ?_)
      refine Za rfl rfl (Exec.pick_f (v := Value.bool (decide ((t1.Vars.length : Int) ≤ v10))) rfl (congrArg Value.bool hc104) rfl ?_)
      refine Zb (Ze ?_)
      have e106 := Zu ht101
      subst z101
      have hS111 := (hS108).f1
      exact ⟨s107, l104, hS111, p100, p101, rfl, rfl, rfl⟩
   ·intro f101 w108 hM101
    obtain ⟨s108, l105, hS112, p103, p104, p105, p106, p107⟩ := hM101
    refine (Ze ?_)
    rcases ite_some hm with ⟨hc105, hm⟩ | ⟨hc105, hm⟩
    ·refine W_cond_t p107 hc105 ?_
     refine Zc ?_
     obtain ⟨z102, ht102, hm⟩ := Zg hm
     refine W_mid (M := fun f' w' => (fun (z102 : Bool) => ∃ (s109 : PHeap) , PHeap.le s108 s109 ∧ St w0 s109 (H) w' ∧ f' 4 = Value.bool (z102)) z102) ?_ ?_
     ·refine Zd ?_
      refine Za rfl rfl (Exec.move (v := errV 39 (y103)) rfl p106 ?_)
      refine Za rfl rfl (Exec.err_neq_nil (T := 39) Try.underlying30 rfl rfl rfl ?_)
      refine Za rfl rfl (Exec.move (v := Value.bool (y103.isSome)) rfl rfl ?_)
      rcases ite_some ht102 with ⟨hc106, ht102⟩ | ⟨hc106, ht102⟩
      ·refine WL_run rfl (Zf rfl (congrArg Value.bool hc106)) rfl (Exec.load_box_agg (ds := [Value.int .i64 (y104.States), Value.int .i64 (y104.Init), v100, v101, v102]) ((hS112).f1) A26 rfl p105 rfl ?_)
       refine WL_run rfl (Zf rfl (congrArg Value.bool hc106)) rfl (Exec.build rfl parts_nil (v := Value.agg #[Value.int .i64 (0), Value.int .i64 (0), Value.slice none 0 0, Value.slice none 0 0, Value.slice none 0 0]) (fun _ => by kernel_rfl) ?_)
       obtain ⟨y106, q104, ht102⟩ := Zg ht102
       refine WL_run rfl (Zf rfl (congrArg Value.bool hc106)) rfl (Exec.call rfl rfl Try.func14 rfl N14 (Zi rfl (Zi rfl args_nil)) ((ref44_Same_sim q104 hS112 (r100.mono l105) (r101.mono l105) (r102.mono l105) (SliceRep.nil _ _) (SliceRep.nil _ _) (SliceRep.nil _ _)).mono ?_))
       rintro _ w109 ⟨_, rfl, ⟨s110, l106, hS113, rfl⟩⟩
       refine ⟨_, rfl, ?_⟩
       refine Za rfl rfl (Exec.pick_t (v := Value.bool (y106)) rfl (congrArg Value.bool hc106) rfl ?_)
       refine Za rfl rfl (Exec.assign (v := Value.bool (y106)) rfl rfl ?_)
       refine Zb (Ze ?_)
       have e107 := Zu ht102
       subst z102
       have hS114 := (hS113).drop
       have hS115 := (hS114).drop
       exact ⟨s110, l106, hS115, rfl⟩
      ·replace hc106 := Zk hc106
       refine Zl rfl (Zf rfl (congrArg Value.bool hc106)) rfl rfl ?_
       refine Zl rfl (Zf rfl (congrArg Value.bool hc106)) rfl rfl ?_
       refine Zl rfl (Zf rfl (congrArg Value.bool hc106)) rfl rfl ?_
       refine Za rfl rfl (Exec.pick_f (v := Value.bool (false)) rfl (congrArg Value.bool hc106) rfl ?_)
       refine Za rfl rfl (Exec.assign (v := Value.bool (false)) rfl rfl ?_)
       refine Zb (Ze ?_)
       have e108 := Zu ht102
       subst z102
       have hS116 := (hS112).drop
       have hS117 := (hS116).drop
       exact ⟨s108, (PHeap.le_refl _), hS117, rfl⟩
     ·intro f102 w110 hM102
      obtain ⟨s111, l107, hS118, p108⟩ := hM102
      refine (Ze ?_)
      refine W_ret (at_ret ?_)
      have e109 := Zu hm
      subst r
      refine ⟨_, ret1 rfl, ?_⟩
      exact ⟨s111, (Zt (Zt (Zt l101 l103) l105) l107), hS118, p108⟩
    ·refine W_cond_f p107 hc105 ?_
     replace hc105 := Zk hc105
     refine W_skip (Ze ?_)
     refine Zc ?_
     refine Zc ?_
     refine Zd ?_
     refine Za rfl rfl (Exec.load_box_agg (ds := [v2, v4, v6, v8]) (hS112) A55 rfl p104 rfl ?_)
     obtain ⟨y107, q105, hm⟩ := Zg hm
     refine Za rfl rfl (Exec.call rfl rfl Try.func30 rfl N30 (Zi rfl args_nil) ((base_Small_sim q105 hS112 (a3.mono (Zt (Zt l101 l103) l105)) (a5.mono (Zt (Zt l101 l103) l105)) (a7.mono (Zt (Zt l101 l103) l105)) (a9.mono (Zt (Zt l101 l103) l105))).mono ?_))
     rintro _ w111 ⟨_, rfl, ⟨s112, l108, hS119, rfl⟩⟩
     refine ⟨_, rfl, ?_⟩
     refine Za rfl rfl (Exec.not rfl rfl ?_)
     refine Zb (Ze ?_)
     rcases ite_some hm with ⟨hc107, hm⟩ | ⟨hc107, hm⟩
     ·refine W_cond_t rfl hc107 ?_
      refine Zc ?_
      refine Zd ?_
      refine Za rfl rfl (Exec.assign (v := Value.bool (true)) rfl rfl ?_)
      refine Zb (Ze ?_)
      refine W_ret (at_ret ?_)
      have e110 := Zu hm
      subst r
      refine ⟨_, ret1 rfl, ?_⟩
      have hS120 := (hS119).drop
      have hS121 := (hS120).drop
      exact ⟨s112, (Zt (Zt (Zt l101 l103) l105) l108), hS121, rfl⟩
     ·refine W_cond_f rfl hc107 ?_
      replace hc107 := Zk hc107
      refine W_skip (Ze ?_)
      refine Zc ?_
      obtain ⟨z103, ht103, hm⟩ := Zg hm
      refine W_mid (M := fun f' w' => (fun (z103 : Bool) => ∃ (s113 : PHeap) , PHeap.le s112 s113 ∧ St w0 s113 (H) w' ∧ f' 4 = Value.bool (z103)) z103) ?_ ?_
      ·refine W_dl (n0 := 9) (.q 0 (.q 1 (.q 2 (.q 3 (.q 4 (.q 5 (.e 6 [3] (.e 7 [] (.q 8 .done))))))))) hmix (by kernel_rfl) (by kernel_rfl) ?_
       have hS122 := hS119.drew
       refine DL_q rfl rfl (Exec.move (v := errV 39 (y103)) rfl p106 ⟨rfl, ?_⟩)
       refine DL_q rfl rfl (Exec.err_eql_nil (T := 39) Try.underlying30 rfl rfl rfl ⟨rfl, ?_⟩)
       refine DL_q rfl rfl (Exec.move (v := Value.bool (y103.isNone)) rfl rfl ⟨rfl, ?_⟩)
       rcases ite_some ht103 with ⟨hc108, ht103⟩ | ⟨hc108, ht103⟩
       ·refine DL_qg rfl rfl (Zf rfl (congrArg Value.bool hc108)) (Exec.load_box_agg (ds := [Value.int .i64 (y104.States), Value.int .i64 (y104.Init), v100, v101, v102]) ((hS122).f1) A26 rfl p105 rfl ⟨rfl, ?_⟩)
        refine DL_qg rfl rfl (Zf rfl (congrArg Value.bool hc108)) (Exec.load_box_agg (ds := [v2, v4, v6, v8]) (hS122) A55 rfl p104 rfl ⟨rfl, ?_⟩)
        refine DL_qg rfl rfl (Zf rfl (congrArg Value.bool hc108)) (Exec.move (v := Value.int .i64 (v10)) rfl p103 ⟨rfl, ?_⟩)
        obtain ⟨y108, q106, ht103⟩ := Zg ht103
        refine DL_eg rfl rfl (Zf rfl (congrArg Value.bool hc108)) (Exec.call rfl rfl Try.func31 rfl N31 (Zi rfl (Zi rfl args_nil)) ((ref44_Atomic_sim q106 hS122 (a3.mono (Zt (Zt (Zt l101 l103) l105) l108)) (a5.mono (Zt (Zt (Zt l101 l103) l105) l108)) (a7.mono (Zt (Zt (Zt l101 l103) l105) l108)) (a9.mono (Zt (Zt (Zt l101 l103) l105) l108))).mono ?_))
        rintro _ w112 ⟨_, rfl, ⟨s114, v103, v104, v105, l109, hS123, rfl, r103, r104, r105⟩⟩
        refine ⟨_, rfl, ?_⟩
        refine ⟨(ag_cons (ag_g rfl rfl (Zf rfl (congrArg Value.bool hc108)) (Exec.load_box_agg (ds := [Value.int .i64 (y104.States), Value.int .i64 (y104.Init), v100, v101, v102]) ((hS123).f1) A26 rfl p105 rfl ⟨rfl, rfl⟩)) ag_nil), ?_⟩
        obtain ⟨y109, q107, ht103⟩ := Zg ht103
        refine DL_eg rfl rfl (Zf rfl (congrArg Value.bool hc108)) (Exec.call rfl rfl Try.func14 rfl N14 (Zi rfl (Zi rfl args_nil)) ((ref44_Same_sim q107 hS123 (r100.mono (Zt (Zt l105 l108) l109)) (r101.mono (Zt (Zt l105 l108) l109)) (r102.mono (Zt (Zt l105 l108) l109)) r103 r104 r105).mono ?_))
        rintro _ w113 ⟨_, rfl, ⟨s115, l110, hS124, rfl⟩⟩
        refine ⟨_, rfl, ?_⟩
        refine ⟨ag_nil, ?_⟩
        refine DL_q rfl rfl (Exec.pick_t (v := Value.bool (y109)) rfl (congrArg Value.bool hc108) rfl ⟨rfl, ?_⟩)
        refine DL_done ?_
        refine Za rfl rfl (Exec.assign (v := Value.bool (y109)) rfl rfl ?_)
        refine Zb (Ze ?_)
        have e111 := Zu ht103
        subst z103
        have hS125 := (hS124).drop
        have hS126 := (hS125).drop
        exact ⟨s115, (Zt l109 l110), hS126, rfl⟩
       ·replace hc108 := Zk hc108
        refine DL_qp rfl rfl (Zf rfl (congrArg Value.bool hc108)) rfl ?_
        refine DL_qp rfl rfl (Zf rfl (congrArg Value.bool hc108)) rfl ?_
        refine DL_qp rfl rfl (Zf rfl (congrArg Value.bool hc108)) rfl ?_
        refine DL_ep rfl rfl (Zf rfl (congrArg Value.bool hc108)) rfl ?_
        refine DL_ep rfl rfl (Zf rfl (congrArg Value.bool hc108)) rfl ?_
        refine DL_q rfl rfl (Exec.pick_f (v := Value.bool (false)) rfl (congrArg Value.bool hc108) rfl ⟨rfl, ?_⟩)
        refine DL_done ?_
        refine Za rfl rfl (Exec.assign (v := Value.bool (false)) rfl rfl ?_)
        refine Zb (Ze ?_)
        have e112 := Zu ht103
        subst z103
        have hS127 := (hS122).drop
        have hS128 := (hS127).drop
        exact ⟨s112, (PHeap.le_refl _), hS128, rfl⟩
      ·intro f103 w114 hM103
       obtain ⟨s116, l111, hS129, p109⟩ := hM103
       refine (Ze ?_)
       refine W_ret ?_
       have e113 := Zu hm
       subst r
       refine ⟨_, ret1 rfl, ?_⟩
       exact ⟨s116, (Zt (Zt (Zt (Zt l101 l103) l105) l108) l111), hS129, p109⟩

end Go.Pw
