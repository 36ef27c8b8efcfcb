/-
  The walks (printed by my generator).
-/
import Derived.Test.YtdhfofhginfdnaaWh0
import Derived.Test.YtdhfofhginfdnaaWhX
set_option maxRecDepth 100000
set_option maxHeartbeats 4000000
set_option linter.unusedVariables false
namespace Go.Pw
open Go.Proofs
theorem N12 : (Try.f12.name == "runtime.NumGoroutine") = false := by kernel_rfl
theorem transys_Product_sim {w0 w : World} {s : PHeap} {H : List Res} {a141 : System} {b148 : System} {v142 : Value} {v144 : Value} {v146 : Value} {v149 : Value} {v151 : Value} {v153 : Value} {r : (Option Int) × System} (hm : transys_Product_p a141 b148 = some r) (hS : St w0 s (H) w) (a143 : SliceRep (encInt .i64) s v142 a141.Costs) (a145 : SliceRep encEdge s v144 a141.Edges) (a147 : SliceRep encBool s v146 a141.Goals) (a150 : SliceRep (encInt .i64) s v149 b148.Costs) (a152 : SliceRep encEdge s v151 b148.Edges) (a154 : SliceRep encBool s v153 b148.Goals) :
  Calls Try.prog 12 #[Value.agg #[Value.int .i64 (a141.States), Value.int .i64 (a141.Init), v142, v144, v146], Value.agg #[Value.int .i64 (b148.States), Value.int .i64 (b148.Init), v149, v151, v153]] w fun e w' => ∃ v, e = .returned v ∧ ((un2 fun (y100 : (Option Int)) (y101 : System) => ∃ (s100 : PHeap) (v100 : Value) (v101 : Value) (v102 : Value), PHeap.le s s100 ∧ St w0 s100 (H) w' ∧ v = Value.tuple #[Value.agg #[Value.int .i64 (y101.States), Value.int .i64 (y101.Init), v100, v101, v102], errV 39 (y100)] ∧ SliceRep (encInt .i64) s100 v100 y101.Costs ∧ SliceRep encEdge s100 v101 y101.Edges ∧ SliceRep encBool s100 v102 y101.Goals) r) := by
 unfold transys_Product_p at hm
 refine calls_of_W Try.func12 rfl rfl (Zc (Zd (Za rfl rfl (Exec.box (cs := [Value.int .i64 (a141.States), Value.int .i64 (a141.Init), v142, v144, v146]) hS rfl rfl rfl ?_))))
 intro b100 w100 hS100
 refine Za rfl rfl (Exec.box (cs := [Value.int .i64 (b148.States), Value.int .i64 (b148.Init), v149, v151, v153]) hS100 rfl rfl rfl ?_)
 intro b101 w101 hS101
 refine Za rfl rfl (Exec.alloc (cs := [Value.int .i64 (0), Value.int .i64 (0), Value.slice none 0 0, Value.slice none 0 0, Value.slice none 0 0]) hS101 Z26 rfl rfl ?_)
 intro b102 w102 hS102
 refine Za rfl rfl (Zo (v := errV 39 (none)) rfl rfl (Zb (Ze (Zc (Zc ?_)))))
 obtain ⟨z100, ht100, hm⟩ := Zg hm
 refine W_mid (M := fun f' w' => (fun (z100 : Bool) => ∃ (s101 : PHeap) , PHeap.le s s101 ∧ St w0 s101 (Res.box b100 26 [Value.int .i64 (a141.States), Value.int .i64 (a141.Init), v142, v144, v146] :: Res.box b101 26 [Value.int .i64 (b148.States), Value.int .i64 (b148.Init), v149, v151, v153] :: Res.box b102 26 [Value.int .i64 (0), Value.int .i64 (0), Value.slice none 0 0, Value.slice none 0 0, Value.slice none 0 0] :: H) w' ∧ f' 2 = Value.pointer (some ⟨b100, 0, none⟩) ∧ f' 3 = Value.pointer (some ⟨b101, 0, none⟩) ∧ f' 4 = Value.pointer (some ⟨b102, 0, none⟩) ∧ f' 33 = Value.bool (z100)) z100) ?_ ?_
 ·refine Zd (Za rfl rfl (Exec.load_box_agg (ds := [Value.int .i64 (a141.States), Value.int .i64 (a141.Init), v142, v144, v146]) ((hS102).f2) A26 rfl rfl rfl ?_))
  obtain ⟨y102, q100, ht100⟩ := Zg ht100
  refine Za rfl rfl (Exec.call rfl rfl Try.func25 rfl N25 (Zi rfl args_nil) ((transys_Valid_sim q100 hS102 a143 a145 a147).mono ?_))
  rintro _ w103 ⟨_, rfl, ⟨s102, l100, hS103, rfl⟩⟩
  refine ⟨_, rfl, ?_⟩
  refine Za rfl rfl (Exec.not rfl rfl (Za rfl rfl (Zm (v := Value.bool (!y102)) rfl rfl ?_)))
  rcases ite_some ht100 with ⟨hc100, ht100⟩ | ⟨hc100, ht100⟩
  ·refine Zl rfl (Zf rfl (congrArg Value.bool hc100)) rfl rfl (Zl rfl (Zf rfl (congrArg Value.bool hc100)) rfl rfl (Zl rfl (Zf rfl (congrArg Value.bool hc100)) rfl rfl (Za rfl rfl (Zs (v := Value.bool (true)) rfl (congrArg Value.bool hc100) rfl (Za rfl rfl (Zm (v := Value.bool (true)) rfl rfl (Zl rfl (Zf rfl rfl) rfl rfl (Zl rfl (Zf rfl rfl) rfl rfl (Zl rfl (Zf rfl rfl) rfl rfl ?_)))))))))
   refine Zl rfl (Zf rfl rfl) rfl rfl (Zl rfl (Zf rfl rfl) rfl rfl (Zl rfl (Zf rfl rfl) rfl rfl (Za rfl rfl (Zs (v := Value.bool (true)) rfl rfl rfl (Zb (Ze ?_))))))
   have e100 := Zu ht100
   subst z100
   have hS104 := (hS103).f1
   have hS105 := (hS104).f2
   exact ⟨s102, l100, hS105, rfl, rfl, rfl, rfl⟩
  replace hc100 := Zk hc100
  refine WL_run rfl (Zf rfl (congrArg Value.bool hc100)) rfl (Exec.load_box_agg (ds := [Value.int .i64 (b148.States), Value.int .i64 (b148.Init), v149, v151, v153]) ((hS103).f1) A26 rfl rfl rfl ?_)
  obtain ⟨y103, q101, ht100⟩ := Zg ht100
  refine WL_run rfl (Zf rfl (congrArg Value.bool hc100)) rfl (Exec.call rfl rfl Try.func25 rfl N25 (Zi rfl args_nil) ((transys_Valid_sim q101 hS103 (a150.mono l100) (a152.mono l100) (a154.mono l100)).mono ?_))
  rintro _ w104 ⟨_, rfl, ⟨s103, l101, hS106, rfl⟩⟩
  refine ⟨_, rfl, ?_⟩
  refine WL_run rfl (Zf rfl (congrArg Value.bool hc100)) rfl (Exec.not rfl rfl (Za rfl rfl (Exec.pick_f (v := Value.bool (!y103)) rfl (congrArg Value.bool hc100) rfl (Za rfl rfl (Zm (v := Value.bool (!y103)) rfl rfl ?_)))))
  rcases ite_some ht100 with ⟨hc101, ht100⟩ | ⟨hc101, ht100⟩
  ·refine Zl rfl (Zf rfl (congrArg Value.bool hc101)) rfl rfl (Zl rfl (Zf rfl (congrArg Value.bool hc101)) rfl rfl (Zl rfl (Zf rfl (congrArg Value.bool hc101)) rfl rfl (Zl rfl (Zf rfl (congrArg Value.bool hc101)) rfl rfl (Zl rfl (Zf rfl (congrArg Value.bool hc101)) rfl rfl (Zl rfl (Zf rfl (congrArg Value.bool hc101)) rfl rfl (Za rfl rfl (Zs (v := Value.bool (true)) rfl (congrArg Value.bool hc101) rfl (Zb (Ze ?_)))))))))
   have e101 := Zu ht100
   subst z100
   have hS107 := (hS106).f1
   have hS108 := (hS107).f2
   exact ⟨s103, (Zt l100 l101), hS108, rfl, rfl, rfl, rfl⟩
  replace hc101 := Zk hc101
  refine WL_run rfl (Zf rfl (congrArg Value.bool hc101)) rfl (Zp F26_2 rfl rfl rfl (WL_run rfl (Zf rfl (congrArg Value.bool hc101)) rfl (Zn ((hS106).f2) A22 rfl rfl rfl (WL_run rfl (Zf rfl (congrArg Value.bool hc101)) rfl (Zp F26_2 rfl rfl rfl (WL_run rfl (Zf rfl (congrArg Value.bool hc101)) rfl (Zn ((hS106).f1) A22 rfl rfl rfl ?_)))))))
  obtain ⟨y104, q102, ht100⟩ := Zg ht100
  refine WL_run rfl (Zf rfl (congrArg Value.bool hc101)) rfl (Exec.call rfl rfl Try.func35 rfl N35 (Zi rfl (Zi rfl args_nil)) ((slices_Equal___int_int__sim q102 hS106 (a143.mono (Zt l100 l101)) (a150.mono (Zt l100 l101))).mono ?_))
  rintro _ w105 ⟨_, rfl, ⟨s104, l102, hS109, rfl⟩⟩
  refine ⟨_, rfl, ?_⟩
  refine WL_run rfl (Zf rfl (congrArg Value.bool hc101)) rfl (Exec.not rfl rfl (Za rfl rfl (Exec.pick_f (v := Value.bool (!y104)) rfl (congrArg Value.bool hc101) rfl (Zb (Ze ?_)))))
  have e102 := Zu ht100
  subst z100
  have hS110 := (hS109).f1
  have hS111 := (hS110).f2
  exact ⟨s104, (Zt (Zt l100 l101) l102), hS111, rfl, rfl, rfl, rfl⟩
 intro f100 w106 hM100
 obtain ⟨s105, l103, hS112, p100, p101, p102, p103⟩ := hM100
 refine (Ze ?_)
 rcases ite_some hm with ⟨hc102, hm⟩ | ⟨hc102, hm⟩
 ·refine W_cond_t p103 hc102 (Zc (Zd (Za rfl rfl (Exec.build rfl parts_nil (v := Value.agg #[Value.int .i64 (0), Value.int .i64 (0), Value.slice none 0 0, Value.slice none 0 0, Value.slice none 0 0]) (fun _ => by kernel_rfl) (Za rfl rfl (Exec.makeInterface C39 rfl rfl ?_))))))
  have hS113 := (hS112).f2
  refine Za rfl rfl (Exec.store_box (ds := [Value.int .i64 (0), Value.int .i64 (0), Value.slice none 0 0, Value.slice none 0 0, Value.slice none 0 0]) (es := [Value.int .i64 (0), Value.int .i64 (0), Value.slice none 0 0, Value.slice none 0 0, Value.slice none 0 0]) hS113 A26 rfl p102 rfl rfl (Zj rfl (Zj rfl (Zj rfl (Zj rfl (Zj rfl one_nil))))) (Nat.le_of_ble_eq_true rfl) rfl ?_)
  intro w107 hS114
  refine Za rfl rfl (Zo (v := errV 39 (some 2)) rfl rfl (Zb (Ze (W_ret (at_ret ?_)))))
  have e103 := Zu hm
  subst r
  refine ⟨_, retG2 rfl ⟨_, _, p102, cellRes (hS114) A26⟩ rfl, ?_⟩
  have hS115 := (hS114).drop
  have hS116 := (hS115).drop
  have hS117 := (hS116).drop
  exact ⟨s105, (Value.slice none 0 0), (Value.slice none 0 0), (Value.slice none 0 0), l103, hS117, (tup2 rfl rfl), (SliceRep.nil _ _), (SliceRep.nil _ _), (SliceRep.nil _ _)⟩
 refine W_cond_f p103 hc102 ?_
 replace hc102 := Zk hc102
 refine W_skip (Ze (Zc (Zc (Zd (Za rfl rfl (Zp F26_0 rfl p100 rfl (Za rfl rfl (Zn (hS112) A3 rfl rfl rfl (Za rfl rfl (Zp F26_0 rfl p101 rfl (Za rfl rfl (Zn ((hS112).f1) A3 rfl rfl rfl ?_))))))))))))
 refine Za rfl rfl (Exec.mul rfl rfl rfl (Za rfl rfl (Exec.gtr rfl rfl rfl (Zb (Ze ?_)))))
 rcases ite_some hm with ⟨hc103, hm⟩ | ⟨hc103, hm⟩
 ·refine W_cond_t rfl hc103 (Zc (Zd (Za rfl rfl (Exec.build rfl parts_nil (v := Value.agg #[Value.int .i64 (0), Value.int .i64 (0), Value.slice none 0 0, Value.slice none 0 0, Value.slice none 0 0]) (fun _ => by kernel_rfl) (Za rfl rfl (Exec.makeInterface C39 rfl rfl ?_))))))
  have hS118 := (hS112).f2
  refine Za rfl rfl (Exec.store_box (ds := [Value.int .i64 (0), Value.int .i64 (0), Value.slice none 0 0, Value.slice none 0 0, Value.slice none 0 0]) (es := [Value.int .i64 (0), Value.int .i64 (0), Value.slice none 0 0, Value.slice none 0 0, Value.slice none 0 0]) hS118 A26 rfl p102 rfl rfl (Zj rfl (Zj rfl (Zj rfl (Zj rfl (Zj rfl one_nil))))) (Nat.le_of_ble_eq_true rfl) rfl ?_)
  intro w108 hS119
  refine Za rfl rfl (Zo (v := errV 39 (some 5)) rfl rfl (Zb (Ze (W_ret (at_ret ?_)))))
  have e104 := Zu hm
  subst r
  refine ⟨_, retG2 rfl ⟨_, _, p102, cellRes (hS119) A26⟩ rfl, ?_⟩
  have hS120 := (hS119).drop
  have hS121 := (hS120).drop
  have hS122 := (hS121).drop
  exact ⟨s105, (Value.slice none 0 0), (Value.slice none 0 0), (Value.slice none 0 0), l103, hS122, (tup2 rfl rfl), (SliceRep.nil _ _), (SliceRep.nil _ _), (SliceRep.nil _ _)⟩
 refine W_cond_f rfl hc103 ?_
 replace hc103 := Zk hc103
 refine W_skip (Ze (Zc ?_))
 obtain ⟨y105, q103, hm⟩ := Zg hm
 refine W_mid (M := fun f' w' => ∃ (s106 : PHeap) (b103 : Nat) (v103 : Value), PHeap.le s105 s106 ∧ St w0 s106 (Res.box b100 26 [Value.int .i64 (a141.States), Value.int .i64 (a141.Init), v142, v144, v146] :: Res.box b101 26 [Value.int .i64 (b148.States), Value.int .i64 (b148.Init), v149, v151, v153] :: Res.box b102 26 [Value.int .i64 (0), Value.int .i64 (0), Value.slice none 0 0, Value.slice none 0 0, Value.slice none 0 0] :: Res.box b103 26 [Value.int .i64 (IntKind.i64.wrap (a141.States * b148.States)), Value.int .i64 (IntKind.i64.wrap ((IntKind.i64.wrap (a141.Init * b148.States)) + b148.Init)), v103, Value.slice none 0 0, Value.slice none 0 0] :: Res.arr (encInt .i64) 3 v103 y105 :: H) w' ∧ f' 2 = Value.pointer (some ⟨b100, 0, none⟩) ∧ f' 3 = Value.pointer (some ⟨b101, 0, none⟩) ∧ f' 4 = Value.pointer (some ⟨b102, 0, none⟩) ∧ f' 6 = Value.pointer (some ⟨b103, 0, none⟩)) ?_ ?_
 ·refine W_dl (n0 := 18) (.q 0 (.q 1 (.q 2 (.q 3 (.q 4 (.q 5 (.q 6 (.q 7 (.q 8 (.q 9 (.q 10 (.q 11 (.q 12 (.q 13 (.q 14 (.alt (.e 15 [0, 1, 2, 3, 4, 5, 6, 7, 8, 9, 10, 11, 12] (.q 16 (.e 17 [0, 1, 2, 3, 4, 5, 6, 7, 8, 9, 10, 11, 12, 16] .done))) (.e 17 [0, 1, 2, 3, 4, 5, 6, 7, 8, 9, 10, 11, 12, 13, 14] (.e 15 [0, 1, 2, 3, 4, 5, 6, 7, 8, 9, 10, 11, 12] (.q 16 .done))))))))))))))))))) hmix (by kernel_rfl) (by kernel_rfl) ?_
  have hS123 := hS112.drew
  refine DL_q rfl rfl (Zp F26_0 rfl p100 rfl ⟨rfl, ?_⟩)
  refine DL_q rfl rfl (Zn (hS123) A3 rfl rfl rfl ⟨rfl, ?_⟩)
  refine DL_q rfl rfl (Zp F26_0 rfl p101 rfl ⟨rfl, ?_⟩)
  refine DL_q rfl rfl (Zn ((hS123).f1) A3 rfl rfl rfl ⟨rfl, ?_⟩)
  refine DL_q rfl rfl (Exec.mul rfl rfl rfl ⟨rfl, ?_⟩)
  refine DL_q rfl rfl (Zp F26_1 rfl p100 rfl ⟨rfl, ?_⟩)
  refine DL_q rfl rfl (Zn (hS123) A3 rfl rfl rfl ⟨rfl, ?_⟩)
  refine DL_q rfl rfl (Zp F26_0 rfl p101 rfl ⟨rfl, ?_⟩)
  refine DL_q rfl rfl (Zn ((hS123).f1) A3 rfl rfl rfl ⟨rfl, ?_⟩)
  refine DL_q rfl rfl (Exec.mul rfl rfl rfl ⟨rfl, ?_⟩)
  refine DL_q rfl rfl (Zp F26_1 rfl p101 rfl ⟨rfl, ?_⟩)
  refine DL_q rfl rfl (Zn ((hS123).f1) A3 rfl rfl rfl ⟨rfl, ?_⟩)
  refine DL_q rfl rfl (Exec.add rfl rfl rfl ⟨rfl, ?_⟩)
  refine DL_q rfl rfl (Zp F26_2 rfl p100 rfl ⟨rfl, ?_⟩)
  refine DL_q rfl rfl (Zn (hS123) A22 rfl rfl rfl ⟨rfl, ?_⟩)
  refine DL_alt ?_ ?_
  ·refine DL_e rfl rfl (Exec.call rfl rfl Try.func36 rfl N36 (Zi rfl args_nil) ((slices_Clone___int_int__sim q103 hS123 (a143.mono l103)).mono ?_))
   rintro _ w109 ⟨v104, rfl, ⟨s107, _, l104, hS124, rfl⟩⟩
   refine ⟨_, rfl, ?_⟩
   refine ⟨(ag_cons (ag_r rfl rfl (Zp F26_0 rfl p100 rfl ⟨rfl, rfl⟩)) (ag_cons (ag_r rfl rfl (Zn ((hS124).f1) A3 rfl rfl rfl ⟨rfl, rfl⟩)) (ag_cons (ag_r rfl rfl (Zp F26_0 rfl p101 rfl ⟨rfl, rfl⟩)) (ag_cons (ag_r rfl rfl (Zn ((hS124).f2) A3 rfl rfl rfl ⟨rfl, rfl⟩)) (ag_cons (ag_r rfl rfl (Exec.mul rfl rfl rfl ⟨rfl, rfl⟩)) (ag_cons (ag_r rfl rfl (Zp F26_1 rfl p100 rfl ⟨rfl, rfl⟩)) (ag_cons (ag_r rfl rfl (Zn ((hS124).f1) A3 rfl rfl rfl ⟨rfl, rfl⟩)) (ag_cons (ag_r rfl rfl (Zp F26_0 rfl p101 rfl ⟨rfl, rfl⟩)) (ag_cons (ag_r rfl rfl (Zn ((hS124).f2) A3 rfl rfl rfl ⟨rfl, rfl⟩)) (ag_cons (ag_r rfl rfl (Exec.mul rfl rfl rfl ⟨rfl, rfl⟩)) (ag_cons (ag_r rfl rfl (Zp F26_1 rfl p101 rfl ⟨rfl, rfl⟩)) (ag_cons (ag_r rfl rfl (Zn ((hS124).f2) A3 rfl rfl rfl ⟨rfl, rfl⟩)) (ag_cons (ag_r rfl rfl (Exec.add rfl rfl rfl ⟨rfl, rfl⟩)) ag_nil))))))))))))), ?_⟩
   refine DL_q rfl rfl (Exec.build rfl (parts_cons (c := [Value.int .i64 (IntKind.i64.wrap (a141.States * b148.States))]) (cells_of rfl rfl) (parts_cons (c := [Value.int .i64 (IntKind.i64.wrap ((IntKind.i64.wrap (a141.Init * b148.States)) + b148.Init))]) (cells_of rfl rfl) (parts_cons (c := [v104]) (cells_of rfl (cells_one (hS124).arr_one)) parts_nil))) (v := Value.agg #[Value.int .i64 (IntKind.i64.wrap (a141.States * b148.States)), Value.int .i64 (IntKind.i64.wrap ((IntKind.i64.wrap (a141.Init * b148.States)) + b148.Init)), v104, Value.slice none 0 0, Value.slice none 0 0]) (fun _ => by kernel_rfl) ⟨rfl, ?_⟩)
   refine DL_e rfl rfl (Exec.alloc (cs := [Value.int .i64 (0), Value.int .i64 (0), Value.slice none 0 0, Value.slice none 0 0, Value.slice none 0 0]) hS124 Z26 rfl rfl ?_)
   intro b104 w110 hS125
   refine ⟨(ag_cons (ag_r rfl rfl (Zp F26_0 rfl p100 rfl ⟨rfl, rfl⟩)) (ag_cons (ag_r rfl rfl (Zn ((hS125).f2) A3 rfl rfl rfl ⟨rfl, rfl⟩)) (ag_cons (ag_r rfl rfl (Zp F26_0 rfl p101 rfl ⟨rfl, rfl⟩)) (ag_cons (ag_r rfl rfl (Zn ((hS125).f3) A3 rfl rfl rfl ⟨rfl, rfl⟩)) (ag_cons (ag_r rfl rfl (Exec.mul rfl rfl rfl ⟨rfl, rfl⟩)) (ag_cons (ag_r rfl rfl (Zp F26_1 rfl p100 rfl ⟨rfl, rfl⟩)) (ag_cons (ag_r rfl rfl (Zn ((hS125).f2) A3 rfl rfl rfl ⟨rfl, rfl⟩)) (ag_cons (ag_r rfl rfl (Zp F26_0 rfl p101 rfl ⟨rfl, rfl⟩)) (ag_cons (ag_r rfl rfl (Zn ((hS125).f3) A3 rfl rfl rfl ⟨rfl, rfl⟩)) (ag_cons (ag_r rfl rfl (Exec.mul rfl rfl rfl ⟨rfl, rfl⟩)) (ag_cons (ag_r rfl rfl (Zp F26_1 rfl p101 rfl ⟨rfl, rfl⟩)) (ag_cons (ag_r rfl rfl (Zn ((hS125).f3) A3 rfl rfl rfl ⟨rfl, rfl⟩)) (ag_cons (ag_r rfl rfl (Exec.add rfl rfl rfl ⟨rfl, rfl⟩)) (ag_cons (ag_r rfl rfl (Exec.build rfl (parts_cons (c := [Value.int .i64 (IntKind.i64.wrap (a141.States * b148.States))]) (cells_of rfl rfl) (parts_cons (c := [Value.int .i64 (IntKind.i64.wrap ((IntKind.i64.wrap (a141.Init * b148.States)) + b148.Init))]) (cells_of rfl rfl) (parts_cons (c := [v104]) (cells_of rfl (cells_one ((hS125).f1).arr_one)) parts_nil))) (v := Value.agg #[Value.int .i64 (IntKind.i64.wrap (a141.States * b148.States)), Value.int .i64 (IntKind.i64.wrap ((IntKind.i64.wrap (a141.Init * b148.States)) + b148.Init)), v104, Value.slice none 0 0, Value.slice none 0 0]) (fun _ => by kernel_rfl) ⟨rfl, rfl⟩)) ag_nil)))))))))))))), ?_⟩
   refine DL_done (Za rfl rfl (Exec.store_box (ds := [Value.int .i64 (IntKind.i64.wrap (a141.States * b148.States)), Value.int .i64 (IntKind.i64.wrap ((IntKind.i64.wrap (a141.Init * b148.States)) + b148.Init)), v104, Value.slice none 0 0, Value.slice none 0 0]) (es := [Value.int .i64 (IntKind.i64.wrap (a141.States * b148.States)), Value.int .i64 (IntKind.i64.wrap ((IntKind.i64.wrap (a141.Init * b148.States)) + b148.Init)), v104, Value.slice none 0 0, Value.slice none 0 0]) hS125 A26 rfl rfl rfl rfl (Zj rfl (Zj rfl (Zj ((hS125).f1).arr_one (Zj rfl (Zj rfl one_nil))))) (Nat.le_of_ble_eq_true rfl) rfl ?_))
   intro w111 hS126
   refine Zb (Ze ?_)
   have hS127 := (hS126).f1
   have hS128 := (hS127).f1
   have hS129 := (hS128).f4
   have hS130 := (hS129).f4
   have hS131 := (hS130).f4
   exact ⟨s107, b104, v104, l104, hS131, p100, p101, p102, rfl⟩
  refine DL_e rfl rfl (Exec.alloc (cs := [Value.int .i64 (0), Value.int .i64 (0), Value.slice none 0 0, Value.slice none 0 0, Value.slice none 0 0]) hS123 Z26 rfl rfl ?_)
  intro b105 w112 hS132
  refine ⟨(ag_cons (ag_r rfl rfl (Zp F26_0 rfl p100 rfl ⟨rfl, rfl⟩)) (ag_cons (ag_r rfl rfl (Zn ((hS132).f1) A3 rfl rfl rfl ⟨rfl, rfl⟩)) (ag_cons (ag_r rfl rfl (Zp F26_0 rfl p101 rfl ⟨rfl, rfl⟩)) (ag_cons (ag_r rfl rfl (Zn ((hS132).f2) A3 rfl rfl rfl ⟨rfl, rfl⟩)) (ag_cons (ag_r rfl rfl (Exec.mul rfl rfl rfl ⟨rfl, rfl⟩)) (ag_cons (ag_r rfl rfl (Zp F26_1 rfl p100 rfl ⟨rfl, rfl⟩)) (ag_cons (ag_r rfl rfl (Zn ((hS132).f1) A3 rfl rfl rfl ⟨rfl, rfl⟩)) (ag_cons (ag_r rfl rfl (Zp F26_0 rfl p101 rfl ⟨rfl, rfl⟩)) (ag_cons (ag_r rfl rfl (Zn ((hS132).f2) A3 rfl rfl rfl ⟨rfl, rfl⟩)) (ag_cons (ag_r rfl rfl (Exec.mul rfl rfl rfl ⟨rfl, rfl⟩)) (ag_cons (ag_r rfl rfl (Zp F26_1 rfl p101 rfl ⟨rfl, rfl⟩)) (ag_cons (ag_r rfl rfl (Zn ((hS132).f2) A3 rfl rfl rfl ⟨rfl, rfl⟩)) (ag_cons (ag_r rfl rfl (Exec.add rfl rfl rfl ⟨rfl, rfl⟩)) (ag_cons (ag_r rfl rfl (Zp F26_2 rfl p100 rfl ⟨rfl, rfl⟩)) (ag_cons (ag_r rfl rfl (Zn ((hS132).f1) A22 rfl rfl rfl ⟨rfl, rfl⟩)) ag_nil))))))))))))))), ?_⟩
  refine DL_e rfl rfl (Exec.call rfl rfl Try.func36 rfl N36 (Zi rfl args_nil) ((slices_Clone___int_int__sim q103 hS132 (a143.mono l103)).mono ?_))
  rintro _ w113 ⟨v105, rfl, ⟨s108, _, l105, hS133, rfl⟩⟩
  refine ⟨_, rfl, ?_⟩
  refine ⟨(ag_cons (ag_r rfl rfl (Zp F26_0 rfl p100 rfl ⟨rfl, rfl⟩)) (ag_cons (ag_r rfl rfl (Zn ((hS133).f2) A3 rfl rfl rfl ⟨rfl, rfl⟩)) (ag_cons (ag_r rfl rfl (Zp F26_0 rfl p101 rfl ⟨rfl, rfl⟩)) (ag_cons (ag_r rfl rfl (Zn ((hS133).f3) A3 rfl rfl rfl ⟨rfl, rfl⟩)) (ag_cons (ag_r rfl rfl (Exec.mul rfl rfl rfl ⟨rfl, rfl⟩)) (ag_cons (ag_r rfl rfl (Zp F26_1 rfl p100 rfl ⟨rfl, rfl⟩)) (ag_cons (ag_r rfl rfl (Zn ((hS133).f2) A3 rfl rfl rfl ⟨rfl, rfl⟩)) (ag_cons (ag_r rfl rfl (Zp F26_0 rfl p101 rfl ⟨rfl, rfl⟩)) (ag_cons (ag_r rfl rfl (Zn ((hS133).f3) A3 rfl rfl rfl ⟨rfl, rfl⟩)) (ag_cons (ag_r rfl rfl (Exec.mul rfl rfl rfl ⟨rfl, rfl⟩)) (ag_cons (ag_r rfl rfl (Zp F26_1 rfl p101 rfl ⟨rfl, rfl⟩)) (ag_cons (ag_r rfl rfl (Zn ((hS133).f3) A3 rfl rfl rfl ⟨rfl, rfl⟩)) (ag_cons (ag_r rfl rfl (Exec.add rfl rfl rfl ⟨rfl, rfl⟩)) ag_nil))))))))))))), ?_⟩
  refine DL_q rfl rfl (Exec.build rfl (parts_cons (c := [Value.int .i64 (IntKind.i64.wrap (a141.States * b148.States))]) (cells_of rfl rfl) (parts_cons (c := [Value.int .i64 (IntKind.i64.wrap ((IntKind.i64.wrap (a141.Init * b148.States)) + b148.Init))]) (cells_of rfl rfl) (parts_cons (c := [v105]) (cells_of rfl (cells_one (hS133).arr_one)) parts_nil))) (v := Value.agg #[Value.int .i64 (IntKind.i64.wrap (a141.States * b148.States)), Value.int .i64 (IntKind.i64.wrap ((IntKind.i64.wrap (a141.Init * b148.States)) + b148.Init)), v105, Value.slice none 0 0, Value.slice none 0 0]) (fun _ => by kernel_rfl) ⟨rfl, ?_⟩)
  refine DL_done ?_
  have hS134 := (hS133).f1
  refine Za rfl rfl (Exec.store_box (ds := [Value.int .i64 (IntKind.i64.wrap (a141.States * b148.States)), Value.int .i64 (IntKind.i64.wrap ((IntKind.i64.wrap (a141.Init * b148.States)) + b148.Init)), v105, Value.slice none 0 0, Value.slice none 0 0]) (es := [Value.int .i64 (IntKind.i64.wrap (a141.States * b148.States)), Value.int .i64 (IntKind.i64.wrap ((IntKind.i64.wrap (a141.Init * b148.States)) + b148.Init)), v105, Value.slice none 0 0, Value.slice none 0 0]) hS134 A26 rfl rfl rfl rfl (Zj rfl (Zj rfl (Zj ((hS134).f1).arr_one (Zj rfl (Zj rfl one_nil))))) (Nat.le_of_ble_eq_true rfl) rfl ?_)
  intro w114 hS135
  refine Zb (Ze ?_)
  have hS136 := (hS135).f1
  have hS137 := (hS136).f1
  have hS138 := (hS137).f4
  have hS139 := (hS138).f4
  have hS140 := (hS139).f4
  exact ⟨s108, b105, v105, l105, hS140, p100, p101, p102, rfl⟩
 intro f101 w115 hM101
 obtain ⟨s109, b103, v103, l106, hS141, p104, p105, p106, p107⟩ := hM101
 refine (Ze (Zc (Zc (Zd (Za rfl rfl (Zp F26_0 rfl p104 rfl (Za rfl rfl (Zn (hS141) A3 rfl rfl rfl (Za rfl rfl (Zm (v := Value.int .i64 (0)) rfl rfl (Zb (Ze ?_))))))))))))
 obtain ⟨u100, q104, hm⟩ := Zg hm
 obtain ⟨z101, hB100, hm⟩ := Zg hm
 refine W_block (W_forS (fun k' s' f' w' => (fun (z101 : (List Bool)) => ∃ (s110 : PHeap) (v106 : Value), PHeap.le s109 s110 ∧ St w0 s110 (Res.box b100 26 [Value.int .i64 (a141.States), Value.int .i64 (a141.Init), v142, v144, v146] :: Res.box b101 26 [Value.int .i64 (b148.States), Value.int .i64 (b148.Init), v149, v151, v153] :: Res.box b102 26 [Value.int .i64 (0), Value.int .i64 (0), Value.slice none 0 0, Value.slice none 0 0, Value.slice none 0 0] :: Res.box b103 26 [Value.int .i64 (IntKind.i64.wrap (a141.States * b148.States)), Value.int .i64 (IntKind.i64.wrap ((IntKind.i64.wrap (a141.Init * b148.States)) + b148.Init)), v103, Value.slice none 0 0, v106] :: Res.arr (encInt .i64) 3 v103 y105 :: Res.arr encBool 4 v106 z101 :: H) w' ∧ f' 2 = Value.pointer (some ⟨b100, 0, none⟩) ∧ f' 3 = Value.pointer (some ⟨b101, 0, none⟩) ∧ f' 4 = Value.pointer (some ⟨b102, 0, none⟩) ∧ f' 6 = Value.pointer (some ⟨b103, 0, none⟩) ∧ f' 62 = Value.int .i64 (a141.States) ∧ f' 63 = Value.int .i64 (k' : Int)) s') hB100 ?_ ?_ ?_)
 ·have hS142 := hS141.nilArr encBool 4
  have hS143 := (hS142).f5
  have hS144 := (hS143).f5
  have hS145 := (hS144).f5
  have hS146 := (hS145).f5
  have hS147 := (hS146).f5
  exact ⟨s109, (Value.slice none 0 0), (Zv _), hS147, p104, p105, p106, p107, rfl, rfl⟩
 ·intro i100 z101 s111 f102 w116 hi100 hI100 hm100
  obtain ⟨s112, v106, l107, hS148, p108, p109, p110, p111, p112, x100⟩ := hI100
  refine Zc (Zd (Za rfl rfl (Zq rfl x100 p112 (Zb (Ze (Zc (W_true (congrArg Value.bool (decide_eq_true (by omega))) (W_skip (Ze (Zc ?_))))))))))
  refine W_block (Zc (Zd (Za rfl rfl (Zm (v := Value.int .i64 ((i100 : Int))) rfl x100 (Za rfl rfl (Zo (v := Value.int .i64 ((i100 : Int))) rfl rfl (Zb (Ze (Zc (Zd ?_))))))))))
  refine Za rfl rfl (Zp F26_0 rfl p109 rfl (Za rfl rfl (Zn ((hS148).f1) A3 rfl rfl rfl (Za rfl rfl (Zm (v := Value.int .i64 (0)) rfl rfl (Zb (Ze ?_)))))))
  obtain ⟨u101, q105, hm100⟩ := Zg hm100
  obtain ⟨l108, hB101, hm100⟩ := Zg hm100
  refine W_block (W_forS (fun k' s' f' w' => (fun (l108 : (List Bool)) => ∃ (s113 : PHeap) (v107 : Value), PHeap.le s112 s113 ∧ St w0 s113 (Res.box b100 26 [Value.int .i64 (a141.States), Value.int .i64 (a141.Init), v142, v144, v146] :: Res.box b101 26 [Value.int .i64 (b148.States), Value.int .i64 (b148.Init), v149, v151, v153] :: Res.box b102 26 [Value.int .i64 (0), Value.int .i64 (0), Value.slice none 0 0, Value.slice none 0 0, Value.slice none 0 0] :: Res.box b103 26 [Value.int .i64 (IntKind.i64.wrap (a141.States * b148.States)), Value.int .i64 (IntKind.i64.wrap ((IntKind.i64.wrap (a141.Init * b148.States)) + b148.Init)), v103, Value.slice none 0 0, v107] :: Res.arr (encInt .i64) 3 v103 y105 :: Res.arr encBool 4 v107 l108 :: H) w' ∧ f' 2 = Value.pointer (some ⟨b100, 0, none⟩) ∧ f' 3 = Value.pointer (some ⟨b101, 0, none⟩) ∧ f' 4 = Value.pointer (some ⟨b102, 0, none⟩) ∧ f' 6 = Value.pointer (some ⟨b103, 0, none⟩) ∧ f' 7 = Value.int .i64 ((i100 : Int)) ∧ f' 62 = Value.int .i64 (a141.States) ∧ f' 63 = Value.int .i64 ((i100 : Int)) ∧ f' 67 = Value.int .i64 (b148.States) ∧ f' 68 = Value.int .i64 (k' : Int)) s') hB101 ?_ ?_ ?_)
  ·have hS149 := (hS148).f5
   have hS150 := (hS149).f5
   have hS151 := (hS150).f5
   have hS152 := (hS151).f5
   have hS153 := (hS152).f5
   have hS154 := (hS153).f5
   exact ⟨s112, v106, (Zv _), hS154, p108, p109, p110, p111, rfl, p112, x100, rfl, rfl⟩
  ·intro i101 l108 s114 f103 w117 hi101 hI101 hm101
   obtain ⟨s115, v107, l109, hS155, p113, p114, p115, p116, p117, p118, p119, p120, x101⟩ := hI101
   refine Zc (Zd (Za rfl rfl (Zq rfl x101 p120 (Zb (Ze (Zc (W_true (congrArg Value.bool (decide_eq_true (by omega))) (W_skip (Ze (Zc ?_))))))))))
   refine W_block (Zc (Zd (Za rfl rfl (Zm (v := Value.int .i64 ((i101 : Int))) rfl x101 (Za rfl rfl (Zo (v := Value.int .i64 ((i101 : Int))) rfl rfl (Zb (Ze ?_))))))))
   obtain ⟨l110, ht101, hm101⟩ := Zg hm101
   refine W_mid (M := fun f' w' => (fun (l110 : (List Bool)) => ∃ (s116 : PHeap) (v108 : Value), PHeap.le s115 s116 ∧ St w0 s116 (Res.box b100 26 [Value.int .i64 (a141.States), Value.int .i64 (a141.Init), v142, v144, v146] :: Res.box b101 26 [Value.int .i64 (b148.States), Value.int .i64 (b148.Init), v149, v151, v153] :: Res.box b102 26 [Value.int .i64 (0), Value.int .i64 (0), Value.slice none 0 0, Value.slice none 0 0, Value.slice none 0 0] :: Res.box b103 26 [Value.int .i64 (IntKind.i64.wrap (a141.States * b148.States)), Value.int .i64 (IntKind.i64.wrap ((IntKind.i64.wrap (a141.Init * b148.States)) + b148.Init)), v103, Value.slice none 0 0, v108] :: Res.arr (encInt .i64) 3 v103 y105 :: Res.arr encBool 4 v108 l110 :: H) w' ∧ f' 2 = Value.pointer (some ⟨b100, 0, none⟩) ∧ f' 3 = Value.pointer (some ⟨b101, 0, none⟩) ∧ f' 4 = Value.pointer (some ⟨b102, 0, none⟩) ∧ f' 6 = Value.pointer (some ⟨b103, 0, none⟩) ∧ f' 7 = Value.int .i64 ((i100 : Int)) ∧ f' 62 = Value.int .i64 (a141.States) ∧ f' 63 = Value.int .i64 ((i100 : Int)) ∧ f' 67 = Value.int .i64 (b148.States) ∧ f' 68 = Value.int .i64 ((i101 : Int))) l110) ?_ ?_
   ·refine W_dl (n0 := 16) (.q 0 (.q 1 (.q 2 (.q 3 (.q 4 (.q 5 (.q 6 (.q 7 (.q 8 (.q 9 (.q 10 (.q 11 (.q 12 (.q 13 (.e 14 [0, 1] (.e 15 [] .done)))))))))))))))) hmix (by kernel_rfl) (by kernel_rfl) ?_
    have hS156 := hS155.drew
    refine DL_q rfl rfl (Zp F26_4 rfl p116 rfl ⟨rfl, ?_⟩)
    refine DL_q rfl rfl (Zn ((hS156).f3) A24 rfl rfl rfl ⟨rfl, ?_⟩)
    refine DL_q rfl rfl (Zp F26_4 rfl p113 rfl ⟨rfl, ?_⟩)
    refine DL_q rfl rfl (Zn (hS156) A24 rfl rfl rfl ⟨rfl, ?_⟩)
    refine DL_q rfl rfl (Zm (v := Value.int .i64 ((i100 : Int))) rfl p117 ⟨rfl, ?_⟩)
    obtain ⟨x102, q106, ht101⟩ := Zg ht101
    refine DL_q rfl rfl (Exec.index_repE S24 rfl rfl rfl (a147.mono (Zt (Zt (Zt l103 l106) l107) l109)) q106 ?_)
    intro b106 o100 a100 e105
    refine ⟨rfl, ?_⟩
    refine DL_q rfl rfl (Zw (E := encBool) hS156 A4 rfl rfl rfl a100 ?_)
    intro v109 q107
    obtain rfl := encBool_val.1 q107
    refine ⟨rfl, ?_⟩
    refine DL_q rfl rfl (Zm (v := Value.bool (x102)) rfl rfl ⟨rfl, ?_⟩)
    rcases ite_some ht101 with ⟨hc104, ht101⟩ | ⟨hc104, ht101⟩
    ·refine DL_qg rfl rfl (Zf rfl (congrArg Value.bool hc104)) (Zp F26_4 rfl p114 rfl ⟨rfl, ?_⟩)
     refine DL_qg rfl rfl (Zf rfl (congrArg Value.bool hc104)) (Zn ((hS156).f1) A24 rfl rfl rfl ⟨rfl, ?_⟩)
     refine DL_qg rfl rfl (Zf rfl (congrArg Value.bool hc104)) (Zm (v := Value.int .i64 ((i101 : Int))) rfl rfl ⟨rfl, ?_⟩)
     obtain ⟨x103, q108, ht101⟩ := Zg ht101
     refine DL_qg rfl rfl (Zf rfl (congrArg Value.bool hc104)) (Exec.index_repE S24 rfl rfl rfl (a154.mono (Zt (Zt (Zt l103 l106) l107) l109)) q108 ?_)
     intro b107 o101 a101 e106
     refine ⟨rfl, ?_⟩
     refine DL_qg rfl rfl (Zf rfl (congrArg Value.bool hc104)) (Zw (E := encBool) hS156 A4 rfl rfl rfl a101 ?_)
     intro v110 q109
     obtain rfl := encBool_val.1 q109
     refine ⟨rfl, ?_⟩
     refine DL_q rfl rfl (Zs (v := Value.bool (x103)) rfl (congrArg Value.bool hc104) rfl ⟨rfl, ?_⟩)
     refine DL_e rfl rfl (Exec.buildSlice (Te := 4) (cs := [Value.bool (x103)]) hS156 rfl (parts_cons (c := [Value.bool (x103)]) (cells_of rfl rfl) parts_nil) (fun _ => by kernel_rfl) ?_)
     intro b108 w118 hS157
     refine ⟨(ag_cons (ag_r rfl rfl (Zp F26_4 rfl p116 rfl ⟨rfl, rfl⟩)) (ag_cons (ag_r rfl rfl (Zn ((hS157).f4) A24 rfl rfl rfl ⟨rfl, rfl⟩)) ag_nil)), ?_⟩
     obtain ⟨l111, q110, ht101⟩ := Zg ht101
     have hS158 := (hS157).f6
     refine DL_e rfl rfl (Exec.append_box (E := encBool) (ys := [x103]) hS158 S24 Z4 rfl (by decide) rfl rfl rfl rfl ⟨[Value.bool (x103)], [], rfl, rfl, rfl⟩ rfl q110 ?_)
     intro v111 w119 hS159
     refine ⟨ag_nil, ?_⟩
     refine DL_done (Za rfl rfl (Zp F26_4 rfl p116 rfl ?_))
     have hS160 := (hS159).f4
     refine Za rfl rfl (Exec.store_box (ds := [v111]) (es := [Value.int .i64 (IntKind.i64.wrap (a141.States * b148.States)), Value.int .i64 (IntKind.i64.wrap ((IntKind.i64.wrap (a141.Init * b148.States)) + b148.Init)), v103, Value.slice none 0 0, v111]) hS160 A24 rfl rfl rfl (cells_one ((hS160).f1).arr_one) (Zj ((hS160).f1).arr_one one_nil) (Nat.le_of_ble_eq_true rfl) rfl ?_)
     intro w120 hS161
     refine Zb (Ze ?_)
     have e107 := Zu ht101
     subst l110
     have hS162 := (hS161).f1
     have hS163 := (hS162).f5
     have hS164 := (hS163).f2
     have hS165 := (hS164).f5
     have hS166 := (hS165).f5
     have hS167 := (hS166).f5
     exact ⟨s115, v111, (Zv _), hS167, p113, p114, p115, p116, p117, p118, p119, p120, x101⟩
    replace hc104 := Zk hc104
    refine DL_qp rfl rfl (Zf rfl (congrArg Value.bool hc104)) rfl (DL_qp rfl rfl (Zf rfl (congrArg Value.bool hc104)) rfl (DL_qp rfl rfl (Zf rfl (congrArg Value.bool hc104)) rfl (DL_qp rfl rfl (Zf rfl (congrArg Value.bool hc104)) rfl (DL_qp rfl rfl (Zf rfl (congrArg Value.bool hc104)) rfl (DL_q rfl rfl (Exec.pick_f (v := Value.bool (false)) rfl (congrArg Value.bool hc104) rfl ⟨rfl, ?_⟩))))))
    refine DL_e rfl rfl (Exec.buildSlice (Te := 4) (cs := [Value.bool (false)]) hS156 rfl (parts_cons (c := [Value.bool (false)]) (cells_of rfl rfl) parts_nil) (fun _ => by kernel_rfl) ?_)
    intro b109 w121 hS168
    refine ⟨(ag_cons (ag_r rfl rfl (Zp F26_4 rfl p116 rfl ⟨rfl, rfl⟩)) (ag_cons (ag_r rfl rfl (Zn ((hS168).f4) A24 rfl rfl rfl ⟨rfl, rfl⟩)) ag_nil)), ?_⟩
    obtain ⟨l112, q111, ht101⟩ := Zg ht101
    have hS169 := (hS168).f6
    refine DL_e rfl rfl (Exec.append_box (E := encBool) (ys := [false]) hS169 S24 Z4 rfl (by decide) rfl rfl rfl rfl ⟨[Value.bool (false)], [], rfl, rfl, rfl⟩ rfl q111 ?_)
    intro v112 w122 hS170
    refine ⟨ag_nil, ?_⟩
    refine DL_done (Za rfl rfl (Zp F26_4 rfl p116 rfl ?_))
    have hS171 := (hS170).f4
    refine Za rfl rfl (Exec.store_box (ds := [v112]) (es := [Value.int .i64 (IntKind.i64.wrap (a141.States * b148.States)), Value.int .i64 (IntKind.i64.wrap ((IntKind.i64.wrap (a141.Init * b148.States)) + b148.Init)), v103, Value.slice none 0 0, v112]) hS171 A24 rfl rfl rfl (cells_one ((hS171).f1).arr_one) (Zj ((hS171).f1).arr_one one_nil) (Nat.le_of_ble_eq_true rfl) rfl ?_)
    intro w123 hS172
    refine Zb (Ze ?_)
    have e108 := Zu ht101
    subst l110
    have hS173 := (hS172).f1
    have hS174 := (hS173).f5
    have hS175 := (hS174).f2
    have hS176 := (hS175).f5
    have hS177 := (hS176).f5
    have hS178 := (hS177).f5
    exact ⟨s115, v112, (Zv _), hS178, p113, p114, p115, p116, p117, p118, p119, p120, x101⟩
   intro f104 w124 hM102
   obtain ⟨s117, v108, l113, hS179, p121, p122, p123, p124, p125, p126, p127, p128, p129⟩ := hM102
   refine (ib_normal (Ze (Zd (Za rfl rfl (Exec.add rfl p129 rfl (Za rfl rfl (Zm (v := Value.int .i64 (IntKind.i64.wrap ((i101 : Int) + 1))) rfl rfl (Zb (Ze ?_)))))))))
   have e109 := Zu hm101
   subst s114
   have hS180 := (hS179).f5
   have hS181 := (hS180).f5
   have hS182 := (hS181).f5
   have hS183 := (hS182).f5
   have hS184 := (hS183).f5
   have hS185 := (hS184).f5
   exact ⟨s117, v108, (Zt l109 l113), hS185, p121, p122, p123, p124, p125, p126, p127, p128, (Eq.trans rfl (wrap_up hi101 (by have h := must_some q105; simp at h; simp only [maxLen]; omega)))⟩
  intro f105 w125 hI102
  obtain ⟨s118, v107, l114, hS186, p130, p131, p132, p133, p134, p135, p136, p137, x104⟩ := hI102
  refine Zc (Zd (Za rfl rfl (Zq rfl x104 p137 (Zb (Ze (Zc (W_false (congrArg Value.bool (decide_eq_false (by omega))) (W_exit (at_exit (at_exit (ib_here (ib_normal (Ze (Zd ?_))))))))))))))
  refine Za rfl rfl (Exec.add rfl p136 rfl (Za rfl rfl (Zm (v := Value.int .i64 (IntKind.i64.wrap ((i100 : Int) + 1))) rfl rfl (Zb (Ze ?_)))))
  have e110 := Zu hm100
  subst s111
  have hS187 := (hS186).f5
  have hS188 := (hS187).f5
  have hS189 := (hS188).f5
  have hS190 := (hS189).f5
  have hS191 := (hS190).f5
  have hS192 := (hS191).f5
  exact ⟨s118, v107, (Zt l107 l114), hS192, p130, p131, p132, p133, p135, (Eq.trans rfl (wrap_up hi100 (by have h := must_some q104; simp at h; simp only [maxLen]; omega)))⟩
 intro f106 w126 hI103
 obtain ⟨s119, v106, l115, hS193, p138, p139, p140, p141, p142, x105⟩ := hI103
 refine Zc (Zd (Za rfl rfl (Zq rfl x105 p142 (Zb (Ze (Zc (W_false (congrArg Value.bool (decide_eq_false (by omega))) (W_exit (at_exit (at_exit (ib_here (Ze (Zc ?_)))))))))))))
 refine W_dl (n0 := 5) (.q 0 (.q 2 (.e 1 [2] (.e 3 [] (.q 4 .done))))) hmix (by kernel_rfl) (by kernel_rfl) ?_
 have hS194 := hS193.drew
 refine DL_q rfl rfl (Exec.load_box_agg (ds := [Value.int .i64 (a141.States), Value.int .i64 (a141.Init), v142, v144, v146]) (hS194) A26 rfl p138 rfl ⟨rfl, ?_⟩)
 refine DL_q rfl rfl (Exec.load_box_agg (ds := [Value.int .i64 (b148.States), Value.int .i64 (b148.Init), v149, v151, v153]) ((hS194).f1) A26 rfl p139 rfl ⟨rfl, ?_⟩)
 obtain ⟨y106, q112, hm⟩ := Zg hm
 refine DL_e rfl rfl (Exec.call rfl rfl Try.func37 rfl N37 (Zi rfl args_nil) ((transys_labelled_sim q112 hS194 (a143.mono (Zt (Zt l103 l106) l115)) (a145.mono (Zt (Zt l103 l106) l115)) (a147.mono (Zt (Zt l103 l106) l115))).mono ?_))
 rintro _ w127 ⟨v113, rfl, ⟨s120, _, l116, hS195, rfl, r100⟩⟩
 refine ⟨_, rfl, ?_⟩
 refine ⟨(ag_cons (ag_r rfl rfl (Exec.load_box_agg (ds := [Value.int .i64 (b148.States), Value.int .i64 (b148.Init), v149, v151, v153]) ((hS195).f1) A26 rfl p139 rfl ⟨rfl, rfl⟩)) ag_nil), ?_⟩
 obtain ⟨y107, q113, hm⟩ := Zg hm
 refine DL_e rfl rfl (Exec.call rfl rfl Try.func37 rfl N37 (Zi rfl args_nil) ((transys_labelled_sim q113 hS195 (a150.mono (Zt (Zt (Zt l103 l106) l115) l116)) (a152.mono (Zt (Zt (Zt l103 l106) l115) l116)) (a154.mono (Zt (Zt (Zt l103 l106) l115) l116))).mono ?_))
 rintro _ w128 ⟨v114, rfl, ⟨s121, _, l117, hS196, rfl, r101⟩⟩
 refine ⟨_, rfl, ?_⟩
 refine ⟨ag_nil, ?_⟩
 refine DL_q rfl rfl (Zo (v := v113) rfl rfl ⟨rfl, ?_⟩)
 refine DL_done (Za rfl rfl (Zo (v := v114) rfl rfl (Zb (Ze (Zc (Zd (Za rfl rfl (Zo (v := Value.int .i64 (0)) rfl rfl (Zb (Ze (Zc ?_)))))))))))
 refine Zc (Zd (Za rfl rfl (Zm (v := v113) rfl rfl (Za rfl rfl (Zr S63 rfl rfl (r100.mono l117) (Za rfl rfl (Zm (v := Value.int .i64 (0)) rfl rfl (Zb (Ze ?_)))))))))
 obtain ⟨many100, hB102, hm⟩ := Zg hm
 refine W_block (W_forS (fun k' s' f' w' => (fun (many100 : Int) => ∃ (s122 : PHeap) , PHeap.le s121 s122 ∧ St w0 s122 (Res.box b101 26 [Value.int .i64 (b148.States), Value.int .i64 (b148.Init), v149, v151, v153] :: Res.box b102 26 [Value.int .i64 (0), Value.int .i64 (0), Value.slice none 0 0, Value.slice none 0 0, Value.slice none 0 0] :: Res.box b103 26 [Value.int .i64 (IntKind.i64.wrap (a141.States * b148.States)), Value.int .i64 (IntKind.i64.wrap ((IntKind.i64.wrap (a141.Init * b148.States)) + b148.Init)), v103, Value.slice none 0 0, v106] :: Res.arr (encInt .i64) 3 v103 y105 :: Res.arr encBool 4 v106 z101 :: H) w' ∧ f' 3 = Value.pointer (some ⟨b101, 0, none⟩) ∧ f' 4 = Value.pointer (some ⟨b102, 0, none⟩) ∧ f' 6 = Value.pointer (some ⟨b103, 0, none⟩) ∧ f' 9 = v113 ∧ f' 10 = v114 ∧ f' 11 = Value.int .i64 (many100) ∧ f' 95 = Value.int .i64 ((y106.length : Int)) ∧ f' 96 = Value.int .i64 (k' : Int)) s') hB102 ?_ ?_ ?_)
 ·have hS197 := (hS196).drop
  have hS198 := (hS197).f4
  have hS199 := (hS198).f4
  have hS200 := (hS199).f4
  have hS201 := (hS200).f4
  have hS202 := (hS201).f4
  exact ⟨s121, (Zv _), hS202, p139, p140, p141, rfl, rfl, rfl, rfl, rfl⟩
 ·intro i102 many100 s123 f107 w129 hi102 hI104 hm102
  obtain ⟨s124, l118, hS203, p143, p144, p145, p146, p147, p148, p149, x106⟩ := hI104
  refine Zc (Zd (Za rfl rfl (Zq rfl x106 p149 (Zb (Ze (Zc (W_true (congrArg Value.bool (decide_eq_true (by omega))) (W_skip (Ze (Zc ?_))))))))))
  refine W_block (Zc (Zd (Za rfl rfl (Zm (v := Value.int .i64 ((i102 : Int))) rfl x106 (Za rfl rfl (Zo (v := Value.int .i64 ((i102 : Int))) rfl rfl (Zb (Ze (W_dl (n0 := 13) (.q 0 (.q 1 (.q 2 (.q 3 (.q 4 (.q 5 (.q 6 (.q 7 (.q 8 (.q 9 (.q 10 (.q 11 (.q 12 .done))))))))))))) hmix (by kernel_rfl) (by kernel_rfl) ?_)))))))))
  have hS204 := hS203.drew
  refine DL_q rfl rfl (Zm (v := Value.int .i64 (many100)) rfl p148 ⟨rfl, ?_⟩)
  refine DL_q rfl rfl (Zm (v := v113) rfl p146 ⟨rfl, ?_⟩)
  refine DL_q rfl rfl (Zm (v := Value.int .i64 ((i102 : Int))) rfl rfl ⟨rfl, ?_⟩)
  obtain ⟨x107, q114, hm102⟩ := Zg hm102
  refine DL_q rfl rfl (Exec.index_repE S63 rfl rfl rfl (r100.mono (Zt l117 l118)) q114 ?_)
  intro b110 o102 a102 e111
  refine ⟨rfl, ?_⟩
  refine DL_q rfl rfl (Zw (E := (encSlice encEdge)) hS204 A23 rfl rfl rfl a102 ?_)
  intro v115 q115
  have r102 := encSlice_val.1 q115
  refine ⟨rfl, ?_⟩
  refine DL_q rfl rfl (Zr S23 rfl rfl r102 ⟨rfl, ?_⟩)
  refine DL_q rfl rfl (Zm (v := v114) rfl p147 ⟨rfl, ?_⟩)
  refine DL_q rfl rfl (Zm (v := Value.int .i64 ((i102 : Int))) rfl rfl ⟨rfl, ?_⟩)
  obtain ⟨x108, q116, hm102⟩ := Zg hm102
  refine DL_q rfl rfl (Exec.index_repE S63 rfl rfl rfl (r101.mono l118) q116 ?_)
  intro b111 o103 a103 e112
  refine ⟨rfl, ?_⟩
  refine DL_q rfl rfl (Zw (E := (encSlice encEdge)) hS204 A23 rfl rfl rfl a103 ?_)
  intro v116 q117
  have r103 := encSlice_val.1 q117
  refine ⟨rfl, ?_⟩
  refine DL_q rfl rfl (Zr S23 rfl rfl r103 ⟨rfl, ?_⟩)
  refine DL_q rfl rfl (Exec.mul rfl rfl rfl ⟨rfl, ?_⟩)
  refine DL_q rfl rfl (Exec.add rfl rfl rfl ⟨rfl, ?_⟩)
  refine DL_done (Za rfl rfl (Zo (v := Value.int .i64 (IntKind.i64.wrap (many100 + (IntKind.i64.wrap ((x107.length : Int) * (x108.length : Int)))))) rfl rfl (Zb (ib_normal (Ze (Zd (Za rfl rfl (Exec.add rfl x106 rfl (Za rfl rfl (Zm (v := Value.int .i64 (IntKind.i64.wrap ((i102 : Int) + 1))) rfl rfl (Zb (Ze ?_))))))))))))
  have e113 := Zu hm102
  subst s123
  have hS205 := (hS204).f4
  have hS206 := (hS205).f4
  have hS207 := (hS206).f4
  have hS208 := (hS207).f4
  have hS209 := (hS208).f4
  exact ⟨s124, l118, hS209, p143, p144, p145, p146, p147, rfl, p149, (Eq.trans rfl (wrap_up hi102 (SliceRep.le (r100.mono l117))))⟩
 intro f108 w130 hI105
 obtain ⟨s125, l119, hS210, p150, p151, p152, p153, p154, p155, p156, x109⟩ := hI105
 refine Zc (Zd (Za rfl rfl (Zq rfl x109 p156 (Zb (Ze (Zc (W_false (congrArg Value.bool (decide_eq_false (by omega))) (W_exit (at_exit (at_exit (ib_here (Ze (Zc ?_)))))))))))))
 refine Zc (Zd (Za rfl rfl (Zm (v := Value.int .i64 (many100)) rfl p155 (Za rfl rfl (Exec.gtr rfl rfl rfl (Zb (Ze ?_)))))))
 rcases ite_some hm with ⟨hc105, hm⟩ | ⟨hc105, hm⟩
 ·refine W_cond_t rfl hc105 (Zc (Zd (Za rfl rfl (Exec.build rfl parts_nil (v := Value.agg #[Value.int .i64 (0), Value.int .i64 (0), Value.slice none 0 0, Value.slice none 0 0, Value.slice none 0 0]) (fun _ => by kernel_rfl) (Za rfl rfl (Exec.makeInterface C39 rfl rfl ?_))))))
  have hS211 := (hS210).f1
  refine Za rfl rfl (Exec.store_box (ds := [Value.int .i64 (0), Value.int .i64 (0), Value.slice none 0 0, Value.slice none 0 0, Value.slice none 0 0]) (es := [Value.int .i64 (0), Value.int .i64 (0), Value.slice none 0 0, Value.slice none 0 0, Value.slice none 0 0]) hS211 A26 rfl p151 rfl rfl (Zj rfl (Zj rfl (Zj rfl (Zj rfl (Zj rfl one_nil))))) (Nat.le_of_ble_eq_true rfl) rfl ?_)
  intro w131 hS212
  refine Za rfl rfl (Zo (v := errV 39 (some 5)) rfl rfl (Zb (Ze (W_ret (at_ret ?_)))))
  have e114 := Zu hm
  subst r
  refine ⟨_, retG2 rfl ⟨_, _, p151, cellRes (hS212) A26⟩ rfl, ?_⟩
  have hS213 := (hS212).drop
  have hS214 := (hS213).drop
  have hS215 := (hS214).drop
  have hS216 := (hS215).drop
  have hS217 := (hS216).drop
  exact ⟨s125, (Value.slice none 0 0), (Value.slice none 0 0), (Value.slice none 0 0), (Zt (Zt (Zt (Zt (Zt l103 l106) l115) l116) l117) l119), hS217, (tup2 rfl rfl), (SliceRep.nil _ _), (SliceRep.nil _ _), (SliceRep.nil _ _)⟩
 refine W_cond_f rfl hc105 ?_
 replace hc105 := Zk hc105
 refine W_skip (Ze (Zc (Zc (Zd (Za rfl rfl (Zm (v := v113) rfl p153 (Za rfl rfl (Zr S63 rfl rfl (r100.mono (Zt l117 l119)) (Za rfl rfl (Zm (v := Value.int .i64 (0)) rfl rfl (Zb (Ze ?_))))))))))))
 obtain ⟨z102, hB103, hm⟩ := Zg hm
 refine W_block (W_forS (fun k' s' f' w' => (fun (z102 : (List Edge)) => ∃ (s126 : PHeap) (v117 : Value), PHeap.le s125 s126 ∧ St w0 s126 (Res.box b101 26 [Value.int .i64 (b148.States), Value.int .i64 (b148.Init), v149, v151, v153] :: Res.box b102 26 [Value.int .i64 (0), Value.int .i64 (0), Value.slice none 0 0, Value.slice none 0 0, Value.slice none 0 0] :: Res.box b103 26 [Value.int .i64 (IntKind.i64.wrap (a141.States * b148.States)), Value.int .i64 (IntKind.i64.wrap ((IntKind.i64.wrap (a141.Init * b148.States)) + b148.Init)), v103, v117, v106] :: Res.arr (encInt .i64) 3 v103 y105 :: Res.arr encEdge 66 v117 z102 :: Res.arr encBool 4 v106 z101 :: H) w' ∧ f' 3 = Value.pointer (some ⟨b101, 0, none⟩) ∧ f' 4 = Value.pointer (some ⟨b102, 0, none⟩) ∧ f' 6 = Value.pointer (some ⟨b103, 0, none⟩) ∧ f' 9 = v113 ∧ f' 10 = v114 ∧ f' 118 = Value.int .i64 ((y106.length : Int)) ∧ f' 119 = Value.int .i64 (k' : Int)) s') hB103 ?_ ?_ ?_)
 ·have hS218 := hS210.nilArr encEdge 66
  have hS219 := (hS218).f5
  have hS220 := (hS219).f1
  have hS221 := (hS220).f5
  have hS222 := (hS221).f5
  have hS223 := (hS222).f5
  have hS224 := (hS223).f5
  exact ⟨s125, (Value.slice none 0 0), (Zv _), hS224, p150, p151, p152, p153, p154, rfl, rfl⟩
 ·intro i103 z102 s127 f109 w132 hi103 hI106 hm103
  obtain ⟨s128, v117, l120, hS225, p157, p158, p159, p160, p161, p162, x110⟩ := hI106
  refine Zc (Zd (Za rfl rfl (Zq rfl x110 p162 (Zb (Ze (Zc (W_true (congrArg Value.bool (decide_eq_true (by omega))) (W_skip (Ze (Zc ?_))))))))))
  refine W_block (Zc (Zd (Za rfl rfl (Zm (v := Value.int .i64 ((i103 : Int))) rfl x110 (Za rfl rfl (Zo (v := Value.int .i64 ((i103 : Int))) rfl rfl (Zb (Ze (Zc (Zd ?_))))))))))
  refine Za rfl rfl (Zm (v := v113) rfl p160 (Za rfl rfl (Zm (v := Value.int .i64 ((i103 : Int))) rfl rfl ?_)))
  obtain ⟨x111, q118, hm103⟩ := Zg hm103
  refine Za rfl rfl (Exec.index_rep S63 rfl rfl rfl (r100.mono (Zt (Zt l117 l119) l120)) q118 ?_)
  intro b112 o104 a104
  refine Za rfl rfl (Zw (E := (encSlice encEdge)) hS225 A23 rfl rfl rfl a104 ?_)
  intro v118 q119
  have r104 := encSlice_val.1 q119
  refine Za rfl rfl (Zr S23 rfl rfl r104 (Za rfl rfl (Zm (v := Value.int .i64 (0)) rfl rfl (Zb (Ze ?_)))))
  obtain ⟨l121, hB104, hm103⟩ := Zg hm103
  refine W_block (W_forS (fun k' s' f' w' => (fun (l121 : (List Edge)) => ∃ (s129 : PHeap) (v119 : Value), PHeap.le s128 s129 ∧ St w0 s129 (Res.box b101 26 [Value.int .i64 (b148.States), Value.int .i64 (b148.Init), v149, v151, v153] :: Res.box b102 26 [Value.int .i64 (0), Value.int .i64 (0), Value.slice none 0 0, Value.slice none 0 0, Value.slice none 0 0] :: Res.box b103 26 [Value.int .i64 (IntKind.i64.wrap (a141.States * b148.States)), Value.int .i64 (IntKind.i64.wrap ((IntKind.i64.wrap (a141.Init * b148.States)) + b148.Init)), v103, v119, v106] :: Res.arr (encInt .i64) 3 v103 y105 :: Res.arr encEdge 66 v119 l121 :: Res.arr encBool 4 v106 z101 :: H) w' ∧ f' 3 = Value.pointer (some ⟨b101, 0, none⟩) ∧ f' 4 = Value.pointer (some ⟨b102, 0, none⟩) ∧ f' 6 = Value.pointer (some ⟨b103, 0, none⟩) ∧ f' 9 = v113 ∧ f' 10 = v114 ∧ f' 13 = Value.int .i64 ((i103 : Int)) ∧ f' 118 = Value.int .i64 ((y106.length : Int)) ∧ f' 119 = Value.int .i64 ((i103 : Int)) ∧ f' 125 = v118 ∧ f' 126 = Value.int .i64 ((x111.length : Int)) ∧ f' 127 = Value.int .i64 (k' : Int)) s') hB104 ?_ ?_ ?_)
  ·have hS226 := (hS225).f5
   have hS227 := (hS226).f5
   have hS228 := (hS227).f5
   have hS229 := (hS228).f5
   have hS230 := (hS229).f5
   have hS231 := (hS230).f5
   exact ⟨s128, v117, (Zv _), hS231, p157, p158, p159, p160, p161, rfl, p162, x110, rfl, rfl, rfl⟩
  ·intro i104 l121 s130 f110 w133 hi104 hI107 hm104
   obtain ⟨s131, v119, l122, hS232, p163, p164, p165, p166, p167, p168, p169, p170, p171, p172, x112⟩ := hI107
   refine Zc (Zd (Za rfl rfl (Zq rfl x112 p172 (Zb (Ze (Zc (W_true (congrArg Value.bool (decide_eq_true (by omega))) (W_skip (Ze (Zc ?_))))))))))
   refine W_block (Zc (Zd ?_))
   obtain ⟨x113, q120, hm104⟩ := Zg hm104
   refine Za rfl rfl (Exec.index_rep S23 rfl p171 x112 (r104.mono l122) q120 ?_)
   intro b113 o105 a105
   refine Za rfl rfl (Zw (E := encEdge) hS232 A66 rfl rfl rfl a105 ?_)
   intro v120 q121
   obtain rfl := encEdge_val.1 q121
   refine Za rfl rfl (Exec.alloc (cs := [Value.int .i64 (0), Value.int .i64 (0), Value.int .i64 (0)]) hS232 Z66 rfl rfl ?_)
   intro b114 w134 hS233
   refine Za rfl rfl (Exec.store_box (ds := [Value.int .i64 (x113.From), Value.int .i64 (x113.Label), Value.int .i64 (x113.To)]) (es := [Value.int .i64 (x113.From), Value.int .i64 (x113.Label), Value.int .i64 (x113.To)]) hS233 A66 rfl rfl rfl rfl (Zj rfl (Zj rfl (Zj rfl one_nil))) (Nat.le_of_ble_eq_true rfl) rfl ?_)
   intro w135 hS234
   refine Zb (Ze (Zc (Zd (Za rfl rfl (Zm (v := v114) rfl p167 (Za rfl rfl (Zm (v := Value.int .i64 ((i103 : Int))) rfl p168 ?_)))))))
   obtain ⟨x114, q122, hm104⟩ := Zg hm104
   refine Za rfl rfl (Exec.index_rep S63 rfl rfl rfl (r101.mono (Zt (Zt l119 l120) l122)) q122 ?_)
   intro b115 o106 a106
   refine Za rfl rfl (Zw (E := (encSlice encEdge)) hS234 A23 rfl rfl rfl a106 ?_)
   intro v121 q123
   have r105 := encSlice_val.1 q123
   refine Za rfl rfl (Zr S23 rfl rfl r105 (Za rfl rfl (Zm (v := Value.int .i64 (0)) rfl rfl (Zb (Ze ?_)))))
   obtain ⟨l123, hB105, hm104⟩ := Zg hm104
   refine W_block (W_forS (fun k' s' f' w' => (fun (l123 : (List Edge)) => ∃ (s132 : PHeap) (v122 : Value), PHeap.le s131 s132 ∧ St w0 s132 (Res.box b101 26 [Value.int .i64 (b148.States), Value.int .i64 (b148.Init), v149, v151, v153] :: Res.box b102 26 [Value.int .i64 (0), Value.int .i64 (0), Value.slice none 0 0, Value.slice none 0 0, Value.slice none 0 0] :: Res.box b103 26 [Value.int .i64 (IntKind.i64.wrap (a141.States * b148.States)), Value.int .i64 (IntKind.i64.wrap ((IntKind.i64.wrap (a141.Init * b148.States)) + b148.Init)), v103, v122, v106] :: Res.box b114 66 [Value.int .i64 (x113.From), Value.int .i64 (x113.Label), Value.int .i64 (x113.To)] :: Res.arr (encInt .i64) 3 v103 y105 :: Res.arr encEdge 66 v122 l123 :: Res.arr encBool 4 v106 z101 :: H) w' ∧ f' 3 = Value.pointer (some ⟨b101, 0, none⟩) ∧ f' 4 = Value.pointer (some ⟨b102, 0, none⟩) ∧ f' 6 = Value.pointer (some ⟨b103, 0, none⟩) ∧ f' 9 = v113 ∧ f' 10 = v114 ∧ f' 13 = Value.int .i64 ((i103 : Int)) ∧ f' 15 = Value.pointer (some ⟨b114, 0, none⟩) ∧ f' 118 = Value.int .i64 ((y106.length : Int)) ∧ f' 119 = Value.int .i64 ((i103 : Int)) ∧ f' 125 = v118 ∧ f' 126 = Value.int .i64 ((x111.length : Int)) ∧ f' 127 = Value.int .i64 ((i104 : Int)) ∧ f' 134 = v121 ∧ f' 135 = Value.int .i64 ((x114.length : Int)) ∧ f' 136 = Value.int .i64 (k' : Int)) s') hB105 ?_ ?_ ?_)
   ·have hS235 := (hS234).f6
    have hS236 := (hS235).f6
    have hS237 := (hS236).f6
    have hS238 := (hS237).f3
    have hS239 := (hS238).f6
    have hS240 := (hS239).f6
    have hS241 := (hS240).f6
    exact ⟨s131, v119, (Zv _), hS241, p163, p164, p165, p166, p167, p168, rfl, p169, p170, p171, p172, x112, rfl, rfl, rfl⟩
   ·intro i105 l123 s133 f111 w136 hi105 hI108 hm105
    obtain ⟨s134, v122, l124, hS242, p173, p174, p175, p176, p177, p178, p179, p180, p181, p182, p183, p184, p185, p186, x115⟩ := hI108
    refine Zc (Zd (Za rfl rfl (Zq rfl x115 p186 (Zb (Ze (Zc (W_true (congrArg Value.bool (decide_eq_true (by omega))) (W_skip (Ze (Zc ?_))))))))))
    refine W_block (Zc (Zd ?_))
    obtain ⟨x116, q124, hm105⟩ := Zg hm105
    refine Za rfl rfl (Exec.index_rep S23 rfl p185 x115 (r105.mono l124) q124 ?_)
    intro b116 o107 a107
    refine Za rfl rfl (Zw (E := encEdge) hS242 A66 rfl rfl rfl a107 ?_)
    intro v123 q125
    obtain rfl := encEdge_val.1 q125
    refine Za rfl rfl (Exec.alloc (cs := [Value.int .i64 (0), Value.int .i64 (0), Value.int .i64 (0)]) hS242 Z66 rfl rfl ?_)
    intro b117 w137 hS243
    refine Za rfl rfl (Exec.store_box (ds := [Value.int .i64 (x116.From), Value.int .i64 (x116.Label), Value.int .i64 (x116.To)]) (es := [Value.int .i64 (x116.From), Value.int .i64 (x116.Label), Value.int .i64 (x116.To)]) hS243 A66 rfl rfl rfl rfl (Zj rfl (Zj rfl (Zj rfl one_nil))) (Nat.le_of_ble_eq_true rfl) rfl ?_)
    intro w138 hS244
    refine Zb (Ze (Zd (Za rfl rfl (Zp F26_3 rfl p175 rfl (Za rfl rfl (Zn ((hS244).f3) A23 rfl rfl rfl (Za rfl rfl (Zp F66_0 rfl p179 rfl (Za rfl rfl (Zn ((hS244).f4) A3 rfl rfl rfl (Za rfl rfl (Zp F26_0 rfl p173 rfl (Za rfl rfl (Zn ((hS244).f1) A3 rfl rfl rfl ?_))))))))))))))
    refine Za rfl rfl (Exec.mul rfl rfl rfl (Za rfl rfl (Zp F66_0 rfl rfl rfl (Za rfl rfl (Zn (hS244) A3 rfl rfl rfl (Za rfl rfl (Exec.add rfl rfl rfl (Za rfl rfl (Zm (v := Value.int .i64 ((i103 : Int))) rfl p178 (Za rfl rfl (Zp F66_2 rfl p179 rfl (Za rfl rfl (Zn ((hS244).f4) A3 rfl rfl rfl (Za rfl rfl (Zp F26_0 rfl p173 rfl ?_)))))))))))))))
    refine Za rfl rfl (Zn ((hS244).f1) A3 rfl rfl rfl (Za rfl rfl (Exec.mul rfl rfl rfl (Za rfl rfl (Zp F66_2 rfl rfl rfl (Za rfl rfl (Zn (hS244) A3 rfl rfl rfl (Za rfl rfl (Exec.add rfl rfl rfl (Za rfl rfl (Exec.build rfl (parts_cons (c := [Value.int .i64 (IntKind.i64.wrap ((IntKind.i64.wrap (x113.From * b148.States)) + x116.From))]) (cells_of rfl rfl) (parts_cons (c := [Value.int .i64 ((i103 : Int))]) (cells_of rfl rfl) (parts_cons (c := [Value.int .i64 (IntKind.i64.wrap ((IntKind.i64.wrap (x113.To * b148.States)) + x116.To))]) (cells_of rfl rfl) parts_nil))) (v := Value.agg #[Value.int .i64 (IntKind.i64.wrap ((IntKind.i64.wrap (x113.From * b148.States)) + x116.From)), Value.int .i64 ((i103 : Int)), Value.int .i64 (IntKind.i64.wrap ((IntKind.i64.wrap (x113.To * b148.States)) + x116.To))]) (fun _ => by kernel_rfl) (Za rfl rfl (Exec.buildSlice (Te := 66) (cs := [Value.int .i64 (IntKind.i64.wrap ((IntKind.i64.wrap (x113.From * b148.States)) + x116.From)), Value.int .i64 ((i103 : Int)), Value.int .i64 (IntKind.i64.wrap ((IntKind.i64.wrap (x113.To * b148.States)) + x116.To))]) hS244 rfl (parts_cons (c := [Value.int .i64 (IntKind.i64.wrap ((IntKind.i64.wrap (x113.From * b148.States)) + x116.From)), Value.int .i64 ((i103 : Int)), Value.int .i64 (IntKind.i64.wrap ((IntKind.i64.wrap (x113.To * b148.States)) + x116.To))]) (cells_of rfl rfl) parts_nil) (fun _ => by kernel_rfl) ?_)))))))))))))
    intro b118 w139 hS245
    obtain ⟨l125, q126, hm105⟩ := Zg hm105
    have hS246 := (hS245).f7
    refine Za rfl rfl (Exec.append_box (E := encEdge) (ys := [(⟨IntKind.i64.wrap ((IntKind.i64.wrap (x113.From * b148.States)) + x116.From), (i103 : Int), IntKind.i64.wrap ((IntKind.i64.wrap (x113.To * b148.States)) + x116.To)⟩ : Edge)]) hS246 S23 Z66 rfl (by decide) rfl rfl rfl rfl ⟨[Value.int .i64 (IntKind.i64.wrap ((IntKind.i64.wrap (x113.From * b148.States)) + x116.From)), Value.int .i64 ((i103 : Int)), Value.int .i64 (IntKind.i64.wrap ((IntKind.i64.wrap (x113.To * b148.States)) + x116.To))], [], rfl, ⟨[Value.int .i64 (IntKind.i64.wrap ((IntKind.i64.wrap (x113.From * b148.States)) + x116.From))], [Value.int .i64 ((i103 : Int)), Value.int .i64 (IntKind.i64.wrap ((IntKind.i64.wrap (x113.To * b148.States)) + x116.To))], rfl, rfl, ⟨[Value.int .i64 ((i103 : Int))], [Value.int .i64 (IntKind.i64.wrap ((IntKind.i64.wrap (x113.To * b148.States)) + x116.To))], rfl, rfl, rfl⟩⟩, rfl⟩ rfl q126 ?_)
    intro v124 w140 hS247
    refine Za rfl rfl (Zp F26_3 rfl p175 rfl ?_)
    have hS248 := (hS247).f4
    refine Za rfl rfl (Exec.store_box (ds := [v124]) (es := [Value.int .i64 (IntKind.i64.wrap (a141.States * b148.States)), Value.int .i64 (IntKind.i64.wrap ((IntKind.i64.wrap (a141.Init * b148.States)) + b148.Init)), v103, v124, v106]) hS248 A23 rfl rfl rfl (cells_one ((hS248).f1).arr_one) (Zj ((hS248).f1).arr_one one_nil) (Nat.le_of_ble_eq_true rfl) rfl ?_)
    intro w141 hS249
    refine Zb (ib_normal (Ze (Zd (Za rfl rfl (Exec.add rfl x115 rfl (Za rfl rfl (Zm (v := Value.int .i64 (IntKind.i64.wrap ((i105 : Int) + 1))) rfl rfl (Zb (Ze ?_)))))))))
    have e115 := Zu hm105
    subst s133
    have hS250 := ((hS249).f2).drop
    have hS251 := (hS250).f6
    have hS252 := (hS251).f2
    have hS253 := (hS252).f6
    have hS254 := (hS253).f6
    have hS255 := (hS254).f4
    have hS256 := (hS255).f6
    have hS257 := (hS256).f6
    exact ⟨s134, v124, l124, hS257, p173, p174, p175, p176, p177, p178, p179, p180, p181, p182, p183, p184, p185, p186, (Eq.trans rfl (wrap_up hi105 (SliceRep.le r105)))⟩
   intro f112 w142 hI109
   obtain ⟨s135, v122, l126, hS258, p187, p188, p189, p190, p191, p192, p193, p194, p195, p196, p197, p198, p199, p200, x117⟩ := hI109
   refine Zc (Zd (Za rfl rfl (Zq rfl x117 p200 (Zb (Ze (Zc (W_false (congrArg Value.bool (decide_eq_false (by omega))) (W_exit (at_exit (at_exit (ib_here (ib_normal (Ze (Zd ?_))))))))))))))
   refine Za rfl rfl (Exec.add rfl p198 rfl (Za rfl rfl (Zm (v := Value.int .i64 (IntKind.i64.wrap ((i104 : Int) + 1))) rfl rfl (Zb (Ze ?_)))))
   have e116 := Zu hm104
   subst s130
   have hS259 := ((hS258).f3).drop
   have hS260 := (hS259).f5
   have hS261 := (hS260).f5
   have hS262 := (hS261).f5
   have hS263 := (hS262).f5
   have hS264 := (hS263).f5
   have hS265 := (hS264).f5
   exact ⟨s135, v122, (Zt l122 l126), hS265, p187, p188, p189, p190, p191, p192, p194, p195, p196, p197, (Eq.trans rfl (wrap_up hi104 (SliceRep.le r104)))⟩
  intro f113 w143 hI110
  obtain ⟨s136, v119, l127, hS266, p201, p202, p203, p204, p205, p206, p207, p208, p209, p210, x118⟩ := hI110
  refine Zc (Zd (Za rfl rfl (Zq rfl x118 p210 (Zb (Ze (Zc (W_false (congrArg Value.bool (decide_eq_false (by omega))) (W_exit (at_exit (at_exit (ib_here (ib_normal (Ze (Zd ?_))))))))))))))
  refine Za rfl rfl (Exec.add rfl p208 rfl (Za rfl rfl (Zm (v := Value.int .i64 (IntKind.i64.wrap ((i103 : Int) + 1))) rfl rfl (Zb (Ze ?_)))))
  have e117 := Zu hm103
  subst s127
  have hS267 := (hS266).f5
  have hS268 := (hS267).f5
  have hS269 := (hS268).f5
  have hS270 := (hS269).f5
  have hS271 := (hS270).f5
  have hS272 := (hS271).f5
  exact ⟨s136, v119, (Zt l120 l127), hS272, p201, p202, p203, p204, p205, p207, (Eq.trans rfl (wrap_up hi103 (SliceRep.le (r100.mono (Zt l117 l119)))))⟩
 intro f114 w144 hI111
 obtain ⟨s137, v117, l128, hS273, p211, p212, p213, p214, p215, p216, x119⟩ := hI111
 refine Zc (Zd (Za rfl rfl (Zq rfl x119 p216 (Zb (Ze (Zc (W_false (congrArg Value.bool (decide_eq_false (by omega))) (W_exit (at_exit (at_exit (ib_here (Ze (Zc ?_)))))))))))))
 refine Zd (Za rfl rfl (Zp F26_3 rfl p213 rfl (Za rfl rfl (Zn ((hS273).f2) A23 rfl rfl rfl ?_))))
 obtain ⟨l129, q127, hm⟩ := Zg hm
 have hS274 := (hS273).f4
 refine Za rfl rfl (Exec.call rfl rfl Try.func38 rfl N38 (Zi rfl (Zi rfl args_nil)) ((sortEdges_sim q127 hS274 ).mono ?_))
 rintro _ w145 ⟨_, rfl, ⟨s138, l130, hS275, rfl⟩⟩
 refine ⟨_, rfl, ?_⟩
 refine Zb (Ze (Zc (Zd (Za rfl rfl (Exec.load_box_agg (ds := [Value.int .i64 (IntKind.i64.wrap (a141.States * b148.States)), Value.int .i64 (IntKind.i64.wrap ((IntKind.i64.wrap (a141.Init * b148.States)) + b148.Init)), v103, v117, v106]) ((hS275).f3) A26 rfl p213 rfl ?_)))))
 have hS276 := (hS275).f2
 refine Za rfl rfl (Exec.store_box (ds := [Value.int .i64 (IntKind.i64.wrap (a141.States * b148.States)), Value.int .i64 (IntKind.i64.wrap ((IntKind.i64.wrap (a141.Init * b148.States)) + b148.Init)), v103, v117, v106]) (es := [Value.int .i64 (IntKind.i64.wrap (a141.States * b148.States)), Value.int .i64 (IntKind.i64.wrap ((IntKind.i64.wrap (a141.Init * b148.States)) + b148.Init)), v103, v117, v106]) hS276 A26 rfl p212 rfl rfl (Zj rfl (Zj rfl (Zj ((hS276).f4).arr_one (Zj ((hS276).f1).arr_one (Zj ((hS276).f5).arr_one one_nil))))) (Nat.le_of_ble_eq_true rfl) rfl ?_)
 intro w146 hS277
 refine Za rfl rfl (Zo (v := errV 39 (none)) rfl rfl (Zb (Ze (W_ret ?_))))
 have e118 := Zu hm
 subst r
 refine ⟨_, retG2 rfl ⟨_, _, p212, cellRes (hS277) A26⟩ rfl, ?_⟩
 have hS278 := (hS277).f4
 obtain ⟨s139, l131, hS279, r106⟩ := hS278.freezeArr
 have hS280 := (hS279).f1
 obtain ⟨s140, l132, hS281, r107⟩ := hS280.freezeArr
 have hS282 := (hS281).f3
 obtain ⟨s141, l133, hS283, r108⟩ := hS282.freezeArr
 have hS284 := (hS283).drop
 have hS285 := (hS284).drop
 have hS286 := (hS285).drop
 exact ⟨s141, v103, v117, v106, (Zt (Zt (Zt (Zt (Zt (Zt (Zt (Zt (Zt (Zt l103 l106) l115) l116) l117) l119) l128) l130) l131) l132) l133), hS286, (tup2 rfl rfl), (r106.mono (Zt l132 l133)), (r107.mono l133), r108⟩
theorem N43 : (Try.f43.name == "runtime.NumGoroutine") = false := by kernel_rfl
theorem transys_goals_sim {w0 w : World} {s : PHeap} {H : List Res} {x100 : System} {v100 : Value} {v101 : Value} {v102 : Value} {r : (List Int)} (hm : transys_goals_p x100 = some r) (hS : St w0 s (H) w) (a100 : SliceRep (encInt .i64) s v100 x100.Costs) (a101 : SliceRep encEdge s v101 x100.Edges) (a102 : SliceRep encBool s v102 x100.Goals) :
  Calls Try.prog 43 #[Value.agg #[Value.int .i64 (x100.States), Value.int .i64 (x100.Init), v100, v101, v102]] w fun e w' => ∃ v, e = .returned v ∧ ((fun (y100 : (List Int)) => ∃ (s100 : PHeap) (v103 : Value), PHeap.le s s100 ∧ St w0 s100 (H) w' ∧ v = v103 ∧ SliceRep (encInt .i64) s100 v103 y100) r) := by
 unfold transys_goals_p at hm
 refine calls_of_W Try.func43 rfl rfl (Zc (Zd (Za rfl rfl (Exec.box (cs := [Value.int .i64 (x100.States), Value.int .i64 (x100.Init), v100, v101, v102]) hS rfl rfl rfl ?_))))
 intro b100 w100 hS100
 refine Za rfl rfl (Zo (v := Value.slice none 0 0) rfl rfl (Zb (Ze (Zc (Zd (Za rfl rfl (Zo (v := Value.slice none 0 0) rfl rfl (Zb (Ze (Zc (Zc ?_)))))))))))
 refine Zd (Za rfl rfl (Zp F26_4 rfl rfl rfl (Za rfl rfl (Zn (hS100) A24 rfl rfl rfl (Za rfl rfl (Zr S24 rfl rfl a102 (Za rfl rfl (Zm (v := Value.int .i64 (0)) rfl rfl (Zb (Ze ?_))))))))))
 obtain ⟨out100, hB100, hm⟩ := Zg hm
 refine W_block (W_forS (fun k' s' f' w' => (fun (out100 : (List Int)) => ∃ (s101 : PHeap) (v104 : Value), PHeap.le s s101 ∧ St w0 s101 (Res.arr (encInt .i64) 3 v104 out100 :: H) w' ∧ f' 3 = v104 ∧ f' 7 = v102 ∧ f' 8 = Value.int .i64 ((x100.Goals.length : Int)) ∧ f' 9 = Value.int .i64 (k' : Int)) s') hB100 ?_ ?_ ?_)
 ·have hS101 := hS100.nilArr (encInt .i64) 3
  have hS102 := ((hS101).f1).drop
  exact ⟨s, (Value.slice none 0 0), (Zv _), hS102, rfl, rfl, rfl, rfl⟩
 ·intro i100 out100 s102 f100 w101 hi100 hI100 hm100
  obtain ⟨s103, v104, l100, hS103, p100, p101, p102, x101⟩ := hI100
  refine Zc (Zd (Za rfl rfl (Zq rfl x101 p102 (Zb (Ze (Zc (W_true (congrArg Value.bool (decide_eq_true (by omega))) (W_skip (Ze (Zc ?_))))))))))
  refine W_block (Zc (Zd (Za rfl rfl (Zm (v := Value.int .i64 ((i100 : Int))) rfl x101 ?_))))
  obtain ⟨x102, q100, hm100⟩ := Zg hm100
  refine Za rfl rfl (Exec.index_rep S24 rfl p101 x101 (a102.mono l100) q100 ?_)
  intro b101 o100 a103
  refine Za rfl rfl (Zw (E := encBool) hS103 A4 rfl rfl rfl a103 ?_)
  intro v105 q101
  obtain rfl := encBool_val.1 q101
  refine Za rfl rfl (Zo (v := Value.int .i64 ((i100 : Int))) rfl rfl (Za rfl rfl (Zo (v := Value.bool (x102)) rfl rfl (Zb (Ze (Zc (Zd (Za rfl rfl (Zm (v := Value.bool (x102)) rfl rfl (Zb (Ze ?_)))))))))))
  obtain ⟨l101, ht100, hm100⟩ := Zg hm100
  refine W_mid (M := fun f' w' => (fun (l101 : (List Int)) => ∃ (s104 : PHeap) (v106 : Value), PHeap.le s103 s104 ∧ St w0 s104 (Res.arr (encInt .i64) 3 v106 l101 :: H) w' ∧ f' 3 = v106 ∧ f' 7 = v102 ∧ f' 8 = Value.int .i64 ((x100.Goals.length : Int)) ∧ f' 9 = Value.int .i64 ((i100 : Int))) l101) ?_ ?_
  ·rcases ite_some ht100 with ⟨hc100, ht100⟩ | ⟨hc100, ht100⟩
   ·refine W_cond_t rfl hc100 (Zd (Za rfl rfl (Zm (v := v104) rfl p100 (Za rfl rfl (Zm (v := Value.int .i64 ((i100 : Int))) rfl rfl (Za rfl rfl (Exec.buildSlice (Te := 3) (cs := [Value.int .i64 ((i100 : Int))]) hS103 rfl (parts_cons (c := [Value.int .i64 ((i100 : Int))]) (cells_of rfl rfl) parts_nil) (fun _ => by kernel_rfl) ?_)))))))
    intro b102 w102 hS104
    obtain ⟨l102, q102, ht100⟩ := Zg ht100
    have hS105 := (hS104).f1
    refine Za rfl rfl (Exec.append_box (E := (encInt .i64)) (ys := [(i100 : Int)]) hS105 S22 Z3 rfl (by decide) rfl rfl rfl rfl ⟨[Value.int .i64 ((i100 : Int))], [], rfl, rfl, rfl⟩ rfl q102 ?_)
    intro v107 w103 hS106
    refine Za rfl rfl (Zo (v := v107) rfl rfl (Zb (Ze ?_)))
    have e100 := Zu ht100
    subst l101
    exact ⟨s103, v107, (Zv _), hS106, rfl, p101, p102, x101⟩
   refine W_cond_f rfl hc100 ?_
   replace hc100 := Zk hc100
   refine W_skip (Ze ?_)
   have e101 := Zu ht100
   subst l101
   exact ⟨s103, v104, (Zv _), hS103, p100, p101, p102, x101⟩
  intro f101 w104 hM100
  obtain ⟨s105, v106, l103, hS107, p103, p104, p105, p106⟩ := hM100
  refine (ib_normal (Ze (Zd (Za rfl rfl (Exec.add rfl p106 rfl (Za rfl rfl (Zm (v := Value.int .i64 (IntKind.i64.wrap ((i100 : Int) + 1))) rfl rfl (Zb (Ze ?_)))))))))
  have e102 := Zu hm100
  subst s102
  exact ⟨s105, v106, (Zt l100 l103), hS107, p103, p104, p105, (Eq.trans rfl (wrap_up hi100 (SliceRep.le a102)))⟩
 intro f102 w105 hI101
 obtain ⟨s106, v104, l104, hS108, p107, p108, p109, x103⟩ := hI101
 refine Zc (Zd (Za rfl rfl (Zq rfl x103 p109 (Zb (Ze (Zc (W_false (congrArg Value.bool (decide_eq_false (by omega))) (W_exit (at_exit (at_exit (ib_here (Ze (Zc ?_)))))))))))))
 refine Zd (Za rfl rfl (Zm (v := v104) rfl p107 (Za rfl rfl (Zo (v := v104) rfl rfl (Zb (Ze (W_ret ?_)))))))
 have e103 := Zu hm
 subst r
 refine ⟨_, ret1 rfl, ?_⟩
 obtain ⟨s107, l105, hS109, r100⟩ := hS108.freezeArr
 exact ⟨s107, v104, (Zt l104 l105), hS109, rfl, r100⟩
theorem S99 : tySlice Try.prog 99 = some (102, 1, 24) := by kernel_rfl
theorem Z102 : tyZero Try.prog 102 = some (Value.slice none 0 0) := by kernel_rfl
theorem Z101 : tyZero Try.prog 101 = some (Value.agg #[Value.int .i64 (0), Value.int .i64 (0), Value.int .i64 (0)]) := by kernel_rfl
theorem A101 : tyAgg Try.prog 101 = some (true, 3) := by kernel_rfl
theorem F101_1 : tyField Try.prog 101 1 = some 1 := by kernel_rfl
theorem F101_0 : tyField Try.prog 101 0 = some 0 := by kernel_rfl
theorem A102 : tyAgg Try.prog 102 = some (false, 1) := by kernel_rfl
theorem S102 : tySlice Try.prog 102 = some (101, 3, 24) := by kernel_rfl
theorem F101_2 : tyField Try.prog 101 2 = some 2 := by kernel_rfl
theorem N42 : (Try.f42.name == "runtime.NumGoroutine") = false := by kernel_rfl
theorem transys_shortest_sim {w0 w : World} {s : PHeap} {H : List Res} {x100 : System} {from_100 : (List Int)} {back100 : Bool} {v100 : Value} {v101 : Value} {v102 : Value} {v103 : Value} {r : (List Int)} (hm : transys_shortest_p x100 from_100 back100 = some r) (hS : St w0 s (H) w) (a100 : SliceRep (encInt .i64) s v100 x100.Costs) (a101 : SliceRep encEdge s v101 x100.Edges) (a102 : SliceRep encBool s v102 x100.Goals) (a103 : SliceRep (encInt .i64) s v103 from_100) :
  Calls Try.prog 42 #[Value.agg #[Value.int .i64 (x100.States), Value.int .i64 (x100.Init), v100, v101, v102], v103, Value.bool (back100)] w fun e w' => ∃ v, e = .returned v ∧ ((fun (y100 : (List Int)) => ∃ (s100 : PHeap) (v104 : Value), PHeap.le s s100 ∧ St w0 s100 (H) w' ∧ v = v104 ∧ SliceRep (encInt .i64) s100 v104 y100) r) := by
 unfold transys_shortest_p at hm
 refine calls_of_W Try.func42 rfl rfl (Zc (Zd (Za rfl rfl (Exec.box (cs := [Value.int .i64 (x100.States), Value.int .i64 (x100.Init), v100, v101, v102]) hS rfl rfl rfl ?_))))
 intro b100 w100 hS100
 refine Za rfl rfl (Zo (v := Value.slice none 0 0) rfl rfl (Zb (Ze (Zc (Zd (Za rfl rfl (Zp F26_0 rfl rfl rfl (Za rfl rfl (Zn (hS100) A3 rfl rfl rfl ?_)))))))))
 obtain ⟨l100, q100, hm⟩ := Zg hm
 refine Za rfl rfl (Exec.make_grid (F := encArc) (T2 := 101) hS100 S99 Z102 rfl rfl rfl q100 ?_)
 intro v105 hs100 w101 hS101
 refine Za rfl rfl (Zo (v := v105) rfl rfl (Zb (Ze (Zc (Zc (Zd (Za rfl rfl (Zp F26_3 rfl rfl rfl (Za rfl rfl (Zn ((hS101).f2) A23 rfl rfl rfl (Za rfl rfl (Zr S23 rfl rfl a101 ?_))))))))))))
 refine Za rfl rfl (Zm (v := Value.int .i64 (0)) rfl rfl (Zb (Ze ?_)))
 obtain ⟨l101, hB100, hm⟩ := Zg hm
 refine W_block (W_forS (fun k' s' f' w' => (fun (l101 : (List (List Arc))) => ∃ (s101 : PHeap) (hs101 : List Value), PHeap.le s s101 ∧ St w0 s101 (Res.box b100 26 [Value.int .i64 (x100.States), Value.int .i64 (x100.Init), v100, v101, v102] :: Res.arr encRaw 102 v105 hs101 :: Res.rows encArc 101 hs101 l101 :: H) w' ∧ f' 1 = v103 ∧ f' 2 = Value.bool (back100) ∧ f' 3 = Value.pointer (some ⟨b100, 0, none⟩) ∧ f' 7 = v105 ∧ f' 24 = v101 ∧ f' 25 = Value.int .i64 ((x100.Edges.length : Int)) ∧ f' 26 = Value.int .i64 (k' : Int)) s') hB100 ?_ ?_ ?_)
 ·have hS102 := (hS101).f2
  exact ⟨s, hs100, (Zv _), hS102, rfl, rfl, rfl, rfl, rfl, rfl, rfl⟩
 ·intro i100 l101 s102 f100 w102 hi100 hI100 hm100
  obtain ⟨s103, hs101, l102, hS103, p100, p101, p102, p103, p104, p105, x101⟩ := hI100
  refine Zc (Zd (Za rfl rfl (Zq rfl x101 p105 (Zb (Ze (Zc (W_true (congrArg Value.bool (decide_eq_true (by omega))) (W_skip (Ze (Zc ?_))))))))))
  refine W_block (Zc (Zd ?_))
  obtain ⟨x102, q101, hm100⟩ := Zg hm100
  refine Za rfl rfl (Exec.index_rep S23 rfl p104 x101 (a101.mono l102) q101 ?_)
  intro b101 o100 a104
  refine Za rfl rfl (Zw (E := encEdge) hS103 A66 rfl rfl rfl a104 ?_)
  intro v106 q102
  obtain rfl := encEdge_val.1 q102
  refine Za rfl rfl (Exec.alloc (cs := [Value.int .i64 (0), Value.int .i64 (0), Value.int .i64 (0)]) hS103 Z66 rfl rfl ?_)
  intro b102 w103 hS104
  refine Za rfl rfl (Exec.store_box (ds := [Value.int .i64 (x102.From), Value.int .i64 (x102.Label), Value.int .i64 (x102.To)]) (es := [Value.int .i64 (x102.From), Value.int .i64 (x102.Label), Value.int .i64 (x102.To)]) hS104 A66 rfl rfl rfl rfl (Zj rfl (Zj rfl (Zj rfl one_nil))) (Nat.le_of_ble_eq_true rfl) rfl ?_)
  intro w104 hS105
  refine Zb (Ze (Zc (W_dl (n0 := 12) (.q 0 (.q 1 (.q 2 (.q 3 (.q 4 (.q 5 (.q 6 (.q 7 (.q 8 (.q 9 (.q 10 (.e 11 [0, 1, 2, 3, 4, 5, 6, 7, 8, 9, 10] .done)))))))))))) hmix (by kernel_rfl) (by kernel_rfl) ?_)))
  have hS106 := hS105.drew
  refine DL_q rfl rfl (Zp F66_0 rfl rfl rfl ⟨rfl, ?_⟩)
  refine DL_q rfl rfl (Zn (hS106) A3 rfl rfl rfl ⟨rfl, ?_⟩)
  refine DL_q rfl rfl (Zp F66_2 rfl rfl rfl ⟨rfl, ?_⟩)
  refine DL_q rfl rfl (Zn (hS106) A3 rfl rfl rfl ⟨rfl, ?_⟩)
  refine DL_q rfl rfl (Zp F26_2 rfl p102 rfl ⟨rfl, ?_⟩)
  refine DL_q rfl rfl (Zn ((hS106).f1) A22 rfl rfl rfl ⟨rfl, ?_⟩)
  refine DL_q rfl rfl (Zp F66_1 rfl rfl rfl ⟨rfl, ?_⟩)
  refine DL_q rfl rfl (Zn (hS106) A3 rfl rfl rfl ⟨rfl, ?_⟩)
  obtain ⟨x103, q103, hm100⟩ := Zg hm100
  refine DL_q rfl rfl (Exec.index_repE S22 rfl rfl rfl (a100.mono l102) q103 ?_)
  intro b103 o101 a105 e100
  refine ⟨rfl, ?_⟩
  refine DL_q rfl rfl (Zw (E := (encInt .i64)) hS106 A3 rfl rfl rfl a105 ?_)
  intro v107 q104
  obtain rfl := encInt_val.1 q104
  refine ⟨rfl, ?_⟩
  refine DL_q rfl rfl (Exec.build rfl (parts_cons (c := [Value.int .i64 (x102.From)]) (cells_of rfl rfl) (parts_cons (c := [Value.int .i64 (x102.To)]) (cells_of rfl rfl) (parts_cons (c := [Value.int .i64 (x103)]) (cells_of rfl rfl) parts_nil))) (v := Value.agg #[Value.int .i64 (x102.From), Value.int .i64 (x102.To), Value.int .i64 (x103)]) (fun _ => by kernel_rfl) ⟨rfl, ?_⟩)
  refine DL_e rfl rfl (Exec.alloc (cs := [Value.int .i64 (0), Value.int .i64 (0), Value.int .i64 (0)]) hS106 Z101 rfl rfl ?_)
  intro b104 w105 hS107
  refine ⟨(ag_cons (ag_r rfl rfl (Zp F66_0 rfl rfl rfl ⟨rfl, rfl⟩)) (ag_cons (ag_r rfl rfl (Zn ((hS107).f1) A3 rfl rfl rfl ⟨rfl, rfl⟩)) (ag_cons (ag_r rfl rfl (Zp F66_2 rfl rfl rfl ⟨rfl, rfl⟩)) (ag_cons (ag_r rfl rfl (Zn ((hS107).f1) A3 rfl rfl rfl ⟨rfl, rfl⟩)) (ag_cons (ag_r rfl rfl (Zp F26_2 rfl p102 rfl ⟨rfl, rfl⟩)) (ag_cons (ag_r rfl rfl (Zn ((hS107).f2) A22 rfl rfl rfl ⟨rfl, rfl⟩)) (ag_cons (ag_r rfl rfl (Zp F66_1 rfl rfl rfl ⟨rfl, rfl⟩)) (ag_cons (ag_r rfl rfl (Zn ((hS107).f1) A3 rfl rfl rfl ⟨rfl, rfl⟩)) (ag_cons (ag_r rfl rfl (Exec.index_run rfl rfl rfl e100 ⟨rfl, rfl⟩)) (ag_cons (ag_r rfl rfl (Zw (E := (encInt .i64)) hS107 A3 rfl rfl rfl a105 (fun _ q => ⟨rfl, encInt_val.1 q⟩))) (ag_cons (ag_r rfl rfl (Exec.build rfl (parts_cons (c := [Value.int .i64 (x102.From)]) (cells_of rfl rfl) (parts_cons (c := [Value.int .i64 (x102.To)]) (cells_of rfl rfl) (parts_cons (c := [Value.int .i64 (x103)]) (cells_of rfl rfl) parts_nil))) (v := Value.agg #[Value.int .i64 (x102.From), Value.int .i64 (x102.To), Value.int .i64 (x103)]) (fun _ => by kernel_rfl) ⟨rfl, rfl⟩)) ag_nil))))))))))), ?_⟩
  refine DL_done (Za rfl rfl (Exec.store_box (ds := [Value.int .i64 (x102.From), Value.int .i64 (x102.To), Value.int .i64 (x103)]) (es := [Value.int .i64 (x102.From), Value.int .i64 (x102.To), Value.int .i64 (x103)]) hS107 A101 rfl rfl rfl rfl (Zj rfl (Zj rfl (Zj rfl one_nil))) (Nat.le_of_ble_eq_true rfl) rfl ?_))
  intro w106 hS108
  refine Zb (Ze (Zc (Zc (Zd (Za rfl rfl (Zm (v := Value.bool (back100)) rfl p101 (Zb (Ze ?_))))))))
  obtain ⟨t100, ht100, hm100⟩ := Zg hm100
  refine W_mid (M := fun f' w' => (un2 fun (z100 : Int) (z101 : Int) => ∃ (s104 : PHeap) , PHeap.le s103 s104 ∧ St w0 s104 (Res.box b100 26 [Value.int .i64 (x100.States), Value.int .i64 (x100.Init), v100, v101, v102] :: Res.arr encRaw 102 v105 hs101 :: Res.rows encArc 101 hs101 l101 :: Res.box b104 101 [Value.int .i64 (z100), Value.int .i64 (z101), Value.int .i64 (x103)] :: H) w' ∧ f' 1 = v103 ∧ f' 2 = Value.bool (back100) ∧ f' 3 = Value.pointer (some ⟨b100, 0, none⟩) ∧ f' 7 = v105 ∧ f' 10 = Value.pointer (some ⟨b104, 0, none⟩) ∧ f' 24 = v101 ∧ f' 25 = Value.int .i64 ((x100.Edges.length : Int)) ∧ f' 26 = Value.int .i64 ((i100 : Int))) t100) ?_ ?_
  ·rcases ite_some ht100 with ⟨hc100, ht100⟩ | ⟨hc100, ht100⟩
   ·refine W_cond_t rfl hc100 (Zd (Za rfl rfl (Zp F101_1 rfl rfl rfl (Za rfl rfl (Zn (hS108) A3 rfl rfl rfl (Za rfl rfl (Zp F101_0 rfl rfl rfl (Za rfl rfl (Zn (hS108) A3 rfl rfl rfl (Za rfl rfl (Zp F101_0 rfl rfl rfl (Za rfl rfl (Exec.store_box (ds := [Value.int .i64 (x102.To)]) (es := [Value.int .i64 (x102.To), Value.int .i64 (x102.To), Value.int .i64 (x103)]) hS108 A3 rfl rfl rfl rfl (Zj rfl one_nil) (Nat.le_of_ble_eq_true rfl) rfl ?_)))))))))))))
    intro w107 hS109
    refine Za rfl rfl (Zp F101_1 rfl rfl rfl (Za rfl rfl (Exec.store_box (ds := [Value.int .i64 (x102.From)]) (es := [Value.int .i64 (x102.To), Value.int .i64 (x102.From), Value.int .i64 (x103)]) hS109 A3 rfl rfl rfl rfl (Zj rfl one_nil) (Nat.le_of_ble_eq_true rfl) rfl ?_)))
    intro w108 hS110
    refine Zb (Ze ?_)
    have e101 := Zu ht100
    subst t100
    have hS111 := ((hS110).f1).drop
    have hS112 := ((hS111).f3).f3
    have hS113 := (hS112).f3
    exact ⟨s103, (Zv _), hS113, p100, p101, p102, p103, rfl, p104, p105, x101⟩
   refine W_cond_f rfl hc100 ?_
   replace hc100 := Zk hc100
   refine W_skip (Ze ?_)
   have e102 := Zu ht100
   subst t100
   have hS114 := ((hS108).f1).drop
   have hS115 := ((hS114).f3).f3
   have hS116 := (hS115).f3
   exact ⟨s103, (Zv _), hS116, p100, p101, p102, p103, rfl, p104, p105, x101⟩
  intro f101 w109 hM100
  obtain ⟨z100, z101⟩ := t100
  replace hm100 := un2_eq hm100
  obtain ⟨s105, l103, hS117, p106, p107, p108, p109, p110, p111, p112, p113⟩ := hM100
  refine (Ze (W_dl (n0 := 11) (.q 0 (.q 1 (.q 2 (.q 3 (.q 4 (.q 5 (.q 6 (.q 7 (.q 8 (.e 9 [0, 1, 2, 3, 4, 5, 6, 7] (.e 10 [0, 1, 2] .done))))))))))) hmix (by kernel_rfl) (by kernel_rfl) ?_))
  have hS118 := hS117.drew
  refine DL_q rfl rfl (Zm (v := v105) rfl p109 ⟨rfl, ?_⟩)
  refine DL_q rfl rfl (Zp F101_0 rfl p110 rfl ⟨rfl, ?_⟩)
  refine DL_q rfl rfl (Zn ((hS118).f3) A3 rfl rfl rfl ⟨rfl, ?_⟩)
  refine DL_q rfl rfl (Zm (v := v105) rfl p109 ⟨rfl, ?_⟩)
  refine DL_q rfl rfl (Zp F101_0 rfl p110 rfl ⟨rfl, ?_⟩)
  refine DL_q rfl rfl (Zn ((hS118).f3) A3 rfl rfl rfl ⟨rfl, ?_⟩)
  obtain ⟨row100, q105, hm100⟩ := Zg hm100
  obtain ⟨h100, e103, e104, _⟩ := ((((hS118).f2).f2).f1).rows_at q105
  obtain ⟨g100, c100, e105⟩ := (((hS118).f2).f2).arr_at e103
  refine DL_q rfl rfl (Exec.index_slice S99 rfl e105 rfl (idx_some e103).1 (idx_some e103).2.1 ⟨rfl, ?_⟩)
  refine DL_q rfl rfl (Exec.load_arr (F := encRaw) (((hS118).f2).f2) e105 A102 rfl rfl rfl e103 (Sub.refl _) ?_)
  intro v108 q106
  replace q106 := (encRaw_val.1 q106).1
  subst v108
  refine ⟨rfl, ?_⟩
  refine DL_q rfl rfl (Exec.load_box_agg (ds := [Value.int .i64 (z100), Value.int .i64 (z101), Value.int .i64 (x103)]) ((hS118).f3) A101 rfl p110 rfl ⟨rfl, ?_⟩)
  refine DL_e rfl rfl (Exec.buildSlice (Te := 101) (cs := [Value.int .i64 (z100), Value.int .i64 (z101), Value.int .i64 (x103)]) hS118 rfl (parts_cons (c := [Value.int .i64 (z100), Value.int .i64 (z101), Value.int .i64 (x103)]) (cells_of rfl rfl) parts_nil) (fun _ => by kernel_rfl) ?_)
  intro b105 w110 hS119
  refine ⟨(ag_cons (ag_r rfl rfl (Zm (v := v105) rfl p109 ⟨rfl, rfl⟩)) (ag_cons (ag_r rfl rfl (Zp F101_0 rfl p110 rfl ⟨rfl, rfl⟩)) (ag_cons (ag_r rfl rfl (Zn ((hS119).f4) A3 rfl rfl rfl ⟨rfl, rfl⟩)) (ag_cons (ag_r rfl rfl (Zm (v := v105) rfl p109 ⟨rfl, rfl⟩)) (ag_cons (ag_r rfl rfl (Zp F101_0 rfl p110 rfl ⟨rfl, rfl⟩)) (ag_cons (ag_r rfl rfl (Zn ((hS119).f4) A3 rfl rfl rfl ⟨rfl, rfl⟩)) (ag_cons (ag_r rfl rfl (Exec.index_slice S99 rfl e105 rfl (idx_some e103).1 (idx_some e103).2.1 ⟨rfl, rfl⟩)) (ag_cons (ag_r rfl rfl (Exec.load_arr (F := encRaw) (((hS119).f3).f3) e105 A102 rfl rfl rfl e103 (Sub.refl _) (fun _ q => ⟨rfl, (encRaw_val.1 q).1⟩))) ag_nil)))))))), ?_⟩
  have hS120 := ((((hS119).f3).f3).f1).rows_split e104 (idx_some q105).2.2
  obtain ⟨l104, q107, hm100⟩ := Zg hm100
  have hS121 := (hS120).f3
  have hS122 := (hS121).f1
  refine DL_e rfl rfl (Exec.append_box (E := encArc) (ys := [(⟨z100, z101, x103⟩ : Arc)]) hS122 S102 Z101 rfl (by decide) rfl rfl rfl rfl ⟨[Value.int .i64 (z100), Value.int .i64 (z101), Value.int .i64 (x103)], [], rfl, ⟨[Value.int .i64 (z100)], [Value.int .i64 (z101), Value.int .i64 (x103)], rfl, rfl, ⟨[Value.int .i64 (z101)], [Value.int .i64 (x103)], rfl, rfl, rfl⟩⟩, rfl⟩ rfl q107 ?_)
  intro v109 w111 hS123
  refine ⟨(ag_cons (ag_r rfl rfl (Zm (v := v105) rfl p109 ⟨rfl, rfl⟩)) (ag_cons (ag_r rfl rfl (Zp F101_0 rfl p110 rfl ⟨rfl, rfl⟩)) (ag_cons (ag_r rfl rfl (Zn ((hS123).f4) A3 rfl rfl rfl ⟨rfl, rfl⟩)) ag_nil))), ?_⟩
  refine DL_done (Za rfl rfl (Exec.index_slice S99 rfl e105 rfl (idx_some e103).1 (idx_some e103).2.1 ?_))
  obtain ⟨l105, q108, hm100⟩ := Zg hm100
  have hS124 := ((hS123).f2).f2
  have hS125 := (hS124).f2
  refine Za rfl rfl (Exec.store_row hS125 e104 e105 A102 rfl rfl rfl rfl q108 ?_)
  intro hs102 w112 hS126
  refine Zb (ib_normal (Ze (Zd (Za rfl rfl (Exec.add rfl p113 rfl (Za rfl rfl (Zm (v := Value.int .i64 (IntKind.i64.wrap ((i100 : Int) + 1))) rfl rfl (Zb (Ze ?_)))))))))
  have e106 := Zu hm100
  subst s102
  have hS127 := ((hS126).f3).drop
  have hS128 := (hS127).f2
  exact ⟨s105, hs102, (Zt l102 l103), hS128, p106, p107, p108, p109, p111, p112, (Eq.trans rfl (wrap_up hi100 (SliceRep.le a101)))⟩
 intro f102 w113 hI101
 obtain ⟨s106, hs101, l106, hS129, p114, p115, p116, p117, p118, p119, x104⟩ := hI101
 refine Zc (Zd (Za rfl rfl (Zq rfl x104 p119 (Zb (Ze (Zc (W_false (congrArg Value.bool (decide_eq_false (by omega))) (W_exit (at_exit (at_exit (ib_here (Ze (Zc ?_)))))))))))))
 refine Zd (Za rfl rfl (Zp F26_0 rfl p116 rfl (Za rfl rfl (Zn (hS129) A3 rfl rfl rfl ?_))))
 obtain ⟨l107, q109, hm⟩ := Zg hm
 refine Za rfl rfl (Exec.make (E := (encInt .i64)) hS129 S22 Z3 rfl rfl rfl rfl q109 ?_)
 intro v110 w114 hS130
 refine Za rfl rfl (Zo (v := v110) rfl rfl (Zb (Ze (Zc (Zc (Zd (Za rfl rfl (Zm (v := v110) rfl rfl (Za rfl rfl (Exec.len_arr (hS130) S22 rfl rfl (Za rfl rfl (Zm (v := Value.int .i64 (0)) rfl rfl ?_))))))))))))
 refine Zb (Ze ?_)
 obtain ⟨l108, hB101, hm⟩ := Zg hm
 refine W_block (W_forS (fun k' s' f' w' => (fun (l108 : (List Int)) => ∃ (s107 : PHeap) , PHeap.le s106 s107 ∧ St w0 s107 (Res.box b100 26 [Value.int .i64 (x100.States), Value.int .i64 (x100.Init), v100, v101, v102] :: Res.arr encRaw 102 v105 hs101 :: Res.rows encArc 101 hs101 l101 :: Res.arr (encInt .i64) 3 v110 l108 :: H) w' ∧ f' 1 = v103 ∧ f' 3 = Value.pointer (some ⟨b100, 0, none⟩) ∧ f' 7 = v105 ∧ f' 11 = v110 ∧ f' 65 = Value.int .i64 ((l107.length : Int)) ∧ f' 66 = Value.int .i64 (k' : Int)) s') hB101 ?_ ?_ ?_)
 ·have hS131 := ((hS130).f3).f3
  have hS132 := (hS131).f3
  exact ⟨s106, (Zv _), hS132, p114, p116, p117, rfl, rfl, rfl⟩
 ·intro i101 l108 s108 f103 w115 hi101 hI102 hm101
  obtain ⟨s109, l109, hS133, p120, p121, p122, p123, p124, x105⟩ := hI102
  refine Zc (Zd (Za rfl rfl (Zq rfl x105 p124 (Zb (Ze (Zc (W_true (congrArg Value.bool (decide_eq_true (by omega))) (W_skip (Ze (Zc ?_))))))))))
  refine W_block (Zc (Zd (Za rfl rfl (Zm (v := Value.int .i64 ((i101 : Int))) rfl x105 (Za rfl rfl (Zo (v := Value.int .i64 ((i101 : Int))) rfl rfl (Zb (Ze (Zd (Za rfl rfl (Zm (v := v110) rfl p123 ?_)))))))))))
  refine Za rfl rfl (Zm (v := Value.int .i64 ((i101 : Int))) rfl rfl ?_)
  obtain ⟨x106, q110, hm101⟩ := Zg hm101
  obtain ⟨g101, c101, e107⟩ := ((hS133).f3).arr_at q110
  refine Za rfl rfl (Exec.index_slice S22 rfl e107 rfl (idx_some q110).1 (idx_some q110).2.1 ?_)
  obtain ⟨l110, q111, hm101⟩ := Zg hm101
  have hS134 := (hS133).f3
  refine Za rfl rfl (Exec.store_arr hS134 e107 A3 rfl rfl rfl rfl (encInt_val.2 rfl) q111 ?_)
  intro w116 hS135
  refine Zb (ib_normal (Ze (Zd (Za rfl rfl (Exec.add rfl x105 rfl (Za rfl rfl (Zm (v := Value.int .i64 (IntKind.i64.wrap ((i101 : Int) + 1))) rfl rfl (Zb (Ze ?_)))))))))
  have e108 := Zu hm101
  subst s108
  have hS136 := ((hS135).f3).f3
  have hS137 := (hS136).f3
  exact ⟨s109, l109, hS137, p120, p121, p122, p123, p124, (Eq.trans rfl (wrap_up hi101 (hS130).arr_le))⟩
 intro f104 w117 hI103
 obtain ⟨s110, l111, hS138, p125, p126, p127, p128, p129, x107⟩ := hI103
 refine Zc (Zd (Za rfl rfl (Zq rfl x107 p129 (Zb (Ze (Zc (W_false (congrArg Value.bool (decide_eq_false (by omega))) (W_exit (at_exit (at_exit (ib_here (Ze (Zc ?_)))))))))))))
 refine Zd (Za rfl rfl (Zp F26_0 rfl p126 rfl (Za rfl rfl (Zn (hS138) A3 rfl rfl rfl ?_))))
 obtain ⟨l112, q112, hm⟩ := Zg hm
 refine Za rfl rfl (Exec.make (E := encBool) hS138 S24 Z4 rfl rfl rfl rfl q112 ?_)
 intro v111 w118 hS139
 refine Za rfl rfl (Zo (v := v111) rfl rfl (Zb (Ze (Zc (Zd (Za rfl rfl (Zm (v := v103) rfl p125 ?_)))))))
 obtain ⟨y101, q113, hm⟩ := Zg hm
 refine Za rfl rfl (Exec.call rfl rfl Try.func36 rfl N36 (Zi rfl args_nil) ((slices_Clone___int_int__sim q113 hS139 (a103.mono (Zt l106 l111))).mono ?_))
 rintro _ w119 ⟨v112, rfl, ⟨s111, _, l113, hS140, rfl⟩⟩
 refine ⟨_, rfl, ?_⟩
 have hS141 := (hS140).arr_que
 refine Za rfl rfl (Zo (v := v112) rfl rfl (Zb (Ze (Zc (Zc (Zd (Za rfl rfl (Zm (v := v103) rfl p125 (Za rfl rfl (Zr S22 rfl rfl (a103.mono (Zt (Zt l106 l111) l113)) (Za rfl rfl (Zm (v := Value.int .i64 (0)) rfl rfl ?_))))))))))))
 refine Zb (Ze ?_)
 obtain ⟨t101, hB102, hm⟩ := Zg hm
 refine W_block (W_forS (fun k' s' f' w' => (un2 fun (l114 : (List Int)) (l115 : (List Bool)) => ∃ (s112 : PHeap) , PHeap.le s111 s112 ∧ St w0 s112 (Res.arr encRaw 102 v105 hs101 :: Res.rows encArc 101 hs101 l101 :: Res.arr (encInt .i64) 3 v110 l114 :: Res.arr encBool 4 v111 l115 :: Res.que (encInt .i64) 3 v112 y101 :: H) w' ∧ f' 7 = v105 ∧ f' 11 = v110 ∧ f' 13 = v111 ∧ f' 14 = v112 ∧ f' 78 = v103 ∧ f' 79 = Value.int .i64 ((from_100.length : Int)) ∧ f' 80 = Value.int .i64 (k' : Int)) s') hB102 ?_ ?_ ?_)
 ·have hS142 := ((hS141).f2).drop
  have hS143 := (hS142).f1
  have hS144 := (hS143).f4
  have hS145 := ((hS144).f4).f4
  exact ⟨s111, (Zv _), hS145, p127, p128, rfl, rfl, rfl, rfl, rfl⟩
 ·intro i102 t102 s113 f105 w120 hi102 hI104 hm102
  obtain ⟨l114, l115⟩ := t102
  replace hm102 := un2_eq hm102
  obtain ⟨s114, l116, hS146, p130, p131, p132, p133, p134, p135, x108⟩ := hI104
  refine Zc (Zd (Za rfl rfl (Zq rfl x108 p135 (Zb (Ze (Zc (W_true (congrArg Value.bool (decide_eq_true (by omega))) (W_skip (Ze (Zc ?_))))))))))
  refine W_block (Zc (Zd ?_))
  obtain ⟨x109, q114, hm102⟩ := Zg hm102
  refine Za rfl rfl (Exec.index_rep S22 rfl p134 x108 (a103.mono (Zt (Zt (Zt l106 l111) l113) l116)) q114 ?_)
  intro b106 o102 a106
  refine Za rfl rfl (Zw (E := (encInt .i64)) hS146 A3 rfl rfl rfl a106 ?_)
  intro v113 q115
  obtain rfl := encInt_val.1 q115
  refine Za rfl rfl (Zo (v := Value.int .i64 (x109)) rfl rfl (Zb (Ze (Zd (Za rfl rfl (Zm (v := v110) rfl p131 (Za rfl rfl (Zm (v := Value.int .i64 (x109)) rfl rfl (Za rfl rfl (Zm (v := v111) rfl p132 (Za rfl rfl (Zm (v := Value.int .i64 (x109)) rfl rfl ?_))))))))))))
  obtain ⟨x110, q116, hm102⟩ := Zg hm102
  obtain ⟨g102, c102, e109⟩ := ((hS146).f2).arr_at q116
  refine Za rfl rfl (Exec.index_slice S22 rfl e109 rfl (idx_some q116).1 (idx_some q116).2.1 ?_)
  obtain ⟨l117, q117, hm102⟩ := Zg hm102
  have hS147 := (hS146).f2
  refine Za rfl rfl (Exec.store_arr hS147 e109 A3 rfl rfl rfl rfl (encInt_val.2 rfl) q117 ?_)
  intro w121 hS148
  obtain ⟨x111, q118, hm102⟩ := Zg hm102
  obtain ⟨g103, c103, e110⟩ := ((hS148).f3).arr_at q118
  refine Za rfl rfl (Exec.index_slice S24 rfl e110 rfl (idx_some q118).1 (idx_some q118).2.1 ?_)
  obtain ⟨l118, q119, hm102⟩ := Zg hm102
  have hS149 := (hS148).f3
  refine Za rfl rfl (Exec.store_arr hS149 e110 A4 rfl rfl rfl rfl (encBool_val.2 rfl) q119 ?_)
  intro w122 hS150
  refine Zb (ib_normal (Ze (Zd (Za rfl rfl (Exec.add rfl x108 rfl (Za rfl rfl (Zm (v := Value.int .i64 (IntKind.i64.wrap ((i102 : Int) + 1))) rfl rfl (Zb (Ze ?_)))))))))
  have e111 := Zu hm102
  subst s113
  have hS151 := (hS150).f4
  have hS152 := (hS151).f1
  have hS153 := (hS152).f2
  have hS154 := ((hS153).f4).f4
  exact ⟨s114, l116, hS154, p130, p131, p132, p133, p134, p135, (Eq.trans rfl (wrap_up hi102 (SliceRep.le (a103.mono (Zt (Zt l106 l111) l113)))))⟩
 intro f106 w123 hI105
 obtain ⟨l114, l115⟩ := t101
 replace hm := un2_eq hm
 obtain ⟨s115, l119, hS155, p136, p137, p138, p139, p140, p141, x112⟩ := hI105
 refine Zc (Zd (Za rfl rfl (Zq rfl x112 p141 (Zb (Ze (Zc (W_false (congrArg Value.bool (decide_eq_false (by omega))) (W_exit (at_exit (at_exit (ib_here (Ze (Zc ?_)))))))))))))
 obtain ⟨c104, hB103, hr100, hn100, hb100⟩ := ctl_some hm
 refine W_mid (M := fun f' w' => ∃ s', (c104 = .next s' ∨ c104 = .brk s') ∧ (un3 fun (l120 : (List Int)) (l121 : (List Bool)) (l122 : (List Int)) => ∃ (s116 : PHeap) (v114 : Value), PHeap.le s115 s116 ∧ St w0 s116 (Res.arr encRaw 102 v105 hs101 :: Res.rows encArc 101 hs101 l101 :: Res.arr (encInt .i64) 3 v110 l120 :: Res.arr encBool 4 v111 l121 :: Res.que (encInt .i64) 3 v114 l122 :: H) w' ∧ f' 7 = v105 ∧ f' 11 = v110 ∧ f' 13 = v111 ∧ f' 14 = v114) s') ?_ ?_
 ·refine W_block (W_while (fun s' f' w' => (un3 fun (l123 : (List Int)) (l124 : (List Bool)) (l125 : (List Int)) => ∃ (s117 : PHeap) (v115 : Value), PHeap.le s115 s117 ∧ St w0 s117 (Res.arr encRaw 102 v105 hs101 :: Res.rows encArc 101 hs101 l101 :: Res.arr (encInt .i64) 3 v110 l123 :: Res.arr encBool 4 v111 l124 :: Res.que (encInt .i64) 3 v115 l125 :: H) w' ∧ f' 7 = v105 ∧ f' 11 = v110 ∧ f' 13 = v111 ∧ f' 14 = v115) s') hB103 ?_ ?_)
  ·have hS156 := (hS155).f4
   have hS157 := (hS156).f4
   have hS158 := (hS157).f4
   have hS159 := ((hS158).f4).f4
   exact ⟨s115, v112, (Zv _), hS159, p136, p137, p138, p139⟩
  intro t103 c105 f107 w124 hI106 hm103 hres100
  obtain ⟨l123, l124, l125⟩ := t103
  replace hm103 := un3_eq hm103
  obtain ⟨s118, v115, l126, hS160, p142, p143, p144, p145⟩ := hI106
  refine Zc (Zc (Zd (Za rfl rfl (Zm (v := v115) rfl p145 (Za rfl rfl (Exec.len_que ((hS160).f4) S22 rfl rfl (Za rfl rfl (Exec.gtr rfl rfl rfl (Zb (Ze ?_))))))))))
  rcases ite_some hm103 with ⟨hc101, hm103⟩ | ⟨hc101, hm103⟩
  ·refine W_cond_t rfl hc101 (W_skip (Ze (W_block (Zc (Zd (Za rfl rfl (Zm (v := v115) rfl p145 ?_)))))))
   obtain ⟨x113, q120, hm103⟩ := Zg hm103
   refine Za rfl rfl (Exec.index_que ((hS160).f4) S22 rfl rfl rfl q120 ?_)
   intro b107 o103 a107
   refine Za rfl rfl (Exec.load_cur (E := (encInt .i64)) a107 A3 rfl rfl ?_)
   intro v116 q121
   obtain rfl := encInt_val.1 q121
   refine Za rfl rfl (Zo (v := Value.int .i64 (x113)) rfl rfl (Zb (Ze (Zc (Zd (Za rfl rfl (Zm (v := v111) rfl p144 (Za rfl rfl (Zm (v := Value.int .i64 (x113)) rfl rfl (Za rfl rfl (Zm (v := v115) rfl p145 ?_)))))))))))
   obtain ⟨c106, q122, hm103⟩ := Zg hm103
   have hS161 := (hS160).f4
   refine Za rfl rfl (Exec.slice_que hS161 S22 rfl rfl rfl q122 ?_)
   intro v117 hS162
   refine Za rfl rfl (Zo (v := v117) rfl rfl ?_)
   obtain ⟨x114, q123, hm103⟩ := Zg hm103
   obtain ⟨g104, c107, e112⟩ := ((hS162).f4).arr_at q123
   refine Za rfl rfl (Exec.index_slice S24 rfl e112 rfl (idx_some q123).1 (idx_some q123).2.1 ?_)
   obtain ⟨l127, q124, hm103⟩ := Zg hm103
   have hS163 := (hS162).f4
   refine Za rfl rfl (Exec.store_arr hS163 e112 A4 rfl rfl rfl rfl (encBool_val.2 rfl) q124 ?_)
   intro w125 hS164
   refine Zb (Ze (Zc (Zd (Za rfl rfl (Zm (v := v105) rfl p142 (Za rfl rfl (Zm (v := Value.int .i64 (x113)) rfl rfl ?_)))))))
   obtain ⟨row101, q125, hm103⟩ := Zg hm103
   obtain ⟨h101, e113, e114, _⟩ := ((((hS164).f3).f3).f1).rows_at q125
   obtain ⟨g105, c108, e115⟩ := (((hS164).f3).f3).arr_at e113
   refine Za rfl rfl (Exec.index_slice S99 rfl e115 rfl (idx_some e113).1 (idx_some e113).2.1 (Za rfl rfl (Exec.load_arr (F := encRaw) (((hS164).f3).f3) e115 A102 rfl rfl rfl e113 (Sub.refl _) ?_)))
   intro v118 q126
   replace q126 := (encRaw_val.1 q126).1
   subst v118
   refine Za rfl rfl (Exec.len_arr (((((hS164).f3).f3).f1).rows_split e114 (idx_some q125).2.2) S102 rfl rfl (Za rfl rfl (Zm (v := Value.int .i64 (0)) rfl rfl (Zb (Ze ?_)))))
   obtain ⟨u100, q127, hm103⟩ := Zg hm103
   obtain ⟨t104, hB104, hm103⟩ := Zg hm103
   refine W_block (W_forS (fun k' s' f' w' => (un3 fun (l128 : (List Int)) (l129 : (List Bool)) (l130 : (List Int)) => ∃ (s119 : PHeap) (v119 : Value), PHeap.le s118 s119 ∧ St w0 s119 (Res.arr encRaw 102 v105 hs101 :: Res.rows encArc 101 hs101 l101 :: Res.arr (encInt .i64) 3 v110 l128 :: Res.arr encBool 4 v111 l129 :: Res.que (encInt .i64) 3 v119 l130 :: H) w' ∧ f' 7 = v105 ∧ f' 11 = v110 ∧ f' 13 = v111 ∧ f' 14 = v119 ∧ f' 17 = Value.int .i64 (x113) ∧ f' 105 = h101 ∧ f' 106 = Value.int .i64 ((row101.length : Int)) ∧ f' 107 = Value.int .i64 (k' : Int)) s') hB104 ?_ ?_ ?_)
   ·have hS165 := (hS164).f1
    have hS166 := (hS165).f1
    have hS167 := (hS166).f4
    have hS168 := ((hS167).f4).f4
    exact ⟨s118, v117, (Zv _), hS168, p142, p143, p144, rfl, rfl, rfl, rfl, rfl⟩
   ·intro i103 t105 s120 f108 w126 hi103 hI107 hm104
    obtain ⟨l128, l129, l130⟩ := t105
    replace hm104 := un3_eq hm104
    obtain ⟨s121, v119, l131, hS169, p146, p147, p148, p149, p150, p151, p152, x115⟩ := hI107
    refine Zc (Zd (Za rfl rfl (Zq rfl x115 p152 (Zb (Ze (Zc (W_true (congrArg Value.bool (decide_eq_true (by omega))) (W_skip (Ze (Zc ?_))))))))))
    refine W_block (Zc (Zd ?_))
    obtain ⟨x116, q128, hm104⟩ := Zg hm104
    obtain ⟨g106, c109, e116⟩ := (((hS169).f1).rows_split e114 (idx_some q125).2.2).arr_at q128
    refine Za rfl rfl (Exec.index_slice S102 rfl (Eq.trans p151 e116) x115 (idx_some q128).1 (idx_some q128).2.1 (Za rfl rfl (Exec.load_arr (F := encArc) (((hS169).f1).rows_split e114 (idx_some q125).2.2) e116 A101 rfl rfl rfl q128 (Sub.refl _) ?_)))
    intro v120 q129
    obtain rfl := encArc_val.1 q129
    refine Za rfl rfl (Exec.alloc (cs := [Value.int .i64 (0), Value.int .i64 (0), Value.int .i64 (0)]) hS169 Z101 rfl rfl ?_)
    intro b108 w127 hS170
    refine Za rfl rfl (Exec.store_box (ds := [Value.int .i64 (x116.From), Value.int .i64 (x116.To), Value.int .i64 (x116.Weight)]) (es := [Value.int .i64 (x116.From), Value.int .i64 (x116.To), Value.int .i64 (x116.Weight)]) hS170 A101 rfl rfl rfl rfl (Zj rfl (Zj rfl (Zj rfl one_nil))) (Nat.le_of_ble_eq_true rfl) rfl ?_)
    intro w128 hS171
    refine Zb (Ze (Zc (Zc (W_dl (n0 := 13) (.q 0 (.q 1 (.q 2 (.q 3 (.q 4 (.q 5 (.q 6 (.q 7 (.q 8 (.q 9 (.q 10 (.q 11 (.q 12 .done))))))))))))) hmix (by kernel_rfl) (by kernel_rfl) ?_))))
    have hS172 := hS171.drew
    refine DL_q rfl rfl (Zm (v := v110) rfl p147 ⟨rfl, ?_⟩)
    refine DL_q rfl rfl (Zm (v := Value.int .i64 (x113)) rfl p150 ⟨rfl, ?_⟩)
    obtain ⟨x117, q130, hm104⟩ := Zg hm104
    obtain ⟨g107, c110, e117⟩ := ((hS172).f3).arr_at q130
    refine DL_q rfl rfl (Exec.index_slice S22 rfl e117 rfl (idx_some q130).1 (idx_some q130).2.1 ⟨rfl, ?_⟩)
    refine DL_q rfl rfl (Exec.load_arr (F := (encInt .i64)) ((hS172).f3) e117 A3 rfl rfl rfl q130 (Sub.refl _) ?_)
    intro v121 q131
    obtain rfl := encInt_val.1 q131
    refine ⟨rfl, ?_⟩
    refine DL_q rfl rfl (Zp F101_2 rfl rfl rfl ⟨rfl, ?_⟩)
    refine DL_q rfl rfl (Zn (hS172) A3 rfl rfl rfl ⟨rfl, ?_⟩)
    refine DL_q rfl rfl (Exec.add rfl rfl rfl ⟨rfl, ?_⟩)
    refine DL_q rfl rfl (Zm (v := v110) rfl p147 ⟨rfl, ?_⟩)
    refine DL_q rfl rfl (Zp F101_1 rfl rfl rfl ⟨rfl, ?_⟩)
    refine DL_q rfl rfl (Zn (hS172) A3 rfl rfl rfl ⟨rfl, ?_⟩)
    obtain ⟨x118, q132, hm104⟩ := Zg hm104
    obtain ⟨g108, c111, e118⟩ := ((hS172).f3).arr_at q132
    refine DL_q rfl rfl (Exec.index_slice S22 rfl e118 rfl (idx_some q132).1 (idx_some q132).2.1 ⟨rfl, ?_⟩)
    refine DL_q rfl rfl (Exec.load_arr (F := (encInt .i64)) ((hS172).f3) e118 A3 rfl rfl rfl q132 (Sub.refl _) ?_)
    intro v122 q133
    obtain rfl := encInt_val.1 q133
    refine ⟨rfl, ?_⟩
    refine DL_q rfl rfl (Exec.geq rfl rfl rfl ⟨rfl, ?_⟩)
    refine DL_done (Zb (Ze ?_))
    rcases ite_some hm104 with ⟨hc102, hm104⟩ | ⟨hc102, hm104⟩
    ·refine W_cond_t rfl hc102 (W_exit (at_exit (ib_here (Ze (Zd (Za rfl rfl (Exec.add rfl x115 rfl (Za rfl rfl (Zm (v := Value.int .i64 (IntKind.i64.wrap ((i103 : Int) + 1))) rfl rfl (Zb (Ze ?_)))))))))))
     have e119 := Zu hm104
     subst s120
     have hS173 := (hS172).drop
     have hS174 := (hS173).f4
     have hS175 := (hS174).f4
     have hS176 := (hS175).f4
     have hS177 := ((hS176).f4).f4
     exact ⟨s121, v119, l131, hS177, p146, p147, p148, p149, p150, p151, p152, (Eq.trans rfl (wrap_up hi103 (by have h := must_some q127; simpa [maxLen] using h)))⟩
    refine W_cond_f rfl hc102 ?_
    replace hc102 := Zk hc102
    refine W_skip (Ze (Zc (W_dl (n0 := 10) (.q 0 (.q 1 (.q 2 (.q 3 (.q 4 (.q 5 (.q 6 (.q 7 (.q 8 (.q 9 .done)))))))))) hmix (by kernel_rfl) (by kernel_rfl) ?_)))
    have hS178 := hS172.drew
    refine DL_q rfl rfl (Zm (v := v110) rfl p147 ⟨rfl, ?_⟩)
    refine DL_q rfl rfl (Zp F101_1 rfl rfl rfl ⟨rfl, ?_⟩)
    refine DL_q rfl rfl (Zn (hS178) A3 rfl rfl rfl ⟨rfl, ?_⟩)
    refine DL_q rfl rfl (Zm (v := v110) rfl p147 ⟨rfl, ?_⟩)
    refine DL_q rfl rfl (Zm (v := Value.int .i64 (x113)) rfl p150 ⟨rfl, ?_⟩)
    obtain ⟨g109, c112, e120⟩ := ((hS178).f3).arr_at q130
    refine DL_q rfl rfl (Exec.index_slice S22 rfl e120 rfl (idx_some q130).1 (idx_some q130).2.1 ⟨rfl, ?_⟩)
    refine DL_q rfl rfl (Exec.load_arr (F := (encInt .i64)) ((hS178).f3) e120 A3 rfl rfl rfl q130 (Sub.refl _) ?_)
    intro v123 q134
    obtain rfl := encInt_val.1 q134
    refine ⟨rfl, ?_⟩
    refine DL_q rfl rfl (Zp F101_2 rfl rfl rfl ⟨rfl, ?_⟩)
    refine DL_q rfl rfl (Zn (hS178) A3 rfl rfl rfl ⟨rfl, ?_⟩)
    refine DL_q rfl rfl (Exec.add rfl rfl rfl ⟨rfl, ?_⟩)
    refine DL_done ?_
    obtain ⟨g110, c113, e121⟩ := ((hS178).f3).arr_at q132
    refine Za rfl rfl (Exec.index_slice S22 rfl e121 rfl (idx_some q132).1 (idx_some q132).2.1 ?_)
    obtain ⟨l132, q135, hm104⟩ := Zg hm104
    have hS179 := (hS178).f3
    refine Za rfl rfl (Exec.store_arr hS179 e121 A3 rfl rfl rfl rfl (encInt_val.2 rfl) q135 ?_)
    intro w129 hS180
    refine Zb (Ze (Zc (Zd (Za rfl rfl (Zm (v := v111) rfl p148 (Za rfl rfl (Zp F101_1 rfl rfl rfl (Za rfl rfl (Zn ((hS180).f1) A3 rfl rfl rfl ?_)))))))))
    obtain ⟨x119, q136, hm104⟩ := Zg hm104
    obtain ⟨g111, c114, e122⟩ := ((hS180).f4).arr_at q136
    refine Za rfl rfl (Exec.index_slice S24 rfl e122 rfl (idx_some q136).1 (idx_some q136).2.1 (Za rfl rfl (Exec.load_arr (F := encBool) ((hS180).f4) e122 A4 rfl rfl rfl q136 (Sub.refl _) ?_)))
    intro v124 q137
    obtain rfl := encBool_val.1 q137
    refine Za rfl rfl (Exec.not rfl rfl (Zb (Ze ?_)))
    obtain ⟨t106, ht101, hm104⟩ := Zg hm104
    refine W_mid (M := fun f' w' => (un2 fun (l133 : (List Bool)) (l134 : (List Int)) => ∃ (s122 : PHeap) (v125 : Value), PHeap.le s121 s122 ∧ St w0 s122 (Res.arr encRaw 102 v105 hs101 :: Res.rows encArc 101 hs101 l101 :: Res.arr (encInt .i64) 3 v110 l132 :: Res.arr encBool 4 v111 l133 :: Res.que (encInt .i64) 3 v125 l134 :: H) w' ∧ f' 7 = v105 ∧ f' 11 = v110 ∧ f' 13 = v111 ∧ f' 14 = v125 ∧ f' 17 = Value.int .i64 (x113) ∧ f' 105 = h101 ∧ f' 106 = Value.int .i64 ((row101.length : Int)) ∧ f' 107 = Value.int .i64 ((i103 : Int))) t106) ?_ ?_
    ·rcases ite_some ht101 with ⟨hc103, ht101⟩ | ⟨hc103, ht101⟩
     ·refine W_cond_t rfl hc103 (W_dl (n0 := 9) (.q 0 (.q 1 (.q 2 (.q 3 (.q 4 (.q 5 (.e 6 [0, 1, 2, 3] (.e 7 [0, 1, 2] (.e 8 [0, 1, 2] .done))))))))) hmix (by kernel_rfl) (by kernel_rfl) ?_)
      have hS181 := hS180.drew
      refine DL_q rfl rfl (Zm (v := v111) rfl p148 ⟨rfl, ?_⟩)
      refine DL_q rfl rfl (Zp F101_1 rfl rfl rfl ⟨rfl, ?_⟩)
      refine DL_q rfl rfl (Zn ((hS181).f1) A3 rfl rfl rfl ⟨rfl, ?_⟩)
      refine DL_q rfl rfl (Zm (v := v119) rfl p149 ⟨rfl, ?_⟩)
      refine DL_q rfl rfl (Zp F101_1 rfl rfl rfl ⟨rfl, ?_⟩)
      refine DL_q rfl rfl (Zn ((hS181).f1) A3 rfl rfl rfl ⟨rfl, ?_⟩)
      refine DL_e rfl rfl (Exec.buildSlice (Te := 3) (cs := [Value.int .i64 (x116.To)]) hS181 rfl (parts_cons (c := [Value.int .i64 (x116.To)]) (cells_of rfl rfl) parts_nil) (fun _ => by kernel_rfl) ?_)
      intro b109 w130 hS182
      refine ⟨(ag_cons (ag_r rfl rfl (Zm (v := v111) rfl p148 ⟨rfl, rfl⟩)) (ag_cons (ag_r rfl rfl (Zp F101_1 rfl rfl rfl ⟨rfl, rfl⟩)) (ag_cons (ag_r rfl rfl (Zn ((hS182).f2) A3 rfl rfl rfl ⟨rfl, rfl⟩)) (ag_cons (ag_r rfl rfl (Zm (v := v119) rfl p149 ⟨rfl, rfl⟩)) ag_nil)))), ?_⟩
      obtain ⟨l135, q138, ht101⟩ := Zg ht101
      have hS183 := (hS182).f6
      refine DL_e rfl rfl (Exec.append_que (E := (encInt .i64)) (ys := [x116.To]) hS183 S22 Z3 rfl (by decide) rfl rfl rfl rfl ⟨[Value.int .i64 (x116.To)], [], rfl, rfl, rfl⟩ rfl q138 ?_)
      intro v126 w131 hS184
      refine ⟨(ag_cons (ag_r rfl rfl (Zm (v := v111) rfl p148 ⟨rfl, rfl⟩)) (ag_cons (ag_r rfl rfl (Zp F101_1 rfl rfl rfl ⟨rfl, rfl⟩)) (ag_cons (ag_r rfl rfl (Zn ((hS184).f2) A3 rfl rfl rfl ⟨rfl, rfl⟩)) ag_nil))), ?_⟩
      refine DL_e rfl rfl (Zo (v := v126) rfl rfl (⟨(ag_cons (ag_r rfl rfl (Zm (v := v111) rfl p148 ⟨rfl, rfl⟩)) (ag_cons (ag_r rfl rfl (Zp F101_1 rfl rfl rfl ⟨rfl, rfl⟩)) (ag_cons (ag_r rfl rfl (Zn ((hS184).f2) A3 rfl rfl rfl ⟨rfl, rfl⟩)) ag_nil))), ?_⟩))
      refine DL_done ?_
      obtain ⟨g112, c115, e123⟩ := ((hS184).f5).arr_at q136
      refine Za rfl rfl (Exec.index_slice S24 rfl e123 rfl (idx_some q136).1 (idx_some q136).2.1 ?_)
      obtain ⟨l136, q139, ht101⟩ := Zg ht101
      have hS185 := (hS184).f5
      refine Za rfl rfl (Exec.store_arr hS185 e123 A4 rfl rfl rfl rfl (encBool_val.2 rfl) q139 ?_)
      intro w132 hS186
      refine Zb (Ze ?_)
      have e124 := Zu ht101
      subst t106
      have hS187 := ((hS186).f3).drop
      have hS188 := (hS187).f1
      have hS189 := (hS188).f1
      have hS190 := (hS189).f2
      have hS191 := ((hS190).f4).f4
      exact ⟨s121, v126, (Zv _), hS191, p146, p147, p148, rfl, p150, p151, p152, x115⟩
     refine W_cond_f rfl hc103 ?_
     replace hc103 := Zk hc103
     refine W_skip (Ze ?_)
     have e125 := Zu ht101
     subst t106
     have hS192 := ((hS180).f1).drop
     have hS193 := (hS192).f4
     have hS194 := (hS193).f4
     have hS195 := (hS194).f2
     have hS196 := ((hS195).f4).f4
     exact ⟨s121, v119, (Zv _), hS196, p146, p147, p148, p149, p150, p151, p152, x115⟩
    intro f109 w133 hM101
    obtain ⟨l133, l134⟩ := t106
    replace hm104 := un2_eq hm104
    obtain ⟨s123, v125, l137, hS197, p153, p154, p155, p156, p157, p158, p159, p160⟩ := hM101
    refine (ib_normal (Ze (Zd (Za rfl rfl (Exec.add rfl p160 rfl (Za rfl rfl (Zm (v := Value.int .i64 (IntKind.i64.wrap ((i103 : Int) + 1))) rfl rfl (Zb (Ze ?_)))))))))
    have e126 := Zu hm104
    subst s120
    have hS198 := (hS197).f4
    have hS199 := (hS198).f4
    have hS200 := (hS199).f4
    have hS201 := ((hS200).f4).f4
    exact ⟨s123, v125, (Zt l131 l137), hS201, p153, p154, p155, p156, p157, p158, p159, (Eq.trans rfl (wrap_up hi103 (by have h := must_some q127; simpa [maxLen] using h)))⟩
   intro f110 w134 hI108
   obtain ⟨l128, l129, l130⟩ := t104
   replace hm103 := un3_eq hm103
   obtain ⟨s124, v119, l138, hS202, p161, p162, p163, p164, p165, p166, p167, x120⟩ := hI108
   refine Zc (Zd (Za rfl rfl (Zq rfl x120 p167 (Zb (Ze (Zc (W_false (congrArg Value.bool (decide_eq_false (by omega))) (W_exit (at_exit (at_exit (ib_here (ib_normal (Ze ?_)))))))))))))
   have e127 := Zu hm103
   subst c105
   have hS203 := (hS202).f4
   have hS204 := (hS203).f4
   have hS205 := (hS204).f4
   have hS206 := ((hS205).f4).f4
   refine ⟨_, rfl, ?_⟩; exact ⟨s124, v119, (Zt l126 l138), hS206, p161, p162, p163, p164⟩
  refine W_cond_f rfl hc101 ?_
  replace hc101 := Zk hc101
  refine W_exit (at_exit (at_exit (ib_here (Ze ?_))))
  have e128 := Zu hm103
  subst c105
  have hS207 := (hS160).f4
  have hS208 := (hS207).f4
  have hS209 := (hS208).f4
  have hS210 := ((hS209).f4).f4
  refine ⟨_, .inr (hres100 (by intro _ h; cases h)), ?_⟩; exact ⟨s118, v115, l126, hS210, p142, p143, p144, p145⟩
 rintro f111 w135 ⟨t107, hc104, hM102⟩
 have hm := hc104.elim (hn100 _) (hb100 _)
 clear hc104
 obtain ⟨l120, l121, l122⟩ := t107
 replace hm := un3_eq hm
 obtain ⟨s125, v114, l139, hS211, p168, p169, p170, p171⟩ := hM102
 refine (Ze (Zc (Zd (Za rfl rfl (Zm (v := v110) rfl p169 (Za rfl rfl (Zo (v := v110) rfl rfl (Zb (Ze (W_ret ?_))))))))))
 have e129 := Zu hm
 subst r
 refine ⟨_, ret1 rfl, ?_⟩
 have hS212 := (hS211).f2
 obtain ⟨s126, l140, hS213, r100⟩ := hS212.freezeArr
 have hS214 := ((hS213).drop).drop
 have hS215 := (hS214).drop
 have hS216 := (hS215).drop
 exact ⟨s126, v110, (Zt (Zt (Zt (Zt (Zt l106 l111) l113) l119) l139) l140), hS216, rfl, r100⟩
theorem N18 : (Try.f18.name == "runtime.NumGoroutine") = false := by kernel_rfl
theorem transys_Distances_sim {w0 w : World} {s : PHeap} {H : List Res} {x100 : System} {v100 : Value} {v101 : Value} {v102 : Value} {r : (List Int) × (Option Int)} (hm : transys_Distances_p x100 = some r) (hS : St w0 s (H) w) (a100 : SliceRep (encInt .i64) s v100 x100.Costs) (a101 : SliceRep encEdge s v101 x100.Edges) (a102 : SliceRep encBool s v102 x100.Goals) :
  Calls Try.prog 18 #[Value.agg #[Value.int .i64 (x100.States), Value.int .i64 (x100.Init), v100, v101, v102]] w fun e w' => ∃ v, e = .returned v ∧ ((un2 fun (y100 : (List Int)) (y101 : (Option Int)) => ∃ (s100 : PHeap) (v103 : Value), PHeap.le s s100 ∧ St w0 s100 (H) w' ∧ v = Value.tuple #[v103, errV 39 (y101)] ∧ SliceRep (encInt .i64) s100 v103 y100) r) := by
 unfold transys_Distances_p at hm
 refine calls_of_W Try.func18 rfl rfl (Zc (Zd (Za rfl rfl (Exec.box (cs := [Value.int .i64 (x100.States), Value.int .i64 (x100.Init), v100, v101, v102]) hS rfl rfl rfl ?_))))
 intro b100 w100 hS100
 refine Za rfl rfl (Zo (v := Value.slice none 0 0) rfl rfl (Za rfl rfl (Zo (v := errV 39 (none)) rfl rfl (Zb (Ze (Zc (Zc (Zd (Za rfl rfl (Exec.load_box_agg (ds := [Value.int .i64 (x100.States), Value.int .i64 (x100.Init), v100, v101, v102]) (hS100) A26 rfl rfl rfl ?_))))))))))
 obtain ⟨y102, q100, hm⟩ := Zg hm
 refine Za rfl rfl (Exec.call rfl rfl Try.func25 rfl N25 (Zi rfl args_nil) ((transys_Valid_sim q100 hS100 a100 a101 a102).mono ?_))
 rintro _ w101 ⟨_, rfl, ⟨s101, l100, hS101, rfl⟩⟩
 refine ⟨_, rfl, ?_⟩
 refine Za rfl rfl (Exec.not rfl rfl (Zb (Ze ?_)))
 rcases ite_some hm with ⟨hc100, hm⟩ | ⟨hc100, hm⟩
 ·refine W_cond_t rfl hc100 (Zc (Zd (Za rfl rfl (Exec.makeInterface C39 rfl rfl (Za rfl rfl (Zo (v := Value.slice none 0 0) rfl rfl (Za rfl rfl (Zo (v := errV 39 (some 2)) rfl rfl (Zb (Ze (W_ret (at_ret ?_))))))))))))
  have e100 := Zu hm
  subst r
  refine ⟨_, ret2 rfl, ?_⟩
  have hS102 := (hS101).drop
  exact ⟨s101, (Value.slice none 0 0), l100, hS102, (tup2 rfl rfl), (SliceRep.nil _ _)⟩
 refine W_cond_f rfl hc100 ?_
 replace hc100 := Zk hc100
 refine W_skip (Ze (Zc (W_dl (n0 := 4) (.q 0 (.q 1 (.e 2 [0] (.e 3 [] .done)))) hmix (by kernel_rfl) (by kernel_rfl) ?_)))
 have hS103 := hS101.drew
 refine DL_q rfl rfl (Exec.load_box_agg (ds := [Value.int .i64 (x100.States), Value.int .i64 (x100.Init), v100, v101, v102]) (hS103) A26 rfl rfl rfl ⟨rfl, ?_⟩)
 refine DL_q rfl rfl (Exec.load_box_agg (ds := [Value.int .i64 (x100.States), Value.int .i64 (x100.Init), v100, v101, v102]) (hS103) A26 rfl rfl rfl ⟨rfl, ?_⟩)
 obtain ⟨y103, q101, hm⟩ := Zg hm
 refine DL_e rfl rfl (Exec.call rfl rfl Try.func43 rfl N43 (Zi rfl args_nil) ((transys_goals_sim q101 hS103 (a100.mono l100) (a101.mono l100) (a102.mono l100)).mono ?_))
 rintro _ w102 ⟨v104, rfl, ⟨s102, _, l101, hS104, rfl, r100⟩⟩
 refine ⟨_, rfl, ?_⟩
 refine ⟨(ag_cons (ag_r rfl rfl (Exec.load_box_agg (ds := [Value.int .i64 (x100.States), Value.int .i64 (x100.Init), v100, v101, v102]) (hS104) A26 rfl rfl rfl ⟨rfl, rfl⟩)) ag_nil), ?_⟩
 obtain ⟨y104, q102, hm⟩ := Zg hm
 refine DL_e rfl rfl (Exec.call rfl rfl Try.func42 rfl N42 (Zi rfl (Zi rfl (Zi rfl args_nil))) ((transys_shortest_sim q102 hS104 (a100.mono (Zt l100 l101)) (a101.mono (Zt l100 l101)) (a102.mono (Zt l100 l101)) r100).mono ?_))
 rintro _ w103 ⟨v105, rfl, ⟨s103, _, l102, hS105, rfl, r101⟩⟩
 refine ⟨_, rfl, ?_⟩
 refine ⟨ag_nil, ?_⟩
 refine DL_done (Za rfl rfl (Zo (v := v105) rfl rfl (Za rfl rfl (Zo (v := errV 39 (none)) rfl rfl (Zb (Ze (W_ret ?_)))))))
 have e101 := Zu hm
 subst r
 refine ⟨_, ret2 rfl, ?_⟩
 have hS106 := (hS105).drop
 exact ⟨s103, v105, (Zt (Zt l100 l101) l102), hS106, (tup2 rfl rfl), r101⟩
theorem N20 : (Try.f20.name == "runtime.NumGoroutine") = false := by kernel_rfl
theorem base_Ints_sim {w0 w : World} {s : PHeap} {H : List Res} {a100 : (List Int)} {b100 : (List Int)} {v100 : Value} {v101 : Value} {r : Bool} (hm : base_Ints_p a100 b100 = some r) (hS : St w0 s (H) w) (a101 : SliceRep (encInt .i64) s v100 a100) (a102 : SliceRep (encInt .i64) s v101 b100) :
  Calls Try.prog 20 #[v100, v101] w fun e w' => ∃ v, e = .returned v ∧ ((fun (y100 : Bool) => ∃ (s100 : PHeap) , PHeap.le s s100 ∧ St w0 s100 (H) w' ∧ v = Value.bool (y100)) r) := by
 unfold base_Ints_p at hm
 refine calls_of_W Try.func20 rfl rfl (Zc (Zd (Za rfl rfl (Zo (v := Value.bool (false)) rfl rfl (Zb (Ze (Zc (Zc (Zd ?_)))))))))
 refine Za rfl rfl (Zm (v := v100) rfl rfl (Za rfl rfl (Zr S22 rfl rfl a101 (Za rfl rfl (Zm (v := v101) rfl rfl (Za rfl rfl (Zr S22 rfl rfl a102 (Za rfl rfl (Exec.neq rfl rfl rfl (Zb (Ze ?_)))))))))))
 rcases ite_some hm with ⟨hc100, hm⟩ | ⟨hc100, hm⟩
 ·refine W_cond_t rfl hc100 (Zc (Zd (Za rfl rfl (Zo (v := Value.bool (false)) rfl rfl (Zb (Ze (W_ret (at_ret ?_))))))))
  have e100 := Zu hm
  subst r
  refine ⟨_, ret1 rfl, ?_⟩
  exact ⟨s, (Zv _), hS, rfl⟩
 refine W_cond_f rfl hc100 ?_
 replace hc100 := Zk hc100
 refine W_skip (Ze (Zc (Zc (Zd (Za rfl rfl (Zm (v := v100) rfl rfl (Za rfl rfl (Zr S22 rfl rfl a101 (Za rfl rfl (Zm (v := Value.int .i64 (0)) rfl rfl (Zb (Ze ?_))))))))))))
 obtain ⟨c100, hB100, hr100, hn100, hb100⟩ := ctl_some hm
 refine W_mid (M := fun f' w' => ∃ s', (c100 = .next s' ∨ c100 = .brk s') ∧ (fun (_ : Unit) => ∃ (s101 : PHeap) , PHeap.le s s101 ∧ St w0 s101 (H) w' ∧ f' 0 = v100 ∧ f' 1 = v101 ∧ f' 12 = Value.int .i64 ((a100.length : Int))) s') ?_ ?_
 ·refine W_block (W_forC (fun k' s' f' w' => (fun (_ : Unit) => ∃ (s102 : PHeap) , PHeap.le s s102 ∧ St w0 s102 (H) w' ∧ f' 0 = v100 ∧ f' 1 = v101 ∧ f' 12 = Value.int .i64 ((a100.length : Int)) ∧ f' 13 = Value.int .i64 (k' : Int)) s') hB100 ?_ ?_ ?_)
  ·exact ⟨s, (Zv _), hS, rfl, rfl, rfl, rfl⟩
  ·intro i100 t100 c101 f100 w100 hi100 hI100 hm100 hres100
   obtain ⟨s103, l100, hS100, p100, p101, p102, x100⟩ := hI100
   refine Zc (Zd (Za rfl rfl (Zq rfl x100 p102 (Zb (Ze (Zc (W_true (congrArg Value.bool (decide_eq_true (by omega))) (W_skip (Ze (Zc ?_))))))))))
   refine W_block (Zc (Zd (Za rfl rfl (Zm (v := Value.int .i64 ((i100 : Int))) rfl x100 (Za rfl rfl (Zo (v := Value.int .i64 ((i100 : Int))) rfl rfl (Zb (Ze (Zc (W_dl (n0 := 9) (.q 0 (.q 1 (.q 2 (.q 3 (.q 4 (.q 5 (.q 6 (.q 7 (.q 8 .done))))))))) hmix (by kernel_rfl) (by kernel_rfl) ?_))))))))))
   have hS101 := hS100.drew
   refine DL_q rfl rfl (Zm (v := v100) rfl p100 ⟨rfl, ?_⟩)
   refine DL_q rfl rfl (Zm (v := Value.int .i64 ((i100 : Int))) rfl rfl ⟨rfl, ?_⟩)
   obtain ⟨x101, q100, hm100⟩ := Zg hm100
   refine DL_q rfl rfl (Exec.index_repE S22 rfl rfl rfl (a101.mono l100) q100 ?_)
   intro b101 o100 a103 e101
   refine ⟨rfl, ?_⟩
   refine DL_q rfl rfl (Zw (E := (encInt .i64)) hS101 A3 rfl rfl rfl a103 ?_)
   intro v102 q101
   obtain rfl := encInt_val.1 q101
   refine ⟨rfl, ?_⟩
   refine DL_q rfl rfl (Zm (v := v101) rfl p101 ⟨rfl, ?_⟩)
   refine DL_q rfl rfl (Zm (v := Value.int .i64 ((i100 : Int))) rfl rfl ⟨rfl, ?_⟩)
   obtain ⟨x102, q102, hm100⟩ := Zg hm100
   refine DL_q rfl rfl (Exec.index_repE S22 rfl rfl rfl (a102.mono l100) q102 ?_)
   intro b102 o101 a104 e102
   refine ⟨rfl, ?_⟩
   refine DL_q rfl rfl (Zw (E := (encInt .i64)) hS101 A3 rfl rfl rfl a104 ?_)
   intro v103 q103
   obtain rfl := encInt_val.1 q103
   refine ⟨rfl, ?_⟩
   refine DL_q rfl rfl (Exec.neq rfl rfl rfl ⟨rfl, ?_⟩)
   refine DL_done (Zb (Ze ?_))
   rcases ite_some hm100 with ⟨hc101, hm100⟩ | ⟨hc101, hm100⟩
   ·refine W_cond_t rfl hc101 (Zc (Zd (Za rfl rfl (Zo (v := Value.bool (false)) rfl rfl (Zb (Ze (W_ret (ib_ret (at_ret (at_ret (ib_ret (at_ret (at_ret ?_)))))))))))))
    have e103 := Zu hm100
    subst c101
    have hq100 := hr100 _ (hres100 (by intro _ h; cases h))
    have e104 := Zu hq100
    subst r
    refine ⟨_, ret1 rfl, ?_⟩
    exact ⟨s103, l100, hS101, rfl⟩
   refine W_cond_f rfl hc101 ?_
   replace hc101 := Zk hc101
   refine W_skip (ib_normal (Ze (Zd (Za rfl rfl (Exec.add rfl x100 rfl (Za rfl rfl (Zm (v := Value.int .i64 (IntKind.i64.wrap ((i100 : Int) + 1))) rfl rfl (Zb (Ze ?_)))))))))
   have e105 := Zu hm100
   subst c101
   refine ⟨_, rfl, ?_⟩; exact ⟨s103, l100, hS101, p100, p101, p102, (Eq.trans rfl (wrap_up hi100 (SliceRep.le a101)))⟩
  intro t101 f101 w101 hI101 hres101
  obtain ⟨s104, l101, hS102, p103, p104, p105, x103⟩ := hI101
  refine Zc (Zd (Za rfl rfl (Zq rfl x103 p105 (Zb (Ze (Zc (W_false (congrArg Value.bool (decide_eq_false (by omega))) (W_exit (at_exit (at_exit (ib_here (Ze ?_))))))))))))
  refine ⟨_, .inl hres101, ?_⟩; exact ⟨s104, l101, hS102, p103, p104, p105⟩
 rintro f102 w102 ⟨t102, hc102, hM100⟩
 have hm := hc102.elim (hn100 _) (hb100 _)
 clear hc102
 obtain ⟨s105, l102, hS103, p106, p107, p108⟩ := hM100
 refine (Ze (Zc (Zd (Za rfl rfl (Zo (v := Value.bool (true)) rfl rfl (Zb (Ze (W_ret ?_))))))))
 have e106 := Zu hm
 subst r
 refine ⟨_, ret1 rfl, ?_⟩
 exact ⟨s105, l102, hS103, rfl⟩
theorem N10 : (Try.f10.name == "runtime.NumGoroutine") = false := by kernel_rfl
theorem law44_awake_sim {w0 w : World} {s : PHeap} {H : List Res}   {r : Bool} (hm : law44_awake_p  = some r) (hS : St w0 s (H) w)  :
  Calls Try.prog 10 #[] w fun e w' => ∃ v, e = .returned v ∧ ((fun (y100 : Bool) => ∃ (s100 : PHeap) , PHeap.le s s100 ∧ St w0 s100 (H) w' ∧ v = Value.bool (y100)) r) := by
 unfold law44_awake_p at hm
 refine calls_of_W Try.func10 rfl rfl (Zc (Zd (Za rfl rfl (Zo (v := Value.bool (false)) rfl rfl (Zb (Ze (Zc (Zd (Za rfl rfl (Exec.call rfl rfl Try.func26 rfl N26 args_nil ((law44_example_sim law44_example_tot hS ).mono ?_)))))))))))
 rintro _ w100 ⟨_, rfl, ⟨s101, v100, v101, v102, l100, hS100, rfl, r100, r101, r102⟩⟩
 refine ⟨_, rfl, ?_⟩
 refine Za rfl rfl (Exec.call rfl rfl Try.func26 rfl N26 args_nil ((law44_example_sim law44_example_tot hS100 ).mono ?_))
 rintro _ w101 ⟨_, rfl, ⟨s102, v103, v104, v105, l101, hS101, rfl, r103, r104, r105⟩⟩
 refine ⟨_, rfl, ?_⟩
 obtain ⟨t100, q100, hm⟩ := Zg hm
 obtain ⟨y101, y102⟩ := t100
 replace hm := un2_eq hm
 refine Za rfl rfl (Exec.call rfl rfl Try.func12 rfl N12 (Zi rfl (Zi rfl args_nil)) ((transys_Product_sim q100 hS101 (r100.mono l101) (r101.mono l101) (r102.mono l101) r103 r104 r105).mono ?_))
 rintro _ w102 ⟨_, rfl, ⟨s103, v106, v107, v108, l102, hS102, rfl, r106, r107, r108⟩⟩
 refine ⟨_, rfl, ?_⟩
 refine Za rfl rfl (Zm (v := Value.tuple #[Value.agg #[Value.int .i64 (y102.States), Value.int .i64 (y102.Init), v106, v107, v108], errV 39 (y101)]) rfl rfl (Za rfl rfl (Exec.extract (v := Value.agg #[Value.int .i64 (y102.States), Value.int .i64 (y102.Init), v106, v107, v108]) rfl rfl rfl (Za rfl rfl (Exec.extract (v := errV 39 (y101)) rfl rfl rfl (Za rfl rfl (Exec.alloc (cs := [Value.int .i64 (0), Value.int .i64 (0), Value.slice none 0 0, Value.slice none 0 0, Value.slice none 0 0]) hS102 Z26 rfl rfl ?_)))))))
 intro b100 w103 hS103
 refine Za rfl rfl (Exec.store_box (ds := [Value.int .i64 (y102.States), Value.int .i64 (y102.Init), v106, v107, v108]) (es := [Value.int .i64 (y102.States), Value.int .i64 (y102.Init), v106, v107, v108]) hS103 A26 rfl rfl rfl rfl (Zj rfl (Zj rfl (Zj (r106).one (Zj (r107).one (Zj (r108).one one_nil))))) (Nat.le_of_ble_eq_true rfl) rfl ?_)
 intro w104 hS104
 refine Za rfl rfl (Zo (v := errV 39 (y101)) rfl rfl (Zb (Ze (Zc (Zc (W_mid (M := fun f' w' => ∃ (s104 : PHeap) , PHeap.le s103 s104 ∧ St w0 s104 (Res.box b100 26 [Value.int .i64 (y102.States), Value.int .i64 (y102.Init), v106, v107, v108] :: H) w' ∧ f' 1 = Value.pointer (some ⟨b100, 0, none⟩) ∧ f' 22 = Value.bool ((y101.isSome || ((!decide (y102.States = 4)) || !decide ((y102.Edges.length : Int) = 2))))) ?_ ?_))))))
 ·refine Zd (Za rfl rfl (Zm (v := errV 39 (y101)) rfl rfl (Za rfl rfl (Exec.err_neq_nil (T := 39) Try.underlying30 rfl rfl rfl (Za rfl rfl (Zm (v := Value.bool (y101.isSome)) rfl rfl ?_))))))
  by_cases hc100 : y101.isSome = true
  ·refine Zl rfl (Zf rfl (congrArg Value.bool hc100)) rfl rfl (Zl rfl (Zf rfl (congrArg Value.bool hc100)) rfl rfl (Zl rfl (Zf rfl (congrArg Value.bool hc100)) rfl rfl (Za rfl rfl (Zs (v := Value.bool (true)) rfl (congrArg Value.bool hc100) rfl (Za rfl rfl (Zm (v := Value.bool (true)) rfl rfl (Zl rfl (Zf rfl rfl) rfl rfl (Zl rfl (Zf rfl rfl) rfl rfl (Zl rfl (Zf rfl rfl) rfl rfl ?_)))))))))
   refine Zl rfl (Zf rfl rfl) rfl rfl (Za rfl rfl (Zs (v := Value.bool (true)) rfl rfl rfl (Zb (Ze ?_))))
   exact ⟨s103, (Zv _), hS104, rfl, (congrArg Value.bool (or_t hc100)).symm⟩
  replace hc100 := Zk hc100
  refine WL_run rfl (Zf rfl (congrArg Value.bool hc100)) rfl (Zp F26_0 rfl rfl rfl (WL_run rfl (Zf rfl (congrArg Value.bool hc100)) rfl (Zn (hS104) A3 rfl rfl rfl (WL_run rfl (Zf rfl (congrArg Value.bool hc100)) rfl (Exec.neq rfl rfl rfl (Za rfl rfl (Exec.pick_f (v := Value.bool (!decide (y102.States = 4))) rfl (congrArg Value.bool hc100) rfl (Za rfl rfl (Zm (v := Value.bool (!decide (y102.States = 4))) rfl rfl ?_)))))))))
  by_cases hc101 : (!decide (y102.States = 4)) = true
  ·refine Zl rfl (Zf rfl (congrArg Value.bool hc101)) rfl rfl (Zl rfl (Zf rfl (congrArg Value.bool hc101)) rfl rfl (Zl rfl (Zf rfl (congrArg Value.bool hc101)) rfl rfl (Zl rfl (Zf rfl (congrArg Value.bool hc101)) rfl rfl (Za rfl rfl (Zs (v := Value.bool (true)) rfl (congrArg Value.bool hc101) rfl (Zb (Ze ?_)))))))
   exact ⟨s103, (Zv _), hS104, rfl, (congrArg Value.bool (Eq.trans (or_f hc100) (or_t hc101))).symm⟩
  replace hc101 := Zk hc101
  refine WL_run rfl (Zf rfl (congrArg Value.bool hc101)) rfl (Zp F26_3 rfl rfl rfl (WL_run rfl (Zf rfl (congrArg Value.bool hc101)) rfl (Zn (hS104) A23 rfl rfl rfl (WL_run rfl (Zf rfl (congrArg Value.bool hc101)) rfl (Zr S23 rfl rfl r107 (WL_run rfl (Zf rfl (congrArg Value.bool hc101)) rfl (Exec.neq rfl rfl rfl (Za rfl rfl (Exec.pick_f (v := Value.bool (!decide ((y102.Edges.length : Int) = 2))) rfl (congrArg Value.bool hc101) rfl (Zb (Ze ?_)))))))))))
  exact ⟨s103, (Zv _), hS104, rfl, (congrArg Value.bool (Eq.trans (or_f hc100) (or_f hc101))).symm⟩
 intro f100 w105 hM100
 obtain ⟨s105, l103, hS105, p100, p101⟩ := hM100
 refine (Ze ?_)
 rcases ite_some hm with ⟨hc102, hm⟩ | ⟨hc102, hm⟩
 ·refine W_cond_t p101 hc102 (Zc (Zd (Za rfl rfl (Zo (v := Value.bool (false)) rfl rfl (Zb (Ze (W_ret (at_ret ?_))))))))
  have e100 := Zu hm
  subst r
  refine ⟨_, ret1 rfl, ?_⟩
  have hS106 := (hS105).drop
  exact ⟨s105, (Zt (Zt (Zt l100 l101) l102) l103), hS106, rfl⟩
 refine W_cond_f p101 hc102 ?_
 replace hc102 := Zk hc102
 refine W_skip (Ze (Zc (Zd (Za rfl rfl (Exec.load_box_agg (ds := [Value.int .i64 (y102.States), Value.int .i64 (y102.Init), v106, v107, v108]) (hS105) A26 rfl p100 rfl ?_)))))
 obtain ⟨t101, q101, hm⟩ := Zg hm
 obtain ⟨y103, y104⟩ := t101
 replace hm := un2_eq hm
 refine Za rfl rfl (Exec.call rfl rfl Try.func18 rfl N18 (Zi rfl args_nil) ((transys_Distances_sim q101 hS105 (r106.mono l103) (r107.mono l103) (r108.mono l103)).mono ?_))
 rintro _ w106 ⟨_, rfl, ⟨s106, v109, l104, hS107, rfl, r109⟩⟩
 refine ⟨_, rfl, ?_⟩
 refine Za rfl rfl (Zm (v := Value.tuple #[v109, errV 39 (y104)]) rfl rfl (Za rfl rfl (Exec.extract (v := v109) rfl rfl rfl (Za rfl rfl (Exec.extract (v := errV 39 (y104)) rfl rfl rfl (Za rfl rfl (Zo (v := v109) rfl rfl (Za rfl rfl (Zo (v := errV 39 (y104)) rfl rfl (Zb (Ze (Zc ?_))))))))))))
 obtain ⟨z100, ht100, hm⟩ := Zg hm
 refine W_mid (M := fun f' w' => (fun (z100 : Bool) => ∃ (s107 : PHeap) , PHeap.le s106 s107 ∧ St w0 s107 (H) w' ∧ f' 0 = Value.bool (z100)) z100) ?_ ?_
 ·refine Zd (Za rfl rfl (Zm (v := errV 39 (y104)) rfl rfl (Za rfl rfl (Exec.err_eql_nil (T := 39) Try.underlying30 rfl rfl rfl (Za rfl rfl (Zm (v := Value.bool (y104.isNone)) rfl rfl ?_))))))
  rcases ite_some ht100 with ⟨hc103, ht100⟩ | ⟨hc103, ht100⟩
  ·refine WL_run rfl (Zf rfl (congrArg Value.bool hc103)) rfl (Zm (v := v109) rfl rfl (WL_run rfl (Zf rfl (congrArg Value.bool hc103)) rfl (Exec.buildSlice (Te := 3) (cs := [Value.int .i64 (2), Value.int .i64 (1125899906842624), Value.int .i64 (1125899906842624), Value.int .i64 (0)]) hS107 rfl (parts_cons (c := [Value.int .i64 (2)]) (cells_of rfl rfl) (parts_cons (c := [Value.int .i64 (1125899906842624)]) (cells_of rfl rfl) (parts_cons (c := [Value.int .i64 (1125899906842624)]) (cells_of rfl rfl) (parts_cons (c := [Value.int .i64 (0)]) (cells_of rfl rfl) parts_nil)))) (fun _ => by kernel_rfl) ?_)))
   intro b101 w107 hS108
   have hS109 := St.boxArr (E := (encInt .i64)) (xs := [2, 1125899906842624, 1125899906842624, 0]) hS108 ⟨[Value.int .i64 (2)], [Value.int .i64 (1125899906842624), Value.int .i64 (1125899906842624), Value.int .i64 (0)], rfl, rfl, ⟨[Value.int .i64 (1125899906842624)], [Value.int .i64 (1125899906842624), Value.int .i64 (0)], rfl, rfl, ⟨[Value.int .i64 (1125899906842624)], [Value.int .i64 (0)], rfl, rfl, ⟨[Value.int .i64 (0)], [], rfl, rfl, rfl⟩⟩⟩⟩ (by simp [maxLen])
   obtain ⟨s108, l105, hS110, r110⟩ := hS109.freezeArr
   obtain ⟨y105, q102, ht100⟩ := Zg ht100
   refine WL_run rfl (Zf rfl (congrArg Value.bool hc103)) rfl (Exec.call rfl rfl Try.func20 rfl N20 (Zi rfl (Zi rfl args_nil)) ((base_Ints_sim q102 hS110 (r109.mono l105) r110).mono ?_))
   rintro _ w108 ⟨_, rfl, ⟨s109, l106, hS111, rfl⟩⟩
   refine ⟨_, rfl, ?_⟩
   refine Za rfl rfl (Zs (v := Value.bool (y105)) rfl (congrArg Value.bool hc103) rfl (Za rfl rfl (Zo (v := Value.bool (y105)) rfl rfl (Zb (Ze ?_)))))
   have e101 := Zu ht100
   subst z100
   have hS112 := (hS111).drop
   exact ⟨s109, (Zt l105 l106), hS112, rfl⟩
  replace hc103 := Zk hc103
  refine Zl rfl (Zf rfl (congrArg Value.bool hc103)) rfl rfl (Zl rfl (Zf rfl (congrArg Value.bool hc103)) rfl rfl (Zl rfl (Zf rfl (congrArg Value.bool hc103)) rfl rfl (Za rfl rfl (Exec.pick_f (v := Value.bool (false)) rfl (congrArg Value.bool hc103) rfl (Za rfl rfl (Zo (v := Value.bool (false)) rfl rfl (Zb (Ze ?_))))))))
  have e102 := Zu ht100
  subst z100
  have hS113 := (hS107).drop
  exact ⟨s106, (Zv _), hS113, rfl⟩
 intro f101 w109 hM101
 obtain ⟨s110, l107, hS114, p102⟩ := hM101
 refine (Ze (W_ret ?_))
 have e103 := Zu hm
 subst r
 refine ⟨_, ret1 rfl, ?_⟩
 exact ⟨s110, (Zt (Zt (Zt (Zt (Zt l100 l101) l102) l103) l104) l107), hS114, p102⟩
theorem A55 : tyAgg Try.prog 55 = some (true, 4) := by kernel_rfl
theorem F55_0 : tyField Try.prog 55 0 = some 0 := by kernel_rfl
theorem F55_3 : tyField Try.prog 55 3 = some 3 := by kernel_rfl
theorem A53 : tyAgg Try.prog 53 = some (false, 1) := by kernel_rfl
theorem S53 : tySlice Try.prog 53 = some (79, 4, 72) := by kernel_rfl
theorem A79 : tyAgg Try.prog 79 = some (true, 4) := by kernel_rfl
theorem Z79 : tyZero Try.prog 79 = some (Value.agg #[Value.string ⟨#[]⟩, Value.int .i64 (0), Value.slice none 0 0, Value.slice none 0 0]) := by kernel_rfl
theorem F79_3 : tyField Try.prog 79 3 = some 3 := by kernel_rfl
theorem A77 : tyAgg Try.prog 77 = some (false, 1) := by kernel_rfl
theorem S77 : tySlice Try.prog 77 = some (93, 3, 40) := by kernel_rfl
theorem F55_1 : tyField Try.prog 55 1 = some 1 := by kernel_rfl
theorem N46 : (Try.f46.name == "runtime.NumGoroutine") = false := by kernel_rfl
theorem base_State_sim {w0 w : World} {s : PHeap} {H : List Res} {vars100 : (List Int)} {s_100 : (List Int)} {v100 : Value} {v101 : Value} {r : Bool} (hm : base_State_p vars100 s_100 = some r) (hS : St w0 s (H) w) (a100 : SliceRep (encInt .i64) s v100 vars100) (a101 : SliceRep (encInt .i64) s v101 s_100) :
  Calls Try.prog 46 #[v100, v101] w fun e w' => ∃ v, e = .returned v ∧ ((fun (y100 : Bool) => ∃ (s100 : PHeap) , PHeap.le s s100 ∧ St w0 s100 (H) w' ∧ v = Value.bool (y100)) r) := by
 unfold base_State_p at hm
 refine calls_of_W Try.func46 rfl rfl (Zc (Zd (Za rfl rfl (Zo (v := Value.bool (false)) rfl rfl (Zb (Ze (Zc (Zc (Zd ?_)))))))))
 refine Za rfl rfl (Zm (v := v101) rfl rfl (Za rfl rfl (Zr S22 rfl rfl a101 (Za rfl rfl (Zm (v := v100) rfl rfl (Za rfl rfl (Zr S22 rfl rfl a100 (Za rfl rfl (Exec.neq rfl rfl rfl (Zb (Ze ?_)))))))))))
 rcases ite_some hm with ⟨hc100, hm⟩ | ⟨hc100, hm⟩
 ·refine W_cond_t rfl hc100 (Zc (Zd (Za rfl rfl (Zo (v := Value.bool (false)) rfl rfl (Zb (Ze (W_ret (at_ret ?_))))))))
  have e100 := Zu hm
  subst r
  refine ⟨_, ret1 rfl, ?_⟩
  exact ⟨s, (Zv _), hS, rfl⟩
 refine W_cond_f rfl hc100 ?_
 replace hc100 := Zk hc100
 refine W_skip (Ze (Zc (Zc (Zd (Za rfl rfl (Zm (v := v101) rfl rfl (Za rfl rfl (Zr S22 rfl rfl a101 (Za rfl rfl (Zm (v := Value.int .i64 (0)) rfl rfl (Zb (Ze ?_))))))))))))
 obtain ⟨c100, hB100, hr100, hn100, hb100⟩ := ctl_some hm
 refine W_mid (M := fun f' w' => ∃ s', (c100 = .next s' ∨ c100 = .brk s') ∧ (fun (_ : Unit) => ∃ (s101 : PHeap) , PHeap.le s s101 ∧ St w0 s101 (H) w' ∧ f' 0 = v100 ∧ f' 1 = v101 ∧ f' 12 = Value.int .i64 ((s_100.length : Int))) s') ?_ ?_
 ·refine W_block (W_forC (fun k' s' f' w' => (fun (_ : Unit) => ∃ (s102 : PHeap) , PHeap.le s s102 ∧ St w0 s102 (H) w' ∧ f' 0 = v100 ∧ f' 1 = v101 ∧ f' 12 = Value.int .i64 ((s_100.length : Int)) ∧ f' 13 = Value.int .i64 (k' : Int)) s') hB100 ?_ ?_ ?_)
  ·exact ⟨s, (Zv _), hS, rfl, rfl, rfl, rfl⟩
  ·intro i100 t100 c101 f100 w100 hi100 hI100 hm100 hres100
   obtain ⟨s103, l100, hS100, p100, p101, p102, x100⟩ := hI100
   refine Zc (Zd (Za rfl rfl (Zq rfl x100 p102 (Zb (Ze (Zc (W_true (congrArg Value.bool (decide_eq_true (by omega))) (W_skip (Ze (Zc ?_))))))))))
   refine W_block (Zc (Zd (Za rfl rfl (Zm (v := Value.int .i64 ((i100 : Int))) rfl x100 (Za rfl rfl (Zo (v := Value.int .i64 ((i100 : Int))) rfl rfl (Zb (Ze (Zc ?_)))))))))
   obtain ⟨z100, ht100, hm100⟩ := Zg hm100
   refine W_mid (M := fun f' w' => (fun (z100 : Bool) => ∃ (s104 : PHeap) , PHeap.le s103 s104 ∧ St w0 s104 (H) w' ∧ f' 0 = v100 ∧ f' 1 = v101 ∧ f' 12 = Value.int .i64 ((s_100.length : Int)) ∧ f' 13 = Value.int .i64 ((i100 : Int)) ∧ f' 31 = Value.bool (z100)) z100) ?_ ?_
   ·refine W_dl (n0 := 16) (.q 0 (.q 1 (.q 2 (.q 3 (.q 4 (.q 5 (.q 6 (.q 7 (.q 8 (.q 9 (.q 10 (.q 11 (.q 12 (.q 13 (.q 14 (.q 15 .done)))))))))))))))) hmix (by kernel_rfl) (by kernel_rfl) ?_
    have hS101 := hS100.drew
    refine DL_q rfl rfl (Zm (v := v101) rfl p101 ⟨rfl, ?_⟩)
    refine DL_q rfl rfl (Zm (v := Value.int .i64 ((i100 : Int))) rfl rfl ⟨rfl, ?_⟩)
    obtain ⟨x101, q100, ht100⟩ := Zg ht100
    refine DL_q rfl rfl (Exec.index_repE S22 rfl rfl rfl (a101.mono l100) q100 ?_)
    intro b100 o100 a102 e101
    refine ⟨rfl, ?_⟩
    refine DL_q rfl rfl (Zw (E := (encInt .i64)) hS101 A3 rfl rfl rfl a102 ?_)
    intro v102 q101
    obtain rfl := encInt_val.1 q101
    refine ⟨rfl, ?_⟩
    refine DL_q rfl rfl (Zq rfl rfl rfl ⟨rfl, ?_⟩)
    refine DL_q rfl rfl (Zm (v := Value.bool (decide (x101 < 0))) rfl rfl ⟨rfl, ?_⟩)
    rcases ite_some ht100 with ⟨hc101, ht100⟩ | ⟨hc101, ht100⟩
    ·refine DL_qp rfl rfl (Zf rfl (congrArg Value.bool hc101)) rfl (DL_qp rfl rfl (Zf rfl (congrArg Value.bool hc101)) rfl (DL_qp rfl rfl (Zf rfl (congrArg Value.bool hc101)) rfl (DL_qp rfl rfl (Zf rfl (congrArg Value.bool hc101)) rfl (DL_qp rfl rfl (Zf rfl (congrArg Value.bool hc101)) rfl (DL_qp rfl rfl (Zf rfl (congrArg Value.bool hc101)) rfl (DL_qp rfl rfl (Zf rfl (congrArg Value.bool hc101)) rfl (DL_qp rfl rfl (Zf rfl (congrArg Value.bool hc101)) rfl ?_)))))))
     refine DL_qp rfl rfl (Zf rfl (congrArg Value.bool hc101)) rfl (DL_q rfl rfl (Zs (v := Value.bool (true)) rfl (congrArg Value.bool hc101) rfl ⟨rfl, ?_⟩))
     refine DL_done (Zb (Ze ?_))
     have e102 := Zu ht100
     subst z100
     exact ⟨s103, (Zv _), hS101, p100, p101, p102, x100, rfl⟩
    replace hc101 := Zk hc101
    refine DL_qg rfl rfl (Zf rfl (congrArg Value.bool hc101)) (Zm (v := v101) rfl p101 ⟨rfl, ?_⟩)
    refine DL_qg rfl rfl (Zf rfl (congrArg Value.bool hc101)) (Zm (v := Value.int .i64 ((i100 : Int))) rfl rfl ⟨rfl, ?_⟩)
    refine DL_qg rfl rfl (Zf rfl (congrArg Value.bool hc101)) (Exec.index_repE S22 rfl rfl rfl (a101.mono l100) q100 ?_)
    intro b101 o101 a103 e103
    refine ⟨rfl, ?_⟩
    refine DL_qg rfl rfl (Zf rfl (congrArg Value.bool hc101)) (Zw (E := (encInt .i64)) hS101 A3 rfl rfl rfl a103 ?_)
    intro v103 q102
    obtain rfl := encInt_val.1 q102
    refine ⟨rfl, ?_⟩
    refine DL_qg rfl rfl (Zf rfl (congrArg Value.bool hc101)) (Zm (v := v100) rfl p100 ⟨rfl, ?_⟩)
    refine DL_qg rfl rfl (Zf rfl (congrArg Value.bool hc101)) (Zm (v := Value.int .i64 ((i100 : Int))) rfl rfl ⟨rfl, ?_⟩)
    obtain ⟨x102, q103, ht100⟩ := Zg ht100
    refine DL_qg rfl rfl (Zf rfl (congrArg Value.bool hc101)) (Exec.index_repE S22 rfl rfl rfl (a100.mono l100) q103 ?_)
    intro b102 o102 a104 e104
    refine ⟨rfl, ?_⟩
    refine DL_qg rfl rfl (Zf rfl (congrArg Value.bool hc101)) (Zw (E := (encInt .i64)) hS101 A3 rfl rfl rfl a104 ?_)
    intro v104 q104
    obtain rfl := encInt_val.1 q104
    refine ⟨rfl, ?_⟩
    refine DL_qg rfl rfl (Zf rfl (congrArg Value.bool hc101)) (Exec.geq rfl rfl rfl ⟨rfl, ?_⟩)
    refine DL_q rfl rfl (Exec.pick_f (v := Value.bool (decide (x102 ≤ x101))) rfl (congrArg Value.bool hc101) rfl ⟨rfl, ?_⟩)
    refine DL_done (Zb (Ze ?_))
    have e105 := Zu ht100
    subst z100
    exact ⟨s103, (Zv _), hS101, p100, p101, p102, x100, rfl⟩
   intro f101 w101 hM100
   obtain ⟨s105, l101, hS102, p103, p104, p105, p106, p107⟩ := hM100
   refine (Ze ?_)
   rcases ite_some hm100 with ⟨hc102, hm100⟩ | ⟨hc102, hm100⟩
   ·refine W_cond_t p107 hc102 (Zc (Zd (Za rfl rfl (Zo (v := Value.bool (false)) rfl rfl (Zb (Ze (W_ret (ib_ret (at_ret (at_ret (ib_ret (at_ret (at_ret ?_)))))))))))))
    have e106 := Zu hm100
    subst c101
    have hq100 := hr100 _ (hres100 (by intro _ h; cases h))
    have e107 := Zu hq100
    subst r
    refine ⟨_, ret1 rfl, ?_⟩
    exact ⟨s105, (Zt l100 l101), hS102, rfl⟩
   refine W_cond_f p107 hc102 ?_
   replace hc102 := Zk hc102
   refine W_skip (ib_normal (Ze (Zd (Za rfl rfl (Exec.add rfl p106 rfl (Za rfl rfl (Zm (v := Value.int .i64 (IntKind.i64.wrap ((i100 : Int) + 1))) rfl rfl (Zb (Ze ?_)))))))))
   have e108 := Zu hm100
   subst c101
   refine ⟨_, rfl, ?_⟩; exact ⟨s105, (Zt l100 l101), hS102, p103, p104, p105, (Eq.trans rfl (wrap_up hi100 (SliceRep.le a101)))⟩
  intro t101 f102 w102 hI101 hres101
  obtain ⟨s106, l102, hS103, p108, p109, p110, x103⟩ := hI101
  refine Zc (Zd (Za rfl rfl (Zq rfl x103 p110 (Zb (Ze (Zc (W_false (congrArg Value.bool (decide_eq_false (by omega))) (W_exit (at_exit (at_exit (ib_here (Ze ?_))))))))))))
  refine ⟨_, .inl hres101, ?_⟩; exact ⟨s106, l102, hS103, p108, p109, p110⟩
 rintro f103 w103 ⟨t102, hc103, hM101⟩
 have hm := hc103.elim (hn100 _) (hb100 _)
 clear hc103
 obtain ⟨s107, l103, hS104, p111, p112, p113⟩ := hM101
 refine (Ze (Zc (Zd (Za rfl rfl (Zo (v := Value.bool (true)) rfl rfl (Zb (Ze (W_ret ?_))))))))
 have e109 := Zu hm
 subst r
 refine ⟨_, ret1 rfl, ?_⟩
 exact ⟨s107, l103, hS104, rfl⟩
theorem F55_2 : tyField Try.prog 55 2 = some 2 := by kernel_rfl
theorem A52 : tyAgg Try.prog 52 = some (false, 1) := by kernel_rfl
theorem S52 : tySlice Try.prog 52 = some (82, 2, 16) := by kernel_rfl
theorem A82 : tyAgg Try.prog 82 = some (true, 2) := by kernel_rfl
theorem Z82 : tyZero Try.prog 82 = some (Value.agg #[Value.int .i64 (0), Value.int .i64 (0)]) := by kernel_rfl
theorem F82_0 : tyField Try.prog 82 0 = some 0 := by kernel_rfl
theorem F82_1 : tyField Try.prog 82 1 = some 1 := by kernel_rfl
theorem N47 : (Try.f47.name == "runtime.NumGoroutine") = false := by kernel_rfl
theorem base_Proper_sim {w0 w : World} {s : PHeap} {H : List Res} {vars100 : (List Int)} {f_100 : (List Fact)} {v100 : Value} {v101 : Value} {r : Bool} (hm : base_Proper_p vars100 f_100 = some r) (hS : St w0 s (H) w) (a100 : SliceRep (encInt .i64) s v100 vars100) (a101 : SliceRep encFact s v101 f_100) :
  Calls Try.prog 47 #[v100, v101] w fun e w' => ∃ v, e = .returned v ∧ ((fun (y100 : Bool) => ∃ (s100 : PHeap) , PHeap.le s s100 ∧ St w0 s100 (H) w' ∧ v = Value.bool (y100)) r) := by
 unfold base_Proper_p at hm
 refine calls_of_W Try.func47 rfl rfl (Zc (Zd (Za rfl rfl (Zo (v := Value.bool (false)) rfl rfl (Zb (Ze (Zc (Zc (Zd ?_)))))))))
 refine Za rfl rfl (Zm (v := v101) rfl rfl (Za rfl rfl (Zr S52 rfl rfl a101 (Za rfl rfl (Zm (v := Value.int .i64 (0)) rfl rfl (Zb (Ze ?_)))))))
 obtain ⟨c100, hB100, hr100, hn100, hb100⟩ := ctl_some hm
 refine W_mid (M := fun f' w' => ∃ s', (c100 = .next s' ∨ c100 = .brk s') ∧ (fun (_ : Unit) => ∃ (s101 : PHeap) , PHeap.le s s101 ∧ St w0 s101 (H) w' ∧ f' 0 = v100 ∧ f' 1 = v101 ∧ f' 7 = v101 ∧ f' 8 = Value.int .i64 ((f_100.length : Int))) s') ?_ ?_
 ·refine W_block (W_forC (fun k' s' f' w' => (fun (_ : Unit) => ∃ (s102 : PHeap) , PHeap.le s s102 ∧ St w0 s102 (H) w' ∧ f' 0 = v100 ∧ f' 1 = v101 ∧ f' 7 = v101 ∧ f' 8 = Value.int .i64 ((f_100.length : Int)) ∧ f' 9 = Value.int .i64 (k' : Int)) s') hB100 ?_ ?_ ?_)
  ·exact ⟨s, (Zv _), hS, rfl, rfl, rfl, rfl, rfl⟩
  ·intro i100 t100 c101 f100 w100 hi100 hI100 hm100 hres100
   obtain ⟨s103, l100, hS100, p100, p101, p102, p103, x100⟩ := hI100
   refine Zc (Zd (Za rfl rfl (Zq rfl x100 p103 (Zb (Ze (Zc (W_true (congrArg Value.bool (decide_eq_true (by omega))) (W_skip (Ze (Zc ?_))))))))))
   refine W_block (Zc (Zd (Za rfl rfl (Zm (v := Value.int .i64 ((i100 : Int))) rfl x100 ?_))))
   obtain ⟨x101, q100, hm100⟩ := Zg hm100
   refine Za rfl rfl (Exec.index_rep S52 rfl p102 x100 (a101.mono l100) q100 ?_)
   intro b100 o100 a102
   refine Za rfl rfl (Zw (E := encFact) hS100 A82 rfl rfl rfl a102 ?_)
   intro v102 q101
   obtain rfl := encFact_val.1 q101
   refine Za rfl rfl (Exec.alloc (cs := [Value.int .i64 (0), Value.int .i64 (0)]) hS100 Z82 rfl rfl ?_)
   intro b101 w101 hS101
   refine Za rfl rfl (Zo (v := Value.int .i64 ((i100 : Int))) rfl rfl (Za rfl rfl (Exec.store_box (ds := [Value.int .i64 (x101.Var), Value.int .i64 (x101.Val)]) (es := [Value.int .i64 (x101.Var), Value.int .i64 (x101.Val)]) hS101 A82 rfl rfl rfl rfl (Zj rfl (Zj rfl one_nil)) (Nat.le_of_ble_eq_true rfl) rfl ?_)))
   intro w102 hS102
   refine Zb (Ze (Zc ?_))
   obtain ⟨z100, ht100, hm100⟩ := Zg hm100
   refine W_mid (M := fun f' w' => (fun (z100 : Bool) => ∃ (s104 : PHeap) , PHeap.le s103 s104 ∧ St w0 s104 (H) w' ∧ f' 0 = v100 ∧ f' 1 = v101 ∧ f' 7 = v101 ∧ f' 8 = Value.int .i64 ((f_100.length : Int)) ∧ f' 9 = Value.int .i64 ((i100 : Int)) ∧ f' 53 = Value.bool (z100)) z100) ?_ ?_
   ·refine W_dl (n0 := 40) (.q 0 (.q 1 (.q 2 (.q 3 (.q 4 (.q 5 (.q 6 (.q 7 (.q 8 (.q 9 (.q 10 (.q 11 (.q 12 (.q 13 (.q 14 (.q 15 (.q 16 (.q 17 (.q 18 (.q 19 (.q 20 (.q 21 (.q 22 (.q 23 (.q 24 (.q 25 (.q 26 (.q 27 (.q 28 (.q 29 (.q 30 (.q 31 (.q 32 (.q 33 (.q 34 (.q 35 (.q 36 (.q 37 (.q 38 (.q 39 .done)))))))))))))))))))))))))))))))))))))))) hmix (by kernel_rfl) (by kernel_rfl) ?_
    have hS103 := hS102.drew
    refine DL_q rfl rfl (Zp F82_0 rfl rfl rfl ⟨rfl, ?_⟩)
    refine DL_q rfl rfl (Zn (hS103) A3 rfl rfl rfl ⟨rfl, ?_⟩)
    refine DL_q rfl rfl (Zq rfl rfl rfl ⟨rfl, ?_⟩)
    refine DL_q rfl rfl (Zm (v := Value.bool (decide (x101.Var < 0))) rfl rfl ⟨rfl, ?_⟩)
    rcases ite_some ht100 with ⟨hc100, ht100⟩ | ⟨hc100, ht100⟩
    ·refine DL_qp rfl rfl (Zf rfl (congrArg Value.bool hc100)) rfl (DL_qp rfl rfl (Zf rfl (congrArg Value.bool hc100)) rfl (DL_qp rfl rfl (Zf rfl (congrArg Value.bool hc100)) rfl (DL_qp rfl rfl (Zf rfl (congrArg Value.bool hc100)) rfl (DL_qp rfl rfl (Zf rfl (congrArg Value.bool hc100)) rfl (DL_q rfl rfl (Zs (v := Value.bool (true)) rfl (congrArg Value.bool hc100) rfl ⟨rfl, ?_⟩))))))
     refine DL_q rfl rfl (Zm (v := Value.bool (true)) rfl rfl ⟨rfl, ?_⟩)
     refine DL_qp rfl rfl (Zf rfl rfl) rfl (DL_qp rfl rfl (Zf rfl rfl) rfl (DL_qp rfl rfl (Zf rfl rfl) rfl (DL_q rfl rfl (Zs (v := Value.bool (true)) rfl rfl rfl ⟨rfl, ?_⟩))))
     refine DL_q rfl rfl (Zm (v := Value.bool (true)) rfl rfl ⟨rfl, ?_⟩)
     refine DL_qp rfl rfl (Zf rfl rfl) rfl (DL_qp rfl rfl (Zf rfl rfl) rfl (DL_qp rfl rfl (Zf rfl rfl) rfl (DL_qp rfl rfl (Zf rfl rfl) rfl (DL_qp rfl rfl (Zf rfl rfl) rfl (DL_qp rfl rfl (Zf rfl rfl) rfl (DL_qp rfl rfl (Zf rfl rfl) rfl (DL_qp rfl rfl (Zf rfl rfl) rfl ?_)))))))
     refine DL_q rfl rfl (Zs (v := Value.bool (true)) rfl rfl rfl ⟨rfl, ?_⟩)
     refine DL_q rfl rfl (Zm (v := Value.bool (true)) rfl rfl ⟨rfl, ?_⟩)
     refine DL_qp rfl rfl (Zf rfl rfl) rfl (DL_qp rfl rfl (Zf rfl rfl) rfl (DL_qp rfl rfl (Zf rfl rfl) rfl (DL_qn rfl rfl (Zh rfl rfl) (DL_qn rfl rfl (Zh rfl rfl) (DL_qn rfl rfl (Zh rfl rfl) (DL_qn rfl rfl (Zh rfl rfl) (DL_qn rfl rfl (Zh rfl rfl) ?_)))))))
     refine DL_qn rfl rfl (Zh rfl rfl) (DL_qn rfl rfl (Zh rfl rfl) (DL_qn rfl rfl (Zh rfl rfl) (DL_qn rfl rfl (Zh rfl rfl) (DL_qp rfl rfl (Zf rfl rfl) rfl (DL_q rfl rfl (Zs (v := Value.bool (true)) rfl rfl rfl ⟨rfl, ?_⟩))))))
     refine DL_done (Zb (Ze ?_))
     have e100 := Zu ht100
     subst z100
     have hS104 := (hS103).drop
     exact ⟨s103, (Zv _), hS104, p100, p101, p102, p103, x100, rfl⟩
    replace hc100 := Zk hc100
    refine DL_qg rfl rfl (Zf rfl (congrArg Value.bool hc100)) (Zp F82_0 rfl rfl rfl ⟨rfl, ?_⟩)
    refine DL_qg rfl rfl (Zf rfl (congrArg Value.bool hc100)) (Zn (hS103) A3 rfl rfl rfl ⟨rfl, ?_⟩)
    refine DL_qg rfl rfl (Zf rfl (congrArg Value.bool hc100)) (Zm (v := v100) rfl p100 ⟨rfl, ?_⟩)
    refine DL_qg rfl rfl (Zf rfl (congrArg Value.bool hc100)) (Zr S22 rfl rfl (a100.mono l100) ⟨rfl, ?_⟩)
    refine DL_qg rfl rfl (Zf rfl (congrArg Value.bool hc100)) (Exec.geq rfl rfl rfl ⟨rfl, ?_⟩)
    refine DL_q rfl rfl (Exec.pick_f (v := Value.bool (decide ((vars100.length : Int) ≤ x101.Var))) rfl (congrArg Value.bool hc100) rfl ⟨rfl, ?_⟩)
    refine DL_q rfl rfl (Zm (v := Value.bool (decide ((vars100.length : Int) ≤ x101.Var))) rfl rfl ⟨rfl, ?_⟩)
    rcases ite_some ht100 with ⟨hc101, ht100⟩ | ⟨hc101, ht100⟩
    ·refine DL_qp rfl rfl (Zf rfl (congrArg Value.bool hc101)) rfl (DL_qp rfl rfl (Zf rfl (congrArg Value.bool hc101)) rfl (DL_qp rfl rfl (Zf rfl (congrArg Value.bool hc101)) rfl (DL_q rfl rfl (Zs (v := Value.bool (true)) rfl (congrArg Value.bool hc101) rfl ⟨rfl, ?_⟩))))
     refine DL_q rfl rfl (Zm (v := Value.bool (true)) rfl rfl ⟨rfl, ?_⟩)
     refine DL_qp rfl rfl (Zf rfl rfl) rfl (DL_qp rfl rfl (Zf rfl rfl) rfl (DL_qp rfl rfl (Zf rfl rfl) rfl (DL_qp rfl rfl (Zf rfl rfl) rfl (DL_qp rfl rfl (Zf rfl rfl) rfl (DL_qp rfl rfl (Zf rfl rfl) rfl (DL_qp rfl rfl (Zf rfl rfl) rfl (DL_qp rfl rfl (Zf rfl rfl) rfl ?_)))))))
     refine DL_q rfl rfl (Zs (v := Value.bool (true)) rfl rfl rfl ⟨rfl, ?_⟩)
     refine DL_q rfl rfl (Zm (v := Value.bool (true)) rfl rfl ⟨rfl, ?_⟩)
     refine DL_qp rfl rfl (Zf rfl rfl) rfl (DL_qp rfl rfl (Zf rfl rfl) rfl (DL_qp rfl rfl (Zf rfl rfl) rfl (DL_qn rfl rfl (Zh rfl rfl) (DL_qn rfl rfl (Zh rfl rfl) (DL_qn rfl rfl (Zh rfl rfl) (DL_qn rfl rfl (Zh rfl rfl) (DL_qn rfl rfl (Zh rfl rfl) ?_)))))))
     refine DL_qn rfl rfl (Zh rfl rfl) (DL_qn rfl rfl (Zh rfl rfl) (DL_qn rfl rfl (Zh rfl rfl) (DL_qn rfl rfl (Zh rfl rfl) (DL_qp rfl rfl (Zf rfl rfl) rfl (DL_q rfl rfl (Zs (v := Value.bool (true)) rfl rfl rfl ⟨rfl, ?_⟩))))))
     refine DL_done (Zb (Ze ?_))
     have e101 := Zu ht100
     subst z100
     have hS105 := (hS103).drop
     exact ⟨s103, (Zv _), hS105, p100, p101, p102, p103, x100, rfl⟩
    replace hc101 := Zk hc101
    refine DL_qg rfl rfl (Zf rfl (congrArg Value.bool hc101)) (Zp F82_1 rfl rfl rfl ⟨rfl, ?_⟩)
    refine DL_qg rfl rfl (Zf rfl (congrArg Value.bool hc101)) (Zn (hS103) A3 rfl rfl rfl ⟨rfl, ?_⟩)
    refine DL_qg rfl rfl (Zf rfl (congrArg Value.bool hc101)) (Zq rfl rfl rfl ⟨rfl, ?_⟩)
    refine DL_q rfl rfl (Exec.pick_f (v := Value.bool (decide (x101.Val < 0))) rfl (congrArg Value.bool hc101) rfl ⟨rfl, ?_⟩)
    refine DL_q rfl rfl (Zm (v := Value.bool (decide (x101.Val < 0))) rfl rfl ⟨rfl, ?_⟩)
    rcases ite_some ht100 with ⟨hc102, ht100⟩ | ⟨hc102, ht100⟩
    ·refine DL_qp rfl rfl (Zf rfl (congrArg Value.bool hc102)) rfl (DL_qp rfl rfl (Zf rfl (congrArg Value.bool hc102)) rfl (DL_qp rfl rfl (Zf rfl (congrArg Value.bool hc102)) rfl (DL_qp rfl rfl (Zf rfl (congrArg Value.bool hc102)) rfl (DL_qp rfl rfl (Zf rfl (congrArg Value.bool hc102)) rfl (DL_qp rfl rfl (Zf rfl (congrArg Value.bool hc102)) rfl (DL_qp rfl rfl (Zf rfl (congrArg Value.bool hc102)) rfl (DL_qp rfl rfl (Zf rfl (congrArg Value.bool hc102)) rfl ?_)))))))
     refine DL_q rfl rfl (Zs (v := Value.bool (true)) rfl (congrArg Value.bool hc102) rfl ⟨rfl, ?_⟩)
     refine DL_q rfl rfl (Zm (v := Value.bool (true)) rfl rfl ⟨rfl, ?_⟩)
     refine DL_qp rfl rfl (Zf rfl rfl) rfl (DL_qp rfl rfl (Zf rfl rfl) rfl (DL_qp rfl rfl (Zf rfl rfl) rfl (DL_qn rfl rfl (Zh rfl rfl) (DL_qn rfl rfl (Zh rfl rfl) (DL_qn rfl rfl (Zh rfl rfl) (DL_qn rfl rfl (Zh rfl rfl) (DL_qn rfl rfl (Zh rfl rfl) ?_)))))))
     refine DL_qn rfl rfl (Zh rfl rfl) (DL_qn rfl rfl (Zh rfl rfl) (DL_qn rfl rfl (Zh rfl rfl) (DL_qn rfl rfl (Zh rfl rfl) (DL_qp rfl rfl (Zf rfl rfl) rfl (DL_q rfl rfl (Zs (v := Value.bool (true)) rfl rfl rfl ⟨rfl, ?_⟩))))))
     refine DL_done (Zb (Ze ?_))
     have e102 := Zu ht100
     subst z100
     have hS106 := (hS103).drop
     exact ⟨s103, (Zv _), hS106, p100, p101, p102, p103, x100, rfl⟩
    replace hc102 := Zk hc102
    refine DL_qg rfl rfl (Zf rfl (congrArg Value.bool hc102)) (Zp F82_1 rfl rfl rfl ⟨rfl, ?_⟩)
    refine DL_qg rfl rfl (Zf rfl (congrArg Value.bool hc102)) (Zn (hS103) A3 rfl rfl rfl ⟨rfl, ?_⟩)
    refine DL_qg rfl rfl (Zf rfl (congrArg Value.bool hc102)) (Zm (v := v100) rfl p100 ⟨rfl, ?_⟩)
    refine DL_qg rfl rfl (Zf rfl (congrArg Value.bool hc102)) (Zp F82_0 rfl rfl rfl ⟨rfl, ?_⟩)
    refine DL_qg rfl rfl (Zf rfl (congrArg Value.bool hc102)) (Zn (hS103) A3 rfl rfl rfl ⟨rfl, ?_⟩)
    obtain ⟨x102, q102, ht100⟩ := Zg ht100
    refine DL_qg rfl rfl (Zf rfl (congrArg Value.bool hc102)) (Exec.index_repE S22 rfl rfl rfl (a100.mono l100) q102 ?_)
    intro b102 o101 a103 e103
    refine ⟨rfl, ?_⟩
    refine DL_qg rfl rfl (Zf rfl (congrArg Value.bool hc102)) (Zw (E := (encInt .i64)) hS103 A3 rfl rfl rfl a103 ?_)
    intro v103 q103
    obtain rfl := encInt_val.1 q103
    refine ⟨rfl, ?_⟩
    refine DL_qg rfl rfl (Zf rfl (congrArg Value.bool hc102)) (Exec.geq rfl rfl rfl ⟨rfl, ?_⟩)
    refine DL_q rfl rfl (Exec.pick_f (v := Value.bool (decide (x102 ≤ x101.Val))) rfl (congrArg Value.bool hc102) rfl ⟨rfl, ?_⟩)
    refine DL_q rfl rfl (Zm (v := Value.bool (decide (x102 ≤ x101.Val))) rfl rfl ⟨rfl, ?_⟩)
    rcases ite_some ht100 with ⟨hc103, ht100⟩ | ⟨hc103, ht100⟩
    ·refine DL_qp rfl rfl (Zf rfl (congrArg Value.bool hc103)) rfl (DL_qp rfl rfl (Zf rfl (congrArg Value.bool hc103)) rfl (DL_qp rfl rfl (Zf rfl (congrArg Value.bool hc103)) rfl (DL_qn rfl rfl (Zh rfl rfl) (DL_qn rfl rfl (Zh rfl rfl) (DL_qn rfl rfl (Zh rfl rfl) (DL_qn rfl rfl (Zh rfl rfl) (DL_qn rfl rfl (Zh rfl rfl) ?_)))))))
     refine DL_qn rfl rfl (Zh rfl rfl) (DL_qn rfl rfl (Zh rfl rfl) (DL_qn rfl rfl (Zh rfl rfl) (DL_qn rfl rfl (Zh rfl rfl) (DL_qp rfl rfl (Zf rfl (congrArg Value.bool hc103)) rfl (DL_q rfl rfl (Zs (v := Value.bool (true)) rfl (congrArg Value.bool hc103) rfl ⟨rfl, ?_⟩))))))
     refine DL_done (Zb (Ze ?_))
     have e104 := Zu ht100
     subst z100
     have hS107 := (hS103).drop
     exact ⟨s103, (Zv _), hS107, p100, p101, p102, p103, x100, rfl⟩
    replace hc103 := Zk hc103
    refine DL_qg rfl rfl (Zf rfl (congrArg Value.bool hc103)) (Zm (v := Value.int .i64 ((i100 : Int))) rfl rfl ⟨rfl, ?_⟩)
    refine DL_qg rfl rfl (Zf rfl (congrArg Value.bool hc103)) (Exec.gtr rfl rfl rfl ⟨rfl, ?_⟩)
    refine DL_qg rfl rfl (Zf rfl (congrArg Value.bool hc103)) (Zm (v := Value.bool (decide (0 < (i100 : Int)))) rfl rfl ⟨rfl, ?_⟩)
    rcases ite_some ht100 with ⟨hc104, ht100⟩ | ⟨hc104, ht100⟩
    ·refine DL_qg rfl rfl (Zf rfl (congrArg Value.bool hc104)) (Zm (v := v101) rfl p101 ⟨rfl, ?_⟩)
     refine DL_qg rfl rfl (Zf rfl (congrArg Value.bool hc104)) (Zm (v := Value.int .i64 ((i100 : Int))) rfl rfl ⟨rfl, ?_⟩)
     refine DL_qg rfl rfl (Zf rfl (congrArg Value.bool hc104)) (Exec.sub rfl rfl rfl ⟨rfl, ?_⟩)
     obtain ⟨x103, q104, ht100⟩ := Zg ht100
     refine DL_qg rfl rfl (Zf rfl (congrArg Value.bool hc104)) (Exec.index_repE S52 rfl rfl rfl (a101.mono l100) q104 ?_)
     intro b103 o102 a104 e105
     refine ⟨rfl, ?_⟩
     refine DL_qg rfl rfl (Zf rfl (congrArg Value.bool hc104)) (Zp F82_0 rfl rfl rfl ⟨rfl, ?_⟩)
     refine DL_qg rfl rfl (Zf rfl (congrArg Value.bool hc104)) (Zw (E := (encInt .i64)) hS103 A3 rfl rfl rfl (a104.sub (Sub.iso (Sub.fst (Sub.refl _))) rfl) ?_)
     intro v104 q105
     obtain rfl := encInt_val.1 q105
     refine ⟨rfl, ?_⟩
     refine DL_qg rfl rfl (Zf rfl (congrArg Value.bool hc104)) (Zp F82_0 rfl rfl rfl ⟨rfl, ?_⟩)
     refine DL_qg rfl rfl (Zf rfl (congrArg Value.bool hc104)) (Zn (hS103) A3 rfl rfl rfl ⟨rfl, ?_⟩)
     refine DL_qg rfl rfl (Zf rfl (congrArg Value.bool hc104)) (Exec.geq rfl rfl rfl ⟨rfl, ?_⟩)
     refine DL_qg rfl rfl (Zf rfl (congrArg Value.bool hc103)) (Zs (v := Value.bool (decide (x101.Var ≤ x103.Var))) rfl (congrArg Value.bool hc104) rfl ⟨rfl, ?_⟩)
     refine DL_q rfl rfl (Exec.pick_f (v := Value.bool (decide (x101.Var ≤ x103.Var))) rfl (congrArg Value.bool hc103) rfl ⟨rfl, ?_⟩)
     refine DL_done (Zb (Ze ?_))
     have e106 := Zu ht100
     subst z100
     have hS108 := (hS103).drop
     exact ⟨s103, (Zv _), hS108, p100, p101, p102, p103, x100, rfl⟩
    replace hc104 := Zk hc104
    refine DL_qp rfl rfl (Zf rfl (congrArg Value.bool hc104)) rfl (DL_qp rfl rfl (Zf rfl (congrArg Value.bool hc104)) rfl (DL_qp rfl rfl (Zf rfl (congrArg Value.bool hc104)) rfl (DL_qp rfl rfl (Zf rfl (congrArg Value.bool hc104)) rfl (DL_qp rfl rfl (Zf rfl (congrArg Value.bool hc104)) rfl (DL_qp rfl rfl (Zf rfl (congrArg Value.bool hc104)) rfl (DL_qp rfl rfl (Zf rfl (congrArg Value.bool hc104)) rfl (DL_qp rfl rfl (Zf rfl (congrArg Value.bool hc104)) rfl ?_)))))))
    refine DL_qp rfl rfl (Zf rfl (congrArg Value.bool hc104)) rfl (DL_qg rfl rfl (Zf rfl (congrArg Value.bool hc103)) (Exec.pick_f (v := Value.bool (false)) rfl (congrArg Value.bool hc104) rfl ⟨rfl, ?_⟩))
    refine DL_q rfl rfl (Exec.pick_f (v := Value.bool (false)) rfl (congrArg Value.bool hc103) rfl ⟨rfl, ?_⟩)
    refine DL_done (Zb (Ze ?_))
    have e107 := Zu ht100
    subst z100
    have hS109 := (hS103).drop
    exact ⟨s103, (Zv _), hS109, p100, p101, p102, p103, x100, rfl⟩
   intro f101 w103 hM100
   obtain ⟨s105, l101, hS110, p104, p105, p106, p107, p108, p109⟩ := hM100
   refine (Ze ?_)
   rcases ite_some hm100 with ⟨hc105, hm100⟩ | ⟨hc105, hm100⟩
   ·refine W_cond_t p109 hc105 (Zc (Zd (Za rfl rfl (Zo (v := Value.bool (false)) rfl rfl (Zb (Ze (W_ret (ib_ret (at_ret (at_ret (ib_ret (at_ret (at_ret ?_)))))))))))))
    have e108 := Zu hm100
    subst c101
    have hq100 := hr100 _ (hres100 (by intro _ h; cases h))
    have e109 := Zu hq100
    subst r
    refine ⟨_, ret1 rfl, ?_⟩
    exact ⟨s105, (Zt l100 l101), hS110, rfl⟩
   refine W_cond_f p109 hc105 ?_
   replace hc105 := Zk hc105
   refine W_skip (ib_normal (Ze (Zd (Za rfl rfl (Exec.add rfl p108 rfl (Za rfl rfl (Zm (v := Value.int .i64 (IntKind.i64.wrap ((i100 : Int) + 1))) rfl rfl (Zb (Ze ?_)))))))))
   have e110 := Zu hm100
   subst c101
   refine ⟨_, rfl, ?_⟩; exact ⟨s105, (Zt l100 l101), hS110, p104, p105, p106, p107, (Eq.trans rfl (wrap_up hi100 (SliceRep.le a101)))⟩
  intro t101 f102 w104 hI101 hres101
  obtain ⟨s106, l102, hS111, p110, p111, p112, p113, x104⟩ := hI101
  refine Zc (Zd (Za rfl rfl (Zq rfl x104 p113 (Zb (Ze (Zc (W_false (congrArg Value.bool (decide_eq_false (by omega))) (W_exit (at_exit (at_exit (ib_here (Ze ?_))))))))))))
  refine ⟨_, .inl hres101, ?_⟩; exact ⟨s106, l102, hS111, p110, p111, p112, p113⟩
 rintro f103 w105 ⟨t102, hc106, hM101⟩
 have hm := hc106.elim (hn100 _) (hb100 _)
 clear hc106
 obtain ⟨s107, l103, hS112, p114, p115, p116, p117⟩ := hM101
 refine (Ze (Zc (Zd (Za rfl rfl (Zo (v := Value.bool (true)) rfl rfl (Zb (Ze (W_ret ?_))))))))
 have e111 := Zu hm
 subst r
 refine ⟨_, ret1 rfl, ?_⟩
 exact ⟨s107, l103, hS112, rfl⟩
theorem F79_1 : tyField Try.prog 79 1 = some 1 := by kernel_rfl
theorem F79_0 : tyField Try.prog 79 0 = some 0 := by kernel_rfl
theorem A9 : tyAgg Try.prog 9 = some (false, 1) := by kernel_rfl
theorem F79_2 : tyField Try.prog 79 2 = some 2 := by kernel_rfl
theorem A93 : tyAgg Try.prog 93 = some (true, 3) := by kernel_rfl
theorem Z93 : tyZero Try.prog 93 = some (Value.agg #[Value.slice none 0 0, Value.int .i64 (0), Value.int .i64 (0)]) := by kernel_rfl
theorem F93_0 : tyField Try.prog 93 0 = some 0 := by kernel_rfl
theorem F93_1 : tyField Try.prog 93 1 = some 1 := by kernel_rfl
theorem F93_2 : tyField Try.prog 93 2 = some 2 := by kernel_rfl
theorem N48 : (Try.f48.name == "runtime.NumGoroutine") = false := by kernel_rfl
theorem base_operator_sim {w0 w : World} {s : PHeap} {H : List Res} {vars100 : (List Int)} {o100 : Op} {v100 : Value} {v101 : Value} {v102 : Value} {r : Bool} (hm : base_operator_p vars100 o100 = some r) (hS : St w0 s (H) w) (a100 : SliceRep (encInt .i64) s v100 vars100) (a101 : SliceRep encFact s v101 o100.Pre) (a102 : SliceRep encEffect s v102 o100.Effs) :
  Calls Try.prog 48 #[v100, Value.agg #[Value.string (o100.Name), Value.int .i64 (o100.Cost), v101, v102]] w fun e w' => ∃ v, e = .returned v ∧ ((fun (y100 : Bool) => ∃ (s100 : PHeap) , PHeap.le s s100 ∧ St w0 s100 (H) w' ∧ v = Value.bool (y100)) r) := by
 unfold base_operator_p at hm
 refine calls_of_W Try.func48 rfl rfl (Zc (Zd (Za rfl rfl (Exec.box (cs := [Value.string (o100.Name), Value.int .i64 (o100.Cost), v101, v102]) hS rfl rfl rfl ?_))))
 intro b100 w100 hS100
 refine Za rfl rfl (Zo (v := Value.bool (false)) rfl rfl (Zb (Ze (Zc (Zc ?_)))))
 obtain ⟨z100, ht100, hm⟩ := Zg hm
 refine W_mid (M := fun f' w' => (fun (z100 : Bool) => ∃ (s101 : PHeap) , PHeap.le s s101 ∧ St w0 s101 (Res.box b100 79 [Value.string (o100.Name), Value.int .i64 (o100.Cost), v101, v102] :: H) w' ∧ f' 0 = v100 ∧ f' 3 = Value.pointer (some ⟨b100, 0, none⟩) ∧ f' 34 = Value.bool (z100)) z100) ?_ ?_
 ·refine Zd (Za rfl rfl (Zp F79_1 rfl rfl rfl (Za rfl rfl (Zn (hS100) A3 rfl rfl rfl (Za rfl rfl (Zq rfl rfl rfl (Za rfl rfl (Zm (v := Value.bool (decide (o100.Cost < 0))) rfl rfl ?_))))))))
  rcases ite_some ht100 with ⟨hc100, ht100⟩ | ⟨hc100, ht100⟩
  ·refine Zl rfl (Zf rfl (congrArg Value.bool hc100)) rfl rfl (Zl rfl (Zf rfl (congrArg Value.bool hc100)) rfl rfl (Zl rfl (Zf rfl (congrArg Value.bool hc100)) rfl rfl (Za rfl rfl (Zs (v := Value.bool (true)) rfl (congrArg Value.bool hc100) rfl (Za rfl rfl (Zm (v := Value.bool (true)) rfl rfl (Zl rfl (Zf rfl rfl) rfl rfl (Zl rfl (Zf rfl rfl) rfl rfl (Zl rfl (Zf rfl rfl) rfl rfl ?_)))))))))
   refine Zl rfl (Zf rfl rfl) rfl rfl (Za rfl rfl (Zs (v := Value.bool (true)) rfl rfl rfl (Za rfl rfl (Zm (v := Value.bool (true)) rfl rfl (Zl rfl (Zf rfl rfl) rfl rfl (Zl rfl (Zf rfl rfl) rfl rfl (Zl rfl (Zf rfl rfl) rfl rfl (Zl rfl (Zf rfl rfl) rfl rfl (Za rfl rfl (Zs (v := Value.bool (true)) rfl rfl rfl ?_))))))))))
   refine Za rfl rfl (Zm (v := Value.bool (true)) rfl rfl (Zl rfl (Zf rfl rfl) rfl rfl (Zl rfl (Zf rfl rfl) rfl rfl (Zl rfl (Zf rfl rfl) rfl rfl (Zl rfl (Zf rfl rfl) rfl rfl (Zl rfl (Zf rfl rfl) rfl rfl (Za rfl rfl (Zs (v := Value.bool (true)) rfl rfl rfl (Zb (Ze ?_))))))))))
   have e100 := Zu ht100
   subst z100
   exact ⟨s, (Zv _), hS100, rfl, rfl, rfl⟩
  replace hc100 := Zk hc100
  refine WL_run rfl (Zf rfl (congrArg Value.bool hc100)) rfl (Zp F79_1 rfl rfl rfl (WL_run rfl (Zf rfl (congrArg Value.bool hc100)) rfl (Zn (hS100) A3 rfl rfl rfl (WL_run rfl (Zf rfl (congrArg Value.bool hc100)) rfl (Exec.gtr rfl rfl rfl (Za rfl rfl (Exec.pick_f (v := Value.bool (decide (1048576 < o100.Cost))) rfl (congrArg Value.bool hc100) rfl (Za rfl rfl (Zm (v := Value.bool (decide (1048576 < o100.Cost))) rfl rfl ?_)))))))))
  rcases ite_some ht100 with ⟨hc101, ht100⟩ | ⟨hc101, ht100⟩
  ·refine Zl rfl (Zf rfl (congrArg Value.bool hc101)) rfl rfl (Zl rfl (Zf rfl (congrArg Value.bool hc101)) rfl rfl (Zl rfl (Zf rfl (congrArg Value.bool hc101)) rfl rfl (Zl rfl (Zf rfl (congrArg Value.bool hc101)) rfl rfl (Za rfl rfl (Zs (v := Value.bool (true)) rfl (congrArg Value.bool hc101) rfl (Za rfl rfl (Zm (v := Value.bool (true)) rfl rfl (Zl rfl (Zf rfl rfl) rfl rfl (Zl rfl (Zf rfl rfl) rfl rfl ?_)))))))))
   refine Zl rfl (Zf rfl rfl) rfl rfl (Zl rfl (Zf rfl rfl) rfl rfl (Za rfl rfl (Zs (v := Value.bool (true)) rfl rfl rfl (Za rfl rfl (Zm (v := Value.bool (true)) rfl rfl (Zl rfl (Zf rfl rfl) rfl rfl (Zl rfl (Zf rfl rfl) rfl rfl (Zl rfl (Zf rfl rfl) rfl rfl (Zl rfl (Zf rfl rfl) rfl rfl ?_)))))))))
   refine Zl rfl (Zf rfl rfl) rfl rfl (Za rfl rfl (Zs (v := Value.bool (true)) rfl rfl rfl (Zb (Ze ?_))))
   have e101 := Zu ht100
   subst z100
   exact ⟨s, (Zv _), hS100, rfl, rfl, rfl⟩
  replace hc101 := Zk hc101
  refine WL_run rfl (Zf rfl (congrArg Value.bool hc101)) rfl (Zp F79_3 rfl rfl rfl (WL_run rfl (Zf rfl (congrArg Value.bool hc101)) rfl (Zn (hS100) A77 rfl rfl rfl (WL_run rfl (Zf rfl (congrArg Value.bool hc101)) rfl (Zr S77 rfl rfl a102 (WL_run rfl (Zf rfl (congrArg Value.bool hc101)) rfl (Exec.gtr rfl rfl rfl (Za rfl rfl (Exec.pick_f (v := Value.bool (decide (64 < (o100.Effs.length : Int)))) rfl (congrArg Value.bool hc101) rfl (Za rfl rfl (Zm (v := Value.bool (decide (64 < (o100.Effs.length : Int)))) rfl rfl ?_)))))))))))
  rcases ite_some ht100 with ⟨hc102, ht100⟩ | ⟨hc102, ht100⟩
  ·refine Zl rfl (Zf rfl (congrArg Value.bool hc102)) rfl rfl (Zl rfl (Zf rfl (congrArg Value.bool hc102)) rfl rfl (Zl rfl (Zf rfl (congrArg Value.bool hc102)) rfl rfl (Zl rfl (Zf rfl (congrArg Value.bool hc102)) rfl rfl (Za rfl rfl (Zs (v := Value.bool (true)) rfl (congrArg Value.bool hc102) rfl (Za rfl rfl (Zm (v := Value.bool (true)) rfl rfl (Zl rfl (Zf rfl rfl) rfl rfl (Zl rfl (Zf rfl rfl) rfl rfl ?_)))))))))
   refine Zl rfl (Zf rfl rfl) rfl rfl (Zl rfl (Zf rfl rfl) rfl rfl (Zl rfl (Zf rfl rfl) rfl rfl (Za rfl rfl (Zs (v := Value.bool (true)) rfl rfl rfl (Zb (Ze ?_))))))
   have e102 := Zu ht100
   subst z100
   exact ⟨s, (Zv _), hS100, rfl, rfl, rfl⟩
  replace hc102 := Zk hc102
  refine WL_run rfl (Zf rfl (congrArg Value.bool hc102)) rfl (Zp F79_0 rfl rfl rfl (WL_run rfl (Zf rfl (congrArg Value.bool hc102)) rfl (Zn (hS100) A9 rfl rfl rfl (WL_run rfl (Zf rfl (congrArg Value.bool hc102)) rfl (Exec.len_str Try.underlying9 rfl rfl (WL_run rfl (Zf rfl (congrArg Value.bool hc102)) rfl (Exec.gtr rfl rfl rfl (Za rfl rfl (Exec.pick_f (v := Value.bool (decide (256 < (o100.Name.size : Int)))) rfl (congrArg Value.bool hc102) rfl (Za rfl rfl (Zm (v := Value.bool (decide (256 < (o100.Name.size : Int)))) rfl rfl ?_)))))))))))
  rcases ite_some ht100 with ⟨hc103, ht100⟩ | ⟨hc103, ht100⟩
  ·refine Zl rfl (Zf rfl (congrArg Value.bool hc103)) rfl rfl (Zl rfl (Zf rfl (congrArg Value.bool hc103)) rfl rfl (Zl rfl (Zf rfl (congrArg Value.bool hc103)) rfl rfl (Zl rfl (Zf rfl (congrArg Value.bool hc103)) rfl rfl (Zl rfl (Zf rfl (congrArg Value.bool hc103)) rfl rfl (Za rfl rfl (Zs (v := Value.bool (true)) rfl (congrArg Value.bool hc103) rfl (Zb (Ze ?_))))))))
   have e103 := Zu ht100
   subst z100
   exact ⟨s, (Zv _), hS100, rfl, rfl, rfl⟩
  replace hc103 := Zk hc103
  refine WL_run rfl (Zf rfl (congrArg Value.bool hc103)) rfl (Zm (v := v100) rfl rfl (WL_run rfl (Zf rfl (congrArg Value.bool hc103)) rfl (Zp F79_2 rfl rfl rfl (WL_run rfl (Zf rfl (congrArg Value.bool hc103)) rfl (Zn (hS100) A52 rfl rfl rfl ?_)))))
  obtain ⟨y101, q100, ht100⟩ := Zg ht100
  refine WL_run rfl (Zf rfl (congrArg Value.bool hc103)) rfl (Exec.call rfl rfl Try.func47 rfl N47 (Zi rfl (Zi rfl args_nil)) ((base_Proper_sim q100 hS100 a100 a101).mono ?_))
  rintro _ w101 ⟨_, rfl, ⟨s102, l100, hS101, rfl⟩⟩
  refine ⟨_, rfl, ?_⟩
  refine WL_run rfl (Zf rfl (congrArg Value.bool hc103)) rfl (Exec.not rfl rfl (Za rfl rfl (Exec.pick_f (v := Value.bool (!y101)) rfl (congrArg Value.bool hc103) rfl (Zb (Ze ?_)))))
  have e104 := Zu ht100
  subst z100
  exact ⟨s102, l100, hS101, rfl, rfl, rfl⟩
 intro f100 w102 hM100
 obtain ⟨s103, l101, hS102, p100, p101, p102⟩ := hM100
 refine (Ze ?_)
 rcases ite_some hm with ⟨hc104, hm⟩ | ⟨hc104, hm⟩
 ·refine W_cond_t p102 hc104 (Zc (Zd (Za rfl rfl (Zo (v := Value.bool (false)) rfl rfl (Zb (Ze (W_ret (at_ret ?_))))))))
  have e105 := Zu hm
  subst r
  refine ⟨_, ret1 rfl, ?_⟩
  have hS103 := (hS102).drop
  exact ⟨s103, l101, hS103, rfl⟩
 refine W_cond_f p102 hc104 ?_
 replace hc104 := Zk hc104
 refine W_skip (Ze (Zc (Zc (Zd (Za rfl rfl (Zp F79_0 rfl p101 rfl (Za rfl rfl (Zn (hS102) A9 rfl rfl rfl (Za rfl rfl (Exec.len_str Try.underlying9 rfl rfl (Za rfl rfl (Zm (v := Value.int .i64 (0)) rfl rfl ?_))))))))))))
 refine Zb (Ze ?_)
 obtain ⟨u100, q101, hm⟩ := Zg hm
 obtain ⟨c100, hB100, hr100, hn100, hb100⟩ := ctl_some hm
 refine W_mid (M := fun f' w' => ∃ s', (c100 = .next s' ∨ c100 = .brk s') ∧ (fun (_ : Unit) => ∃ (s104 : PHeap) , PHeap.le s103 s104 ∧ St w0 s104 (Res.box b100 79 [Value.string (o100.Name), Value.int .i64 (o100.Cost), v101, v102] :: H) w' ∧ f' 0 = v100 ∧ f' 3 = Value.pointer (some ⟨b100, 0, none⟩) ∧ f' 37 = Value.int .i64 ((o100.Name.size : Int))) s') ?_ ?_
 ·refine W_block (W_forC (fun k' s' f' w' => (fun (_ : Unit) => ∃ (s105 : PHeap) , PHeap.le s103 s105 ∧ St w0 s105 (Res.box b100 79 [Value.string (o100.Name), Value.int .i64 (o100.Cost), v101, v102] :: H) w' ∧ f' 0 = v100 ∧ f' 3 = Value.pointer (some ⟨b100, 0, none⟩) ∧ f' 37 = Value.int .i64 ((o100.Name.size : Int)) ∧ f' 38 = Value.int .i64 (k' : Int)) s') hB100 ?_ ?_ ?_)
  ·exact ⟨s103, (Zv _), hS102, p100, p101, rfl, rfl⟩
  ·intro i100 t100 c101 f101 w103 hi100 hI100 hm100 hres100
   obtain ⟨s106, l102, hS104, p103, p104, p105, x100⟩ := hI100
   refine Zc (Zd (Za rfl rfl (Zq rfl x100 p105 (Zb (Ze (Zc (W_true (congrArg Value.bool (decide_eq_true (by omega))) (W_skip (Ze (Zc ?_))))))))))
   refine W_block (Zc (Zd (Za rfl rfl (Zm (v := Value.int .i64 ((i100 : Int))) rfl x100 (Za rfl rfl (Zo (v := Value.int .i64 ((i100 : Int))) rfl rfl (Zb (Ze (Zc ?_)))))))))
   obtain ⟨z101, ht101, hm100⟩ := Zg hm100
   refine W_mid (M := fun f' w' => (fun (z101 : Bool) => ∃ (s107 : PHeap) , PHeap.le s106 s107 ∧ St w0 s107 (Res.box b100 79 [Value.string (o100.Name), Value.int .i64 (o100.Cost), v101, v102] :: H) w' ∧ f' 0 = v100 ∧ f' 3 = Value.pointer (some ⟨b100, 0, none⟩) ∧ f' 37 = Value.int .i64 ((o100.Name.size : Int)) ∧ f' 38 = Value.int .i64 ((i100 : Int)) ∧ f' 52 = Value.bool (z101)) z101) ?_ ?_
   ·refine Zd (Za rfl rfl (Zp F79_0 rfl p104 rfl (Za rfl rfl (Zn (hS104) A9 rfl rfl rfl (Za rfl rfl (Zm (v := Value.int .i64 ((i100 : Int))) rfl rfl ?_))))))
    obtain ⟨x101, q102, ht101⟩ := Zg ht101
    refine Za rfl rfl (Exec.index_str Try.underlying9 rfl rfl rfl q102 (Za rfl rfl (Zq rfl rfl rfl (Za rfl rfl (Zm (v := Value.bool (decide (x101 < 32))) rfl rfl ?_)))))
    rcases ite_some ht101 with ⟨hc105, ht101⟩ | ⟨hc105, ht101⟩
    ·refine Zl rfl (Zf rfl (congrArg Value.bool hc105)) rfl rfl (Zl rfl (Zf rfl (congrArg Value.bool hc105)) rfl rfl (Zl rfl (Zf rfl (congrArg Value.bool hc105)) rfl rfl (Zl rfl (Zf rfl (congrArg Value.bool hc105)) rfl rfl (Zl rfl (Zf rfl (congrArg Value.bool hc105)) rfl rfl (Za rfl rfl (Zs (v := Value.bool (true)) rfl (congrArg Value.bool hc105) rfl (Zb (Ze ?_))))))))
     have e106 := Zu ht101
     subst z101
     exact ⟨s106, (Zv _), hS104, p103, p104, p105, x100, rfl⟩
    replace hc105 := Zk hc105
    refine WL_run rfl (Zf rfl (congrArg Value.bool hc105)) rfl (Zp F79_0 rfl p104 rfl (WL_run rfl (Zf rfl (congrArg Value.bool hc105)) rfl (Zn (hS104) A9 rfl rfl rfl (WL_run rfl (Zf rfl (congrArg Value.bool hc105)) rfl (Zm (v := Value.int .i64 ((i100 : Int))) rfl rfl (WL_run rfl (Zf rfl (congrArg Value.bool hc105)) rfl (Exec.index_str Try.underlying9 rfl rfl rfl q102 (WL_run rfl (Zf rfl (congrArg Value.bool hc105)) rfl (Exec.gtr rfl rfl rfl (Za rfl rfl (Exec.pick_f (v := Value.bool (decide (126 < x101))) rfl (congrArg Value.bool hc105) rfl (Zb (Ze ?_)))))))))))))
    have e107 := Zu ht101
    subst z101
    exact ⟨s106, (Zv _), hS104, p103, p104, p105, x100, rfl⟩
   intro f102 w104 hM101
   obtain ⟨s108, l103, hS105, p106, p107, p108, p109, p110⟩ := hM101
   refine (Ze ?_)
   rcases ite_some hm100 with ⟨hc106, hm100⟩ | ⟨hc106, hm100⟩
   ·refine W_cond_t p110 hc106 (Zc (Zd (Za rfl rfl (Zo (v := Value.bool (false)) rfl rfl (Zb (Ze (W_ret (ib_ret (at_ret (at_ret (ib_ret (at_ret (at_ret ?_)))))))))))))
    have e108 := Zu hm100
    subst c101
    have hq100 := hr100 _ (hres100 (by intro _ h; cases h))
    have e109 := Zu hq100
    subst r
    refine ⟨_, ret1 rfl, ?_⟩
    have hS106 := (hS105).drop
    exact ⟨s108, (Zt (Zt l101 l102) l103), hS106, rfl⟩
   refine W_cond_f p110 hc106 ?_
   replace hc106 := Zk hc106
   refine W_skip (ib_normal (Ze (Zd (Za rfl rfl (Exec.add rfl p109 rfl (Za rfl rfl (Zm (v := Value.int .i64 (IntKind.i64.wrap ((i100 : Int) + 1))) rfl rfl (Zb (Ze ?_)))))))))
   have e110 := Zu hm100
   subst c101
   refine ⟨_, rfl, ?_⟩; exact ⟨s108, (Zt l102 l103), hS105, p106, p107, p108, (Eq.trans rfl (wrap_up hi100 (by have h := must_some q101; simp at h; simp only [maxLen]; omega)))⟩
  intro t101 f103 w105 hI101 hres101
  obtain ⟨s109, l104, hS107, p111, p112, p113, x102⟩ := hI101
  refine Zc (Zd (Za rfl rfl (Zq rfl x102 p113 (Zb (Ze (Zc (W_false (congrArg Value.bool (decide_eq_false (by omega))) (W_exit (at_exit (at_exit (ib_here (Ze ?_))))))))))))
  refine ⟨_, .inl hres101, ?_⟩; exact ⟨s109, l104, hS107, p111, p112, p113⟩
 rintro f104 w106 ⟨t102, hc107, hM102⟩
 have hm := hc107.elim (hn100 _) (hb100 _)
 clear hc107
 obtain ⟨s110, l105, hS108, p114, p115, p116⟩ := hM102
 refine (Ze (Zc (Zc (Zd (Za rfl rfl (Zp F79_3 rfl p115 rfl (Za rfl rfl (Zn (hS108) A77 rfl rfl rfl (Za rfl rfl (Zr S77 rfl rfl (a102.mono (Zt l101 l105)) (Za rfl rfl (Zm (v := Value.int .i64 (0)) rfl rfl ?_))))))))))))
 refine Zb (Ze ?_)
 obtain ⟨c102, hB101, hr101, hn101, hb101⟩ := ctl_some hm
 refine W_mid (M := fun f' w' => ∃ s', (c102 = .next s' ∨ c102 = .brk s') ∧ (fun (_ : Unit) => ∃ (s111 : PHeap) , PHeap.le s110 s111 ∧ St w0 s111 (H) w' ∧ f' 0 = v100 ∧ f' 55 = v102 ∧ f' 56 = Value.int .i64 ((o100.Effs.length : Int))) s') ?_ ?_
 ·refine W_block (W_forC (fun k' s' f' w' => (fun (_ : Unit) => ∃ (s112 : PHeap) , PHeap.le s110 s112 ∧ St w0 s112 (H) w' ∧ f' 0 = v100 ∧ f' 55 = v102 ∧ f' 56 = Value.int .i64 ((o100.Effs.length : Int)) ∧ f' 57 = Value.int .i64 (k' : Int)) s') hB101 ?_ ?_ ?_)
  ·have hS109 := (hS108).drop
   exact ⟨s110, (Zv _), hS109, p114, rfl, rfl, rfl⟩
  ·intro i101 t103 c103 f105 w107 hi101 hI102 hm101 hres102
   obtain ⟨s113, l106, hS110, p117, p118, p119, x103⟩ := hI102
   refine Zc (Zd (Za rfl rfl (Zq rfl x103 p119 (Zb (Ze (Zc (W_true (congrArg Value.bool (decide_eq_true (by omega))) (W_skip (Ze (Zc ?_))))))))))
   refine W_block (Zc (Zd ?_))
   obtain ⟨x104, q103, hm101⟩ := Zg hm101
   refine Za rfl rfl (Exec.index_rep S77 rfl p118 x103 (a102.mono (Zt (Zt l101 l105) l106)) q103 ?_)
   intro b101 o101 a103
   refine Za rfl rfl (Zw (E := encEffect) hS110 A93 rfl rfl rfl a103 ?_)
   intro v103 q104
   obtain ⟨u101, rfl, r100⟩ := encEffect_val.1 q104
   refine Za rfl rfl (Exec.alloc (cs := [Value.slice none 0 0, Value.int .i64 (0), Value.int .i64 (0)]) hS110 Z93 rfl rfl ?_)
   intro b102 w108 hS111
   refine Za rfl rfl (Exec.store_box (ds := [u101, Value.int .i64 (x104.Var), Value.int .i64 (x104.Val)]) (es := [u101, Value.int .i64 (x104.Var), Value.int .i64 (x104.Val)]) hS111 A93 rfl rfl rfl rfl (Zj (r100).one (Zj rfl (Zj rfl one_nil))) (Nat.le_of_ble_eq_true rfl) rfl ?_)
   intro w109 hS112
   refine Zb (Ze (Zc ?_))
   obtain ⟨z102, ht102, hm101⟩ := Zg hm101
   refine W_mid (M := fun f' w' => (fun (z102 : Bool) => ∃ (s114 : PHeap) , PHeap.le s113 s114 ∧ St w0 s114 (H) w' ∧ f' 0 = v100 ∧ f' 55 = v102 ∧ f' 56 = Value.int .i64 ((o100.Effs.length : Int)) ∧ f' 57 = Value.int .i64 ((i101 : Int)) ∧ f' 76 = Value.bool (z102)) z102) ?_ ?_
   ·refine Zd (Za rfl rfl (Zm (v := v100) rfl p117 (Za rfl rfl (Zp F93_0 rfl rfl rfl (Za rfl rfl (Zn (hS112) A52 rfl rfl rfl ?_))))))
    obtain ⟨y102, q105, ht102⟩ := Zg ht102
    refine Za rfl rfl (Exec.call rfl rfl Try.func47 rfl N47 (Zi rfl (Zi rfl args_nil)) ((base_Proper_sim q105 hS112 (a100.mono (Zt (Zt l101 l105) l106)) r100).mono ?_))
    rintro _ w110 ⟨_, rfl, ⟨s115, l107, hS113, rfl⟩⟩
    refine ⟨_, rfl, ?_⟩
    refine Za rfl rfl (Exec.not rfl rfl (Za rfl rfl (Zm (v := Value.bool (!y102)) rfl rfl ?_)))
    rcases ite_some ht102 with ⟨hc108, ht102⟩ | ⟨hc108, ht102⟩
    ·refine Zl rfl (Zf rfl (congrArg Value.bool hc108)) rfl rfl (Zl rfl (Zf rfl (congrArg Value.bool hc108)) rfl rfl (Zl rfl (Zf rfl (congrArg Value.bool hc108)) rfl rfl (Zl rfl (Zf rfl (congrArg Value.bool hc108)) rfl rfl (Zl rfl (Zf rfl (congrArg Value.bool hc108)) rfl rfl (Zl rfl (Zf rfl (congrArg Value.bool hc108)) rfl rfl (Zl rfl (Zf rfl (congrArg Value.bool hc108)) rfl rfl (Zl rfl (Zf rfl (congrArg Value.bool hc108)) rfl rfl ?_)))))))
     refine Zl rfl (Zf rfl (congrArg Value.bool hc108)) rfl rfl (Za rfl rfl (Zs (v := Value.bool (true)) rfl (congrArg Value.bool hc108) rfl (Zb (Ze ?_))))
     have e111 := Zu ht102
     subst z102
     have hS114 := (hS113).drop
     exact ⟨s115, l107, hS114, p117, p118, p119, x103, rfl⟩
    replace hc108 := Zk hc108
    refine WL_run rfl (Zf rfl (congrArg Value.bool hc108)) rfl (Zm (v := v100) rfl p117 (WL_run rfl (Zf rfl (congrArg Value.bool hc108)) rfl (Zp F93_1 rfl rfl rfl (WL_run rfl (Zf rfl (congrArg Value.bool hc108)) rfl (Zn (hS113) A3 rfl rfl rfl (WL_run rfl (Zf rfl (congrArg Value.bool hc108)) rfl (Zp F93_2 rfl rfl rfl (WL_run rfl (Zf rfl (congrArg Value.bool hc108)) rfl (Zn (hS113) A3 rfl rfl rfl (WL_run rfl (Zf rfl (congrArg Value.bool hc108)) rfl (Exec.build rfl (parts_cons (c := [Value.int .i64 (x104.Var)]) (cells_of rfl rfl) (parts_cons (c := [Value.int .i64 (x104.Val)]) (cells_of rfl rfl) parts_nil)) (v := Value.agg #[Value.int .i64 (x104.Var), Value.int .i64 (x104.Val)]) (fun _ => by kernel_rfl) (WL_run rfl (Zf rfl (congrArg Value.bool hc108)) rfl (Exec.buildSlice (Te := 82) (cs := [Value.int .i64 (x104.Var), Value.int .i64 (x104.Val)]) hS113 rfl (parts_cons (c := [Value.int .i64 (x104.Var), Value.int .i64 (x104.Val)]) (cells_of rfl rfl) parts_nil) (fun _ => by kernel_rfl) ?_)))))))))))))
    intro b103 w111 hS115
    have hS116 := St.boxArr (E := encFact) (xs := [(⟨x104.Var, x104.Val⟩ : Fact)]) hS115 ⟨[Value.int .i64 (x104.Var), Value.int .i64 (x104.Val)], [], rfl, ⟨[Value.int .i64 (x104.Var)], [Value.int .i64 (x104.Val)], rfl, rfl, rfl⟩, rfl⟩ (by simp [maxLen])
    obtain ⟨s116, l108, hS117, r101⟩ := hS116.freezeArr
    obtain ⟨y103, q106, ht102⟩ := Zg ht102
    refine WL_run rfl (Zf rfl (congrArg Value.bool hc108)) rfl (Exec.call rfl rfl Try.func47 rfl N47 (Zi rfl (Zi rfl args_nil)) ((base_Proper_sim q106 hS117 (a100.mono (Zt (Zt (Zt (Zt l101 l105) l106) l107) l108)) r101).mono ?_))
    rintro _ w112 ⟨_, rfl, ⟨s117, l109, hS118, rfl⟩⟩
    refine ⟨_, rfl, ?_⟩
    refine WL_run rfl (Zf rfl (congrArg Value.bool hc108)) rfl (Exec.not rfl rfl (Za rfl rfl (Exec.pick_f (v := Value.bool (!y103)) rfl (congrArg Value.bool hc108) rfl (Zb (Ze ?_)))))
    have e112 := Zu ht102
    subst z102
    have hS119 := (hS118).drop
    exact ⟨s117, (Zt (Zt l107 l108) l109), hS119, p117, p118, p119, x103, rfl⟩
   intro f106 w113 hM103
   obtain ⟨s118, l110, hS120, p120, p121, p122, p123, p124⟩ := hM103
   refine (Ze ?_)
   rcases ite_some hm101 with ⟨hc109, hm101⟩ | ⟨hc109, hm101⟩
   ·refine W_cond_t p124 hc109 (Zc (Zd (Za rfl rfl (Zo (v := Value.bool (false)) rfl rfl (Zb (Ze (W_ret (ib_ret (at_ret (at_ret (ib_ret (at_ret (at_ret ?_)))))))))))))
    have e113 := Zu hm101
    subst c103
    have hq101 := hr101 _ (hres102 (by intro _ h; cases h))
    have e114 := Zu hq101
    subst r
    refine ⟨_, ret1 rfl, ?_⟩
    exact ⟨s118, (Zt (Zt (Zt l101 l105) l106) l110), hS120, rfl⟩
   refine W_cond_f p124 hc109 ?_
   replace hc109 := Zk hc109
   refine W_skip (ib_normal (Ze (Zd (Za rfl rfl (Exec.add rfl p123 rfl (Za rfl rfl (Zm (v := Value.int .i64 (IntKind.i64.wrap ((i101 : Int) + 1))) rfl rfl (Zb (Ze ?_)))))))))
   have e115 := Zu hm101
   subst c103
   refine ⟨_, rfl, ?_⟩; exact ⟨s118, (Zt l106 l110), hS120, p120, p121, p122, (Eq.trans rfl (wrap_up hi101 (SliceRep.le (a102.mono (Zt l101 l105)))))⟩
  intro t104 f107 w114 hI103 hres103
  obtain ⟨s119, l111, hS121, p125, p126, p127, x105⟩ := hI103
  refine Zc (Zd (Za rfl rfl (Zq rfl x105 p127 (Zb (Ze (Zc (W_false (congrArg Value.bool (decide_eq_false (by omega))) (W_exit (at_exit (at_exit (ib_here (Ze ?_))))))))))))
  refine ⟨_, .inl hres103, ?_⟩; exact ⟨s119, l111, hS121, p125, p126, p127⟩
 rintro f108 w115 ⟨t105, hc110, hM104⟩
 have hm := hc110.elim (hn101 _) (hb101 _)
 clear hc110
 obtain ⟨s120, l112, hS122, p128, p129, p130⟩ := hM104
 refine (Ze (Zc (Zd (Za rfl rfl (Zo (v := Value.bool (true)) rfl rfl (Zb (Ze (W_ret ?_))))))))
 have e116 := Zu hm
 subst r
 refine ⟨_, ret1 rfl, ?_⟩
 exact ⟨s120, (Zt (Zt l101 l105) l112), hS122, rfl⟩
theorem N29 : (Try.f29.name == "runtime.NumGoroutine") = false := by kernel_rfl
theorem base_Good_sim {w0 w : World} {s : PHeap} {H : List Res} {t100 : Task} {v100 : Value} {v101 : Value} {v102 : Value} {v103 : Value} {r : Bool} (hm : base_Good_p t100 = some r) (hS : St w0 s (H) w) (a100 : SliceRep (encInt .i64) s v100 t100.Vars) (a101 : SliceRep (encInt .i64) s v101 t100.Init) (a102 : SliceRep encFact s v102 t100.Goal) (a103 : SliceRep encOp s v103 t100.Ops) :
  Calls Try.prog 29 #[Value.agg #[v100, v101, v102, v103]] w fun e w' => ∃ v, e = .returned v ∧ ((fun (y100 : Bool) => ∃ (s100 : PHeap) , PHeap.le s s100 ∧ St w0 s100 (H) w' ∧ v = Value.bool (y100)) r) := by
 unfold base_Good_p at hm
 refine calls_of_W Try.func29 rfl rfl (Zc (Zd (Za rfl rfl (Exec.box (cs := [v100, v101, v102, v103]) hS rfl rfl rfl ?_))))
 intro b100 w100 hS100
 refine Za rfl rfl (Zo (v := Value.bool (false)) rfl rfl (Zb (Ze (Zc (Zc (W_mid (M := fun f' w' => ∃ (s101 : PHeap) , PHeap.le s s101 ∧ St w0 s101 (Res.box b100 55 [v100, v101, v102, v103] :: H) w' ∧ f' 1 = Value.pointer (some ⟨b100, 0, none⟩) ∧ f' 16 = Value.bool (((decide (64 < (t100.Vars.length : Int))) || decide (4096 < (t100.Ops.length : Int))))) ?_ ?_))))))
 ·refine Zd (Za rfl rfl (Zp F55_0 rfl rfl rfl (Za rfl rfl (Zn (hS100) A22 rfl rfl rfl (Za rfl rfl (Zr S22 rfl rfl a100 (Za rfl rfl (Exec.gtr rfl rfl rfl (Za rfl rfl (Zm (v := Value.bool (decide (64 < (t100.Vars.length : Int)))) rfl rfl ?_))))))))))
  by_cases hc100 : (decide (64 < (t100.Vars.length : Int))) = true
  ·refine Zl rfl (Zf rfl (congrArg Value.bool hc100)) rfl rfl (Zl rfl (Zf rfl (congrArg Value.bool hc100)) rfl rfl (Zl rfl (Zf rfl (congrArg Value.bool hc100)) rfl rfl (Zl rfl (Zf rfl (congrArg Value.bool hc100)) rfl rfl (Za rfl rfl (Zs (v := Value.bool (true)) rfl (congrArg Value.bool hc100) rfl (Zb (Ze ?_)))))))
   exact ⟨s, (Zv _), hS100, rfl, (congrArg Value.bool (or_t hc100)).symm⟩
  replace hc100 := Zk hc100
  refine WL_run rfl (Zf rfl (congrArg Value.bool hc100)) rfl (Zp F55_3 rfl rfl rfl (WL_run rfl (Zf rfl (congrArg Value.bool hc100)) rfl (Zn (hS100) A53 rfl rfl rfl (WL_run rfl (Zf rfl (congrArg Value.bool hc100)) rfl (Zr S53 rfl rfl a103 (WL_run rfl (Zf rfl (congrArg Value.bool hc100)) rfl (Exec.gtr rfl rfl rfl (Za rfl rfl (Exec.pick_f (v := Value.bool (decide (4096 < (t100.Ops.length : Int)))) rfl (congrArg Value.bool hc100) rfl (Zb (Ze ?_)))))))))))
  exact ⟨s, (Zv _), hS100, rfl, (congrArg Value.bool (or_f hc100)).symm⟩
 intro f100 w101 hM100
 obtain ⟨s102, l100, hS101, p100, p101⟩ := hM100
 refine (Ze ?_)
 rcases ite_some hm with ⟨hc101, hm⟩ | ⟨hc101, hm⟩
 ·refine W_cond_t p101 hc101 (Zc (Zd (Za rfl rfl (Zo (v := Value.bool (false)) rfl rfl (Zb (Ze (W_ret (at_ret ?_))))))))
  have e100 := Zu hm
  subst r
  refine ⟨_, ret1 rfl, ?_⟩
  have hS102 := (hS101).drop
  exact ⟨s102, l100, hS102, rfl⟩
 refine W_cond_f p101 hc101 ?_
 replace hc101 := Zk hc101
 refine W_skip (Ze (Zc (Zc (Zd (Za rfl rfl (Zp F55_0 rfl p100 rfl (Za rfl rfl (Zn (hS101) A22 rfl rfl rfl (Za rfl rfl (Zr S22 rfl rfl (a100.mono l100) (Za rfl rfl (Zm (v := Value.int .i64 (0)) rfl rfl ?_))))))))))))
 refine Zb (Ze ?_)
 obtain ⟨c100, hB100, hr100, hn100, hb100⟩ := ctl_some hm
 refine W_mid (M := fun f' w' => ∃ s', (c100 = .next s' ∨ c100 = .brk s') ∧ (fun (_ : Unit) => ∃ (s103 : PHeap) , PHeap.le s102 s103 ∧ St w0 s103 (Res.box b100 55 [v100, v101, v102, v103] :: H) w' ∧ f' 1 = Value.pointer (some ⟨b100, 0, none⟩) ∧ f' 18 = v100 ∧ f' 19 = Value.int .i64 ((t100.Vars.length : Int))) s') ?_ ?_
 ·refine W_block (W_forC (fun k' s' f' w' => (fun (_ : Unit) => ∃ (s104 : PHeap) , PHeap.le s102 s104 ∧ St w0 s104 (Res.box b100 55 [v100, v101, v102, v103] :: H) w' ∧ f' 1 = Value.pointer (some ⟨b100, 0, none⟩) ∧ f' 18 = v100 ∧ f' 19 = Value.int .i64 ((t100.Vars.length : Int)) ∧ f' 20 = Value.int .i64 (k' : Int)) s') hB100 ?_ ?_ ?_)
  ·exact ⟨s102, (Zv _), hS101, p100, rfl, rfl, rfl⟩
  ·intro i100 t101 c101 f101 w102 hi100 hI100 hm100 hres100
   obtain ⟨s105, l101, hS103, p102, p103, p104, x100⟩ := hI100
   refine Zc (Zd (Za rfl rfl (Zq rfl x100 p104 (Zb (Ze (Zc (W_true (congrArg Value.bool (decide_eq_true (by omega))) (W_skip (Ze (Zc ?_))))))))))
   refine W_block (Zc (Zd ?_))
   obtain ⟨x101, q100, hm100⟩ := Zg hm100
   refine Za rfl rfl (Exec.index_rep S22 rfl p103 x100 (a100.mono (Zt l100 l101)) q100 ?_)
   intro b101 o100 a104
   refine Za rfl rfl (Zw (E := (encInt .i64)) hS103 A3 rfl rfl rfl a104 ?_)
   intro v104 q101
   obtain rfl := encInt_val.1 q101
   refine Za rfl rfl (Zo (v := Value.int .i64 (x101)) rfl rfl (Zb (Ze (Zc (W_mid (M := fun f' w' => ∃ (s106 : PHeap) , PHeap.le s105 s106 ∧ St w0 s106 (Res.box b100 55 [v100, v101, v102, v103] :: H) w' ∧ f' 1 = Value.pointer (some ⟨b100, 0, none⟩) ∧ f' 18 = v100 ∧ f' 19 = Value.int .i64 ((t100.Vars.length : Int)) ∧ f' 20 = Value.int .i64 ((i100 : Int)) ∧ f' 29 = Value.bool (((decide (x101 < 1)) || decide (64 < x101)))) ?_ ?_)))))
   ·refine Zd (Za rfl rfl (Zm (v := Value.int .i64 (x101)) rfl rfl (Za rfl rfl (Zq rfl rfl rfl (Za rfl rfl (Zm (v := Value.bool (decide (x101 < 1))) rfl rfl ?_))))))
    by_cases hc102 : (decide (x101 < 1)) = true
    ·refine Zl rfl (Zf rfl (congrArg Value.bool hc102)) rfl rfl (Zl rfl (Zf rfl (congrArg Value.bool hc102)) rfl rfl (Za rfl rfl (Zs (v := Value.bool (true)) rfl (congrArg Value.bool hc102) rfl (Zb (Ze ?_)))))
     exact ⟨s105, (Zv _), hS103, p102, p103, p104, x100, (congrArg Value.bool (or_t hc102)).symm⟩
    replace hc102 := Zk hc102
    refine WL_run rfl (Zf rfl (congrArg Value.bool hc102)) rfl (Zm (v := Value.int .i64 (x101)) rfl rfl (WL_run rfl (Zf rfl (congrArg Value.bool hc102)) rfl (Exec.gtr rfl rfl rfl (Za rfl rfl (Exec.pick_f (v := Value.bool (decide (64 < x101))) rfl (congrArg Value.bool hc102) rfl (Zb (Ze ?_)))))))
    exact ⟨s105, (Zv _), hS103, p102, p103, p104, x100, (congrArg Value.bool (or_f hc102)).symm⟩
   intro f102 w103 hM101
   obtain ⟨s107, l102, hS104, p105, p106, p107, p108, p109⟩ := hM101
   refine (Ze ?_)
   rcases ite_some hm100 with ⟨hc103, hm100⟩ | ⟨hc103, hm100⟩
   ·refine W_cond_t p109 hc103 (Zc (Zd (Za rfl rfl (Zo (v := Value.bool (false)) rfl rfl (Zb (Ze (W_ret (ib_ret (at_ret (at_ret (ib_ret (at_ret (at_ret ?_)))))))))))))
    have e101 := Zu hm100
    subst c101
    have hq100 := hr100 _ (hres100 (by intro _ h; cases h))
    have e102 := Zu hq100
    subst r
    refine ⟨_, ret1 rfl, ?_⟩
    have hS105 := (hS104).drop
    exact ⟨s107, (Zt (Zt l100 l101) l102), hS105, rfl⟩
   refine W_cond_f p109 hc103 ?_
   replace hc103 := Zk hc103
   refine W_skip (ib_normal (Ze (Zd (Za rfl rfl (Exec.add rfl p108 rfl (Za rfl rfl (Zm (v := Value.int .i64 (IntKind.i64.wrap ((i100 : Int) + 1))) rfl rfl (Zb (Ze ?_)))))))))
   have e103 := Zu hm100
   subst c101
   refine ⟨_, rfl, ?_⟩; exact ⟨s107, (Zt l101 l102), hS104, p105, p106, p107, (Eq.trans rfl (wrap_up hi100 (SliceRep.le (a100.mono l100))))⟩
  intro t102 f103 w104 hI101 hres101
  obtain ⟨s108, l103, hS106, p110, p111, p112, x102⟩ := hI101
  refine Zc (Zd (Za rfl rfl (Zq rfl x102 p112 (Zb (Ze (Zc (W_false (congrArg Value.bool (decide_eq_false (by omega))) (W_exit (at_exit (at_exit (ib_here (Ze ?_))))))))))))
  refine ⟨_, .inl hres101, ?_⟩; exact ⟨s108, l103, hS106, p110, p111, p112⟩
 rintro f104 w105 ⟨t103, hc104, hM102⟩
 have hm := hc104.elim (hn100 _) (hb100 _)
 clear hc104
 obtain ⟨s109, l104, hS107, p113, p114, p115⟩ := hM102
 refine (Ze (Zc (Zc ?_)))
 obtain ⟨z100, ht100, hm⟩ := Zg hm
 refine W_mid (M := fun f' w' => (fun (z100 : Bool) => ∃ (s110 : PHeap) , PHeap.le s109 s110 ∧ St w0 s110 (Res.box b100 55 [v100, v101, v102, v103] :: H) w' ∧ f' 1 = Value.pointer (some ⟨b100, 0, none⟩) ∧ f' 44 = Value.bool (z100)) z100) ?_ ?_
 ·refine Zd (Za rfl rfl (Zp F55_0 rfl p113 rfl (Za rfl rfl (Zn (hS107) A22 rfl rfl rfl (Za rfl rfl (Zp F55_1 rfl p113 rfl (Za rfl rfl (Zn (hS107) A22 rfl rfl rfl ?_))))))))
  obtain ⟨y101, q102, ht100⟩ := Zg ht100
  refine Za rfl rfl (Exec.call rfl rfl Try.func46 rfl N46 (Zi rfl (Zi rfl args_nil)) ((base_State_sim q102 hS107 (a100.mono (Zt l100 l104)) (a101.mono (Zt l100 l104))).mono ?_))
  rintro _ w106 ⟨_, rfl, ⟨s111, l105, hS108, rfl⟩⟩
  refine ⟨_, rfl, ?_⟩
  refine Za rfl rfl (Exec.not rfl rfl (Za rfl rfl (Zm (v := Value.bool (!y101)) rfl rfl ?_)))
  rcases ite_some ht100 with ⟨hc105, ht100⟩ | ⟨hc105, ht100⟩
  ·refine Zl rfl (Zf rfl (congrArg Value.bool hc105)) rfl rfl (Zl rfl (Zf rfl (congrArg Value.bool hc105)) rfl rfl (Zl rfl (Zf rfl (congrArg Value.bool hc105)) rfl rfl (Zl rfl (Zf rfl (congrArg Value.bool hc105)) rfl rfl (Zl rfl (Zf rfl (congrArg Value.bool hc105)) rfl rfl (Zl rfl (Zf rfl (congrArg Value.bool hc105)) rfl rfl (Za rfl rfl (Zs (v := Value.bool (true)) rfl (congrArg Value.bool hc105) rfl (Zb (Ze ?_)))))))))
   have e104 := Zu ht100
   subst z100
   exact ⟨s111, l105, hS108, p113, rfl⟩
  replace hc105 := Zk hc105
  refine WL_run rfl (Zf rfl (congrArg Value.bool hc105)) rfl (Zp F55_0 rfl p113 rfl (WL_run rfl (Zf rfl (congrArg Value.bool hc105)) rfl (Zn (hS108) A22 rfl rfl rfl (WL_run rfl (Zf rfl (congrArg Value.bool hc105)) rfl (Zp F55_2 rfl p113 rfl (WL_run rfl (Zf rfl (congrArg Value.bool hc105)) rfl (Zn (hS108) A52 rfl rfl rfl ?_)))))))
  obtain ⟨y102, q103, ht100⟩ := Zg ht100
  refine WL_run rfl (Zf rfl (congrArg Value.bool hc105)) rfl (Exec.call rfl rfl Try.func47 rfl N47 (Zi rfl (Zi rfl args_nil)) ((base_Proper_sim q103 hS108 (a100.mono (Zt (Zt l100 l104) l105)) (a102.mono (Zt (Zt l100 l104) l105))).mono ?_))
  rintro _ w107 ⟨_, rfl, ⟨s112, l106, hS109, rfl⟩⟩
  refine ⟨_, rfl, ?_⟩
  refine WL_run rfl (Zf rfl (congrArg Value.bool hc105)) rfl (Exec.not rfl rfl (Za rfl rfl (Exec.pick_f (v := Value.bool (!y102)) rfl (congrArg Value.bool hc105) rfl (Zb (Ze ?_)))))
  have e105 := Zu ht100
  subst z100
  exact ⟨s112, (Zt l105 l106), hS109, p113, rfl⟩
 intro f105 w108 hM103
 obtain ⟨s113, l107, hS110, p116, p117⟩ := hM103
 refine (Ze ?_)
 rcases ite_some hm with ⟨hc106, hm⟩ | ⟨hc106, hm⟩
 ·refine W_cond_t p117 hc106 (Zc (Zd (Za rfl rfl (Zo (v := Value.bool (false)) rfl rfl (Zb (Ze (W_ret (at_ret ?_))))))))
  have e106 := Zu hm
  subst r
  refine ⟨_, ret1 rfl, ?_⟩
  have hS111 := (hS110).drop
  exact ⟨s113, (Zt (Zt l100 l104) l107), hS111, rfl⟩
 refine W_cond_f p117 hc106 ?_
 replace hc106 := Zk hc106
 refine W_skip (Ze (Zc (Zc (Zd (Za rfl rfl (Zp F55_3 rfl p116 rfl (Za rfl rfl (Zn (hS110) A53 rfl rfl rfl (Za rfl rfl (Zr S53 rfl rfl (a103.mono (Zt (Zt l100 l104) l107)) (Za rfl rfl (Zm (v := Value.int .i64 (0)) rfl rfl ?_))))))))))))
 refine Zb (Ze ?_)
 obtain ⟨c102, hB101, hr101, hn101, hb101⟩ := ctl_some hm
 refine W_mid (M := fun f' w' => ∃ s', (c102 = .next s' ∨ c102 = .brk s') ∧ (fun (_ : Unit) => ∃ (s114 : PHeap) , PHeap.le s113 s114 ∧ St w0 s114 (Res.box b100 55 [v100, v101, v102, v103] :: H) w' ∧ f' 1 = Value.pointer (some ⟨b100, 0, none⟩) ∧ f' 46 = v103 ∧ f' 47 = Value.int .i64 ((t100.Ops.length : Int))) s') ?_ ?_
 ·refine W_block (W_forC (fun k' s' f' w' => (fun (_ : Unit) => ∃ (s115 : PHeap) , PHeap.le s113 s115 ∧ St w0 s115 (Res.box b100 55 [v100, v101, v102, v103] :: H) w' ∧ f' 1 = Value.pointer (some ⟨b100, 0, none⟩) ∧ f' 46 = v103 ∧ f' 47 = Value.int .i64 ((t100.Ops.length : Int)) ∧ f' 48 = Value.int .i64 (k' : Int)) s') hB101 ?_ ?_ ?_)
  ·exact ⟨s113, (Zv _), hS110, p116, rfl, rfl, rfl⟩
  ·intro i101 t104 c103 f106 w109 hi101 hI102 hm101 hres102
   obtain ⟨s116, l108, hS112, p118, p119, p120, x103⟩ := hI102
   refine Zc (Zd (Za rfl rfl (Zq rfl x103 p120 (Zb (Ze (Zc (W_true (congrArg Value.bool (decide_eq_true (by omega))) (W_skip (Ze (Zc ?_))))))))))
   refine W_block (Zc (Zd ?_))
   obtain ⟨x104, q104, hm101⟩ := Zg hm101
   refine Za rfl rfl (Exec.index_rep S53 rfl p119 x103 (a103.mono (Zt (Zt (Zt l100 l104) l107) l108)) q104 ?_)
   intro b102 o101 a105
   refine Za rfl rfl (Zw (E := encOp) hS112 A79 rfl rfl rfl a105 ?_)
   intro v105 q105
   obtain ⟨u100, u101, rfl, r100, r101⟩ := encOp_val.1 q105
   refine Za rfl rfl (Exec.alloc (cs := [Value.string (⟨#[]⟩), Value.int .i64 (0), Value.slice none 0 0, Value.slice none 0 0]) hS112 Z79 rfl rfl ?_)
   intro b103 w110 hS113
   refine Za rfl rfl (Exec.store_box (ds := [Value.string (x104.Name), Value.int .i64 (x104.Cost), u100, u101]) (es := [Value.string (x104.Name), Value.int .i64 (x104.Cost), u100, u101]) hS113 A79 rfl rfl rfl rfl (Zj rfl (Zj rfl (Zj (r100).one (Zj (r101).one one_nil)))) (Nat.le_of_ble_eq_true rfl) rfl ?_)
   intro w111 hS114
   refine Zb (Ze (Zc (Zd (Za rfl rfl (Zp F55_0 rfl p118 rfl (Za rfl rfl (Zn ((hS114).f1) A22 rfl rfl rfl (Za rfl rfl (Exec.load_box_agg (ds := [Value.string (x104.Name), Value.int .i64 (x104.Cost), u100, u101]) (hS114) A79 rfl rfl rfl ?_)))))))))
   obtain ⟨y103, q106, hm101⟩ := Zg hm101
   refine Za rfl rfl (Exec.call rfl rfl Try.func48 rfl N48 (Zi rfl (Zi rfl args_nil)) ((base_operator_sim q106 hS114 (a100.mono (Zt (Zt (Zt l100 l104) l107) l108)) r100 r101).mono ?_))
   rintro _ w112 ⟨_, rfl, ⟨s117, l109, hS115, rfl⟩⟩
   refine ⟨_, rfl, ?_⟩
   refine Za rfl rfl (Exec.not rfl rfl (Zb (Ze ?_)))
   rcases ite_some hm101 with ⟨hc107, hm101⟩ | ⟨hc107, hm101⟩
   ·refine W_cond_t rfl hc107 (Zc (Zd (Za rfl rfl (Zo (v := Value.bool (false)) rfl rfl (Zb (Ze (W_ret (ib_ret (at_ret (at_ret (ib_ret (at_ret (at_ret ?_)))))))))))))
    have e107 := Zu hm101
    subst c103
    have hq101 := hr101 _ (hres102 (by intro _ h; cases h))
    have e108 := Zu hq101
    subst r
    refine ⟨_, ret1 rfl, ?_⟩
    have hS116 := (hS115).drop
    have hS117 := (hS116).drop
    exact ⟨s117, (Zt (Zt (Zt (Zt l100 l104) l107) l108) l109), hS117, rfl⟩
   refine W_cond_f rfl hc107 ?_
   replace hc107 := Zk hc107
   refine W_skip (ib_normal (Ze (Zd (Za rfl rfl (Exec.add rfl x103 rfl (Za rfl rfl (Zm (v := Value.int .i64 (IntKind.i64.wrap ((i101 : Int) + 1))) rfl rfl (Zb (Ze ?_)))))))))
   have e109 := Zu hm101
   subst c103
   have hS118 := (hS115).drop
   refine ⟨_, rfl, ?_⟩; exact ⟨s117, (Zt l108 l109), hS118, p118, p119, p120, (Eq.trans rfl (wrap_up hi101 (SliceRep.le (a103.mono (Zt (Zt l100 l104) l107)))))⟩
  intro t105 f107 w113 hI103 hres103
  obtain ⟨s118, l110, hS119, p121, p122, p123, x105⟩ := hI103
  refine Zc (Zd (Za rfl rfl (Zq rfl x105 p123 (Zb (Ze (Zc (W_false (congrArg Value.bool (decide_eq_false (by omega))) (W_exit (at_exit (at_exit (ib_here (Ze ?_))))))))))))
  refine ⟨_, .inl hres103, ?_⟩; exact ⟨s118, l110, hS119, p121, p122, p123⟩
 rintro f108 w114 ⟨t106, hc108, hM104⟩
 have hm := hc108.elim (hn101 _) (hb101 _)
 clear hc108
 obtain ⟨s119, l111, hS120, p124, p125, p126⟩ := hM104
 refine (Ze (Zc (Zd (Za rfl rfl (Zo (v := Value.bool (true)) rfl rfl (Zb (Ze (W_ret ?_))))))))
 have e110 := Zu hm
 subst r
 refine ⟨_, ret1 rfl, ?_⟩
 have hS121 := (hS120).drop
 exact ⟨s119, (Zt (Zt (Zt l100 l104) l107) l111), hS121, rfl⟩
theorem N32 : (Try.f32.name == "runtime.NumGoroutine") = false := by kernel_rfl
theorem base_Many_sim {w0 w : World} {s : PHeap} {H : List Res} {vars100 : (List Int)} {most100 : Int} {v100 : Value} {r : Int} (hm : base_Many_p vars100 most100 = some r) (hS : St w0 s (H) w) (a100 : SliceRep (encInt .i64) s v100 vars100) :
  Calls Try.prog 32 #[v100, Value.int .i64 (most100)] w fun e w' => ∃ v, e = .returned v ∧ ((fun (y100 : Int) => ∃ (s100 : PHeap) , PHeap.le s s100 ∧ St w0 s100 (H) w' ∧ v = Value.int .i64 (y100)) r) := by
 unfold base_Many_p at hm
 refine calls_of_W Try.func32 rfl rfl (Zc (Zd (Za rfl rfl (Zo (v := Value.int .i64 (0)) rfl rfl (Zb (Ze (Zc (Zd (Za rfl rfl (Zo (v := Value.int .i64 (1)) rfl rfl ?_))))))))))
 refine Zb (Ze (Zc (Zc (Zd (Za rfl rfl (Zm (v := v100) rfl rfl (Za rfl rfl (Zr S22 rfl rfl a100 (Za rfl rfl (Zm (v := Value.int .i64 (0)) rfl rfl (Zb (Ze ?_))))))))))))
 obtain ⟨c100, hB100, hr100, hn100, hb100⟩ := ctl_some hm
 refine W_mid (M := fun f' w' => ∃ s', (c100 = .next s' ∨ c100 = .brk s') ∧ (fun (n100 : Int) => ∃ (s101 : PHeap) , PHeap.le s s101 ∧ St w0 s101 (H) w' ∧ f' 1 = Value.int .i64 (most100) ∧ f' 5 = Value.int .i64 (n100) ∧ f' 8 = v100 ∧ f' 9 = Value.int .i64 ((vars100.length : Int))) s') ?_ ?_
 ·refine W_block (W_forC (fun k' s' f' w' => (fun (n101 : Int) => ∃ (s102 : PHeap) , PHeap.le s s102 ∧ St w0 s102 (H) w' ∧ f' 1 = Value.int .i64 (most100) ∧ f' 5 = Value.int .i64 (n101) ∧ f' 8 = v100 ∧ f' 9 = Value.int .i64 ((vars100.length : Int)) ∧ f' 10 = Value.int .i64 (k' : Int)) s') hB100 ?_ ?_ ?_)
  ·exact ⟨s, (Zv _), hS, rfl, rfl, rfl, rfl, rfl⟩
  ·intro i100 n101 c101 f100 w100 hi100 hI100 hm100 hres100
   obtain ⟨s103, l100, hS100, p100, p101, p102, p103, x100⟩ := hI100
   refine Zc (Zd (Za rfl rfl (Zq rfl x100 p103 (Zb (Ze (Zc (W_true (congrArg Value.bool (decide_eq_true (by omega))) (W_skip (Ze (Zc ?_))))))))))
   refine W_block (Zc (Zd ?_))
   obtain ⟨x101, q100, hm100⟩ := Zg hm100
   refine Za rfl rfl (Exec.index_rep S22 rfl p102 x100 (a100.mono l100) q100 ?_)
   intro b100 o100 a101
   refine Za rfl rfl (Zw (E := (encInt .i64)) hS100 A3 rfl rfl rfl a101 ?_)
   intro v101 q101
   obtain rfl := encInt_val.1 q101
   refine Za rfl rfl (Zo (v := Value.int .i64 (x101)) rfl rfl (Zb (Ze (Zc (Zd (Za rfl rfl (Zm (v := Value.int .i64 (n101)) rfl p101 (Za rfl rfl (Zm (v := Value.int .i64 (x101)) rfl rfl (Za rfl rfl (Exec.max2 rfl rfl rfl (Za rfl rfl (Zm (v := Value.int .i64 (most100)) rfl p100 ?_)))))))))))))
   refine Za rfl rfl (Exec.add rfl rfl rfl (Za rfl rfl (Exec.min2 rfl rfl rfl (Za rfl rfl (Exec.mul rfl rfl rfl (Za rfl rfl (Zo (v := Value.int .i64 (IntKind.i64.wrap (n101 * (min (max x101 0) (IntKind.i64.wrap (most100 + 1)))))) rfl rfl (Zb (Ze (Zc (Zd (Za rfl rfl (Zm (v := Value.int .i64 (IntKind.i64.wrap (n101 * (min (max x101 0) (IntKind.i64.wrap (most100 + 1)))))) rfl rfl ?_)))))))))))))
   refine Za rfl rfl (Zm (v := Value.int .i64 (most100)) rfl p100 (Za rfl rfl (Exec.gtr rfl rfl rfl (Zb (Ze ?_)))))
   rcases ite_some hm100 with ⟨hc100, hm100⟩ | ⟨hc100, hm100⟩
   ·refine W_cond_t rfl hc100 (Zc (Zd (Za rfl rfl (Zm (v := Value.int .i64 (most100)) rfl p100 (Za rfl rfl (Exec.add rfl rfl rfl (Za rfl rfl (Zo (v := Value.int .i64 (IntKind.i64.wrap (most100 + 1))) rfl rfl (Zb (Ze (W_ret (ib_ret (at_ret (at_ret (ib_ret (at_ret (at_ret ?_)))))))))))))))))
    have e100 := Zu hm100
    subst c101
    have hq100 := hr100 _ (hres100 (by intro _ h; cases h))
    have e101 := Zu hq100
    subst r
    refine ⟨_, ret1 rfl, ?_⟩
    exact ⟨s103, l100, hS100, rfl⟩
   refine W_cond_f rfl hc100 ?_
   replace hc100 := Zk hc100
   refine W_skip (ib_normal (Ze (Zd (Za rfl rfl (Exec.add rfl x100 rfl (Za rfl rfl (Zm (v := Value.int .i64 (IntKind.i64.wrap ((i100 : Int) + 1))) rfl rfl (Zb (Ze ?_)))))))))
   have e102 := Zu hm100
   subst c101
   refine ⟨_, rfl, ?_⟩; exact ⟨s103, l100, hS100, p100, rfl, p102, p103, (Eq.trans rfl (wrap_up hi100 (SliceRep.le a100)))⟩
  intro n101 f101 w101 hI101 hres101
  obtain ⟨s104, l101, hS101, p104, p105, p106, p107, x102⟩ := hI101
  refine Zc (Zd (Za rfl rfl (Zq rfl x102 p107 (Zb (Ze (Zc (W_false (congrArg Value.bool (decide_eq_false (by omega))) (W_exit (at_exit (at_exit (ib_here (Ze ?_))))))))))))
  refine ⟨_, .inl hres101, ?_⟩; exact ⟨s104, l101, hS101, p104, p105, p106, p107⟩
 rintro f102 w102 ⟨n100, hc101, hM100⟩
 have hm := hc101.elim (hn100 _) (hb100 _)
 clear hc101
 obtain ⟨s105, l102, hS102, p108, p109, p110, p111⟩ := hM100
 refine (Ze (Zc (Zd (Za rfl rfl (Zm (v := Value.int .i64 (n100)) rfl p109 (Za rfl rfl (Zo (v := Value.int .i64 (n100)) rfl rfl (Zb (Ze (W_ret ?_))))))))))
 have e103 := Zu hm
 subst r
 refine ⟨_, ret1 rfl, ?_⟩
 exact ⟨s105, l102, hS102, rfl⟩
theorem N30 : (Try.f30.name == "runtime.NumGoroutine") = false := by kernel_rfl
end Go.Pw
