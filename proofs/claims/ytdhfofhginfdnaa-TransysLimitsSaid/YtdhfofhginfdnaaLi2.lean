/-
  The walks (printed by my generator).
-/
import Derived.Test.YtdhfofhginfdnaaLi1
set_option maxRecDepth 100000
set_option maxHeartbeats 4000000
set_option linter.unusedVariables false
namespace Go.Pw
open Go.Proofs
theorem law44_TransysLimits_sim {w0 w : World} {s : PHeap} {H : List Res} {n1 : Int} {m2 : Int}  {r : Bool} (hm : law44_TransysLimits_p n1 m2 = some r) (hS : St w0 s (H) w)  :
    Calls Try.prog 4 #[Value.int .u16 (n1), Value.int .u16 (m2)] w fun e w' => ∃ v, e = .returned v ∧ ((fun (y26466 : Bool) => ∃ (s26467 : PHeap) , PHeap.le s s26467 ∧ St w0 s26467 (H) w' ∧ v = Value.bool (y26466)) r) := by
  unfold law44_TransysLimits_p at hm
  refine calls_of_W Try.func4 rfl rfl ?_
  refine W_seq ?_
  refine W_region ?_
  refine WL_step rfl rfl (Exec.assign (v := Value.bool (false)) rfl rfl ?_)
  refine WL_nil (at_normal ?_)
  refine W_seq ?_
  refine W_seq ?_
  refine W_region ?_
  obtain ⟨y26477, q26476, hm⟩ := bind_some hm
  refine WL_step rfl rfl (Exec.call rfl rfl Try.func10 rfl N10 args_nil ((law44_awake_sim q26476 hS ).mono ?_))
  rintro _ w26478 ⟨_, rfl, ⟨s26479, l26480, hS26481, rfl⟩⟩
  refine ⟨_, rfl, ?_⟩
  refine WL_step rfl rfl (Exec.not rfl rfl ?_)
  refine WL_nil (at_normal ?_)
  rcases ite_some hm with ⟨hc26482, hm⟩ | ⟨hc26482, hm⟩
  · refine W_cond_t rfl hc26482 ?_
    refine W_seq ?_
    refine W_region ?_
    refine WL_step rfl rfl (Exec.assign (v := Value.bool (false)) rfl rfl ?_)
    refine WL_nil (at_normal ?_)
    refine W_ret (at_ret ?_)
    have e26484 := Option.some.inj hm
    subst r
    refine ⟨_, ret1 rfl, ?_⟩
    exact ⟨s26479, l26480, hS26481, rfl⟩
  · refine W_cond_f rfl hc26482 ?_
    replace hc26482 := not_true hc26482
    refine W_skip (at_normal ?_)
    refine W_seq ?_
    refine W_region ?_
    refine WL_step rfl rfl (Exec.move (v := Value.int .u16 (n1)) rfl rfl ?_)
    refine WL_step rfl rfl (Exec.convert_int (by rw [Try.underlying37]; rfl) Try.underlying3 rfl rfl ?_)
    refine WL_step rfl rfl (Exec.rem rfl rfl rfl (by decide) ?_)
    refine WL_step rfl rfl (Exec.add rfl rfl rfl ?_)
    refine WL_step rfl rfl (Exec.move (v := Value.int .u16 (m2)) rfl rfl ?_)
    refine WL_step rfl rfl (Exec.convert_int (by rw [Try.underlying37]; rfl) Try.underlying3 rfl rfl ?_)
    refine WL_step rfl rfl (Exec.rem rfl rfl rfl (by decide) ?_)
    refine WL_step rfl rfl (Exec.add rfl rfl rfl ?_)
    refine WL_step rfl rfl (Exec.assign (v := Value.int .i64 (IntKind.i64.wrap (1 + ((IntKind.i64.wrap n1).tmod 90)))) rfl rfl ?_)
    refine WL_step rfl rfl (Exec.assign (v := Value.int .i64 (IntKind.i64.wrap (1 + ((IntKind.i64.wrap m2).tmod 90)))) rfl rfl ?_)
    refine WL_nil (at_normal ?_)
    refine W_seq ?_
    obtain ⟨l26486, q26487, hm⟩ := bind_some hm
    obtain ⟨l26491, q26492, hm⟩ := bind_some hm
    refine W_mid (M := fun f' w' => ∃ (s27057 : PHeap) (b27051 : Nat) (b27052 : Nat) (v27054 : Value) (v27056 : Value), PHeap.le s26479 s27057 ∧ St w0 s27057 (Res.box b27051 26 [Value.int .i64 (IntKind.i64.wrap (1 + ((IntKind.i64.wrap n1).tmod 90))), Value.int .i64 (0), Value.slice none 0 0, Value.slice none 0 0, v27054] :: Res.box b27052 26 [Value.int .i64 (IntKind.i64.wrap (1 + ((IntKind.i64.wrap m2).tmod 90))), Value.int .i64 (0), Value.slice none 0 0, Value.slice none 0 0, v27056] :: Res.arr encBool 4 v27054 l26486 :: Res.arr encBool 4 v27056 l26491 :: H) w' ∧ f' 5 = Value.int .i64 (IntKind.i64.wrap (1 + ((IntKind.i64.wrap n1).tmod 90))) ∧ f' 6 = Value.int .i64 (IntKind.i64.wrap (1 + ((IntKind.i64.wrap m2).tmod 90))) ∧ f' 7 = Value.pointer (some ⟨b27051, 0, none⟩) ∧ f' 8 = Value.pointer (some ⟨b27052, 0, none⟩)) ?_ ?_
    · refine W_dl (n0 := 11) (.q 0 (.q 1 (.q 4 (.q 5 (.alt (.e 2 [0, 4, 5] (.q 3 (.alt (.e 6 [0, 4, 3] (.q 7 (.alt (.e 8 [0, 4, 3, 7] (.e 9 [0, 4, 3, 7] (.e 10 [4, 7] .done))) (.e 9 [0, 4, 3, 7] (.e 8 [0, 4, 3, 7] (.e 10 [4, 7] .done)))))) (.alt (.e 8 [0, 4, 5, 3] (.alt (.e 6 [0, 4, 3] (.q 7 (.e 9 [0, 4, 3, 7] (.e 10 [4, 7] .done)))) (.e 9 [0, 4, 5, 3] (.alt (.e 6 [0, 4, 3] (.q 7 (.e 10 [4, 7] .done))) (.e 10 [4, 5] (.e 6 [4] (.q 7 .done))))))) (.e 9 [0, 4, 5, 3] (.alt (.e 6 [0, 4, 3] (.q 7 (.e 8 [0, 4, 3, 7] (.e 10 [4, 7] .done)))) (.e 8 [0, 4, 5, 3] (.alt (.e 6 [0, 4, 3] (.q 7 (.e 10 [4, 7] .done))) (.e 10 [4, 5] (.e 6 [4] (.q 7 .done))))))))))) (.alt (.e 6 [0, 1, 4] (.q 7 (.alt (.e 2 [0, 4, 7] (.q 3 (.alt (.e 8 [0, 4, 7, 3] (.e 9 [0, 4, 7, 3] (.e 10 [4, 7] .done))) (.e 9 [0, 4, 7, 3] (.e 8 [0, 4, 7, 3] (.e 10 [4, 7] .done)))))) (.alt (.e 8 [0, 1, 4, 7] (.alt (.e 2 [0, 4, 7] (.q 3 (.e 9 [0, 4, 7, 3] (.e 10 [4, 7] .done)))) (.e 9 [0, 1, 4, 7] (.e 2 [0, 4, 7] (.q 3 (.e 10 [4, 7] .done)))))) (.e 9 [0, 1, 4, 7] (.alt (.e 2 [0, 4, 7] (.q 3 (.e 8 [0, 4, 7, 3] (.e 10 [4, 7] .done)))) (.e 8 [0, 1, 4, 7] (.e 2 [0, 4, 7] (.q 3 (.e 10 [4, 7] .done)))))))))) (.alt (.e 8 [0, 1, 4, 5] (.alt (.e 2 [0, 4, 5] (.q 3 (.alt (.e 6 [0, 4, 3] (.q 7 (.e 9 [0, 4, 3, 7] (.e 10 [4, 7] .done)))) (.e 9 [0, 4, 5, 3] (.alt (.e 6 [0, 4, 3] (.q 7 (.e 10 [4, 7] .done))) (.e 10 [4, 5] (.e 6 [4] (.q 7 .done)))))))) (.alt (.e 6 [0, 1, 4] (.q 7 (.alt (.e 2 [0, 4, 7] (.q 3 (.e 9 [0, 4, 7, 3] (.e 10 [4, 7] .done)))) (.e 9 [0, 1, 4, 7] (.e 2 [0, 4, 7] (.q 3 (.e 10 [4, 7] .done))))))) (.e 9 [0, 1, 4, 5] (.alt (.e 2 [0, 4, 5] (.q 3 (.alt (.e 6 [0, 4, 3] (.q 7 (.e 10 [4, 7] .done))) (.e 10 [4, 5] (.e 6 [4] (.q 7 .done)))))) (.e 6 [0, 1, 4] (.q 7 (.e 2 [0, 4, 7] (.q 3 (.e 10 [4, 7] .done)))))))))) (.e 9 [0, 1, 4, 5] (.alt (.e 2 [0, 4, 5] (.q 3 (.alt (.e 6 [0, 4, 3] (.q 7 (.e 8 [0, 4, 3, 7] (.e 10 [4, 7] .done)))) (.e 8 [0, 4, 5, 3] (.alt (.e 6 [0, 4, 3] (.q 7 (.e 10 [4, 7] .done))) (.e 10 [4, 5] (.e 6 [4] (.q 7 .done)))))))) (.alt (.e 6 [0, 1, 4] (.q 7 (.alt (.e 2 [0, 4, 7] (.q 3 (.e 8 [0, 4, 7, 3] (.e 10 [4, 7] .done)))) (.e 8 [0, 1, 4, 7] (.e 2 [0, 4, 7] (.q 3 (.e 10 [4, 7] .done))))))) (.e 8 [0, 1, 4, 5] (.alt (.e 2 [0, 4, 5] (.q 3 (.alt (.e 6 [0, 4, 3] (.q 7 (.e 10 [4, 7] .done))) (.e 10 [4, 5] (.e 6 [4] (.q 7 .done)))))) (.e 6 [0, 1, 4] (.q 7 (.e 2 [0, 4, 7] (.q 3 (.e 10 [4, 7] .done))))))))))))))))) hmix (by kernel_rfl) (by kernel_rfl) ?_
      have hS27058 := hS26481.drew
      refine DL_q rfl rfl (Exec.move (v := Value.int .i64 (IntKind.i64.wrap (1 + ((IntKind.i64.wrap n1).tmod 90)))) rfl rfl ⟨rfl, ?_⟩)
      refine DL_q rfl rfl (Exec.move (v := Value.int .i64 (IntKind.i64.wrap (1 + ((IntKind.i64.wrap n1).tmod 90)))) rfl rfl ⟨rfl, ?_⟩)
      refine DL_q rfl rfl (Exec.move (v := Value.int .i64 (IntKind.i64.wrap (1 + ((IntKind.i64.wrap m2).tmod 90)))) rfl rfl ⟨rfl, ?_⟩)
      refine DL_q rfl rfl (Exec.move (v := Value.int .i64 (IntKind.i64.wrap (1 + ((IntKind.i64.wrap m2).tmod 90)))) rfl rfl ⟨rfl, ?_⟩)
      refine DL_alt ?_ ?_
      · refine DL_e rfl rfl (Exec.make (E := encBool) hS27058 S24 Z4 rfl rfl rfl rfl q26487 ?_)
        intro v27059 w27060 hS27061
        refine ⟨(ag_cons (ag_r rfl rfl (Exec.move (v := Value.int .i64 (IntKind.i64.wrap (1 + ((IntKind.i64.wrap n1).tmod 90)))) rfl rfl ⟨rfl, rfl⟩)) (ag_cons (ag_r rfl rfl (Exec.move (v := Value.int .i64 (IntKind.i64.wrap (1 + ((IntKind.i64.wrap m2).tmod 90)))) rfl rfl ⟨rfl, rfl⟩)) (ag_cons (ag_r rfl rfl (Exec.move (v := Value.int .i64 (IntKind.i64.wrap (1 + ((IntKind.i64.wrap m2).tmod 90)))) rfl rfl ⟨rfl, rfl⟩)) ag_nil))), ?_⟩
        refine DL_q rfl rfl (Exec.build rfl (parts_cons (c := [Value.int .i64 (IntKind.i64.wrap (1 + ((IntKind.i64.wrap n1).tmod 90)))]) (cells_of rfl rfl) (parts_cons (c := [v27059]) (cells_of rfl (cells_one (hS27061).arr_one)) parts_nil)) (v := Value.agg #[Value.int .i64 (IntKind.i64.wrap (1 + ((IntKind.i64.wrap n1).tmod 90))), Value.int .i64 (0), Value.slice none 0 0, Value.slice none 0 0, v27059]) (fun _ => by kernel_rfl) ⟨rfl, ?_⟩)
        refine DL_alt ?_ ?_
        · refine DL_e rfl rfl (Exec.make (E := encBool) hS27061 S24 Z4 rfl rfl rfl rfl q26492 ?_)
          intro v27062 w27063 hS27064
          refine ⟨(ag_cons (ag_r rfl rfl (Exec.move (v := Value.int .i64 (IntKind.i64.wrap (1 + ((IntKind.i64.wrap n1).tmod 90)))) rfl rfl ⟨rfl, rfl⟩)) (ag_cons (ag_r rfl rfl (Exec.move (v := Value.int .i64 (IntKind.i64.wrap (1 + ((IntKind.i64.wrap m2).tmod 90)))) rfl rfl ⟨rfl, rfl⟩)) (ag_cons (ag_r rfl rfl (Exec.build rfl (parts_cons (c := [Value.int .i64 (IntKind.i64.wrap (1 + ((IntKind.i64.wrap n1).tmod 90)))]) (cells_of rfl rfl) (parts_cons (c := [v27059]) (cells_of rfl (cells_one ((hS27064).f1).arr_one)) parts_nil)) (v := Value.agg #[Value.int .i64 (IntKind.i64.wrap (1 + ((IntKind.i64.wrap n1).tmod 90))), Value.int .i64 (0), Value.slice none 0 0, Value.slice none 0 0, v27059]) (fun _ => by kernel_rfl) ⟨rfl, rfl⟩)) ag_nil))), ?_⟩
          refine DL_q rfl rfl (Exec.build rfl (parts_cons (c := [Value.int .i64 (IntKind.i64.wrap (1 + ((IntKind.i64.wrap m2).tmod 90)))]) (cells_of rfl rfl) (parts_cons (c := [v27062]) (cells_of rfl (cells_one (hS27064).arr_one)) parts_nil)) (v := Value.agg #[Value.int .i64 (IntKind.i64.wrap (1 + ((IntKind.i64.wrap m2).tmod 90))), Value.int .i64 (0), Value.slice none 0 0, Value.slice none 0 0, v27062]) (fun _ => by kernel_rfl) ⟨rfl, ?_⟩)
          refine DL_alt ?_ ?_
          · refine DL_e rfl rfl (Exec.alloc (cs := [Value.int .i64 (0), Value.int .i64 (0), Value.slice none 0 0, Value.slice none 0 0, Value.slice none 0 0]) hS27064 Z26 rfl rfl ?_)
            intro b27065 w27066 hS27067
            refine ⟨(ag_cons (ag_r rfl rfl (Exec.move (v := Value.int .i64 (IntKind.i64.wrap (1 + ((IntKind.i64.wrap n1).tmod 90)))) rfl rfl ⟨rfl, rfl⟩)) (ag_cons (ag_r rfl rfl (Exec.move (v := Value.int .i64 (IntKind.i64.wrap (1 + ((IntKind.i64.wrap m2).tmod 90)))) rfl rfl ⟨rfl, rfl⟩)) (ag_cons (ag_r rfl rfl (Exec.build rfl (parts_cons (c := [Value.int .i64 (IntKind.i64.wrap (1 + ((IntKind.i64.wrap n1).tmod 90)))]) (cells_of rfl rfl) (parts_cons (c := [v27059]) (cells_of rfl (cells_one ((hS27067).f2).arr_one)) parts_nil)) (v := Value.agg #[Value.int .i64 (IntKind.i64.wrap (1 + ((IntKind.i64.wrap n1).tmod 90))), Value.int .i64 (0), Value.slice none 0 0, Value.slice none 0 0, v27059]) (fun _ => by kernel_rfl) ⟨rfl, rfl⟩)) (ag_cons (ag_r rfl rfl (Exec.build rfl (parts_cons (c := [Value.int .i64 (IntKind.i64.wrap (1 + ((IntKind.i64.wrap m2).tmod 90)))]) (cells_of rfl rfl) (parts_cons (c := [v27062]) (cells_of rfl (cells_one ((hS27067).f1).arr_one)) parts_nil)) (v := Value.agg #[Value.int .i64 (IntKind.i64.wrap (1 + ((IntKind.i64.wrap m2).tmod 90))), Value.int .i64 (0), Value.slice none 0 0, Value.slice none 0 0, v27062]) (fun _ => by kernel_rfl) ⟨rfl, rfl⟩)) ag_nil)))), ?_⟩
            refine DL_e rfl rfl (Exec.alloc (cs := [Value.int .i64 (0), Value.int .i64 (0), Value.slice none 0 0, Value.slice none 0 0, Value.slice none 0 0]) hS27067 Z26 rfl rfl ?_)
            intro b27068 w27069 hS27070
            refine ⟨(ag_cons (ag_r rfl rfl (Exec.move (v := Value.int .i64 (IntKind.i64.wrap (1 + ((IntKind.i64.wrap n1).tmod 90)))) rfl rfl ⟨rfl, rfl⟩)) (ag_cons (ag_r rfl rfl (Exec.move (v := Value.int .i64 (IntKind.i64.wrap (1 + ((IntKind.i64.wrap m2).tmod 90)))) rfl rfl ⟨rfl, rfl⟩)) (ag_cons (ag_r rfl rfl (Exec.build rfl (parts_cons (c := [Value.int .i64 (IntKind.i64.wrap (1 + ((IntKind.i64.wrap n1).tmod 90)))]) (cells_of rfl rfl) (parts_cons (c := [v27059]) (cells_of rfl (cells_one ((hS27070).f3).arr_one)) parts_nil)) (v := Value.agg #[Value.int .i64 (IntKind.i64.wrap (1 + ((IntKind.i64.wrap n1).tmod 90))), Value.int .i64 (0), Value.slice none 0 0, Value.slice none 0 0, v27059]) (fun _ => by kernel_rfl) ⟨rfl, rfl⟩)) (ag_cons (ag_r rfl rfl (Exec.build rfl (parts_cons (c := [Value.int .i64 (IntKind.i64.wrap (1 + ((IntKind.i64.wrap m2).tmod 90)))]) (cells_of rfl rfl) (parts_cons (c := [v27062]) (cells_of rfl (cells_one ((hS27070).f2).arr_one)) parts_nil)) (v := Value.agg #[Value.int .i64 (IntKind.i64.wrap (1 + ((IntKind.i64.wrap m2).tmod 90))), Value.int .i64 (0), Value.slice none 0 0, Value.slice none 0 0, v27062]) (fun _ => by kernel_rfl) ⟨rfl, rfl⟩)) ag_nil)))), ?_⟩
            have hS27071 := (hS27070).f1
            refine DL_e rfl rfl (Exec.store_box (ds := [Value.int .i64 (IntKind.i64.wrap (1 + ((IntKind.i64.wrap n1).tmod 90))), Value.int .i64 (0), Value.slice none 0 0, Value.slice none 0 0, v27059]) (es := [Value.int .i64 (IntKind.i64.wrap (1 + ((IntKind.i64.wrap n1).tmod 90))), Value.int .i64 (0), Value.slice none 0 0, Value.slice none 0 0, v27059]) hS27071 A26 rfl rfl rfl rfl (one_cons rfl (one_cons rfl (one_cons rfl (one_cons rfl (one_cons ((hS27071).f3).arr_one one_nil))))) (Nat.le_of_ble_eq_true rfl) rfl ?_)
            intro w27072 hS27073
            refine ⟨(ag_cons (ag_r rfl rfl (Exec.move (v := Value.int .i64 (IntKind.i64.wrap (1 + ((IntKind.i64.wrap m2).tmod 90)))) rfl rfl ⟨rfl, rfl⟩)) (ag_cons (ag_r rfl rfl (Exec.build rfl (parts_cons (c := [Value.int .i64 (IntKind.i64.wrap (1 + ((IntKind.i64.wrap m2).tmod 90)))]) (cells_of rfl rfl) (parts_cons (c := [v27062]) (cells_of rfl (cells_one ((hS27073).f2).arr_one)) parts_nil)) (v := Value.agg #[Value.int .i64 (IntKind.i64.wrap (1 + ((IntKind.i64.wrap m2).tmod 90))), Value.int .i64 (0), Value.slice none 0 0, Value.slice none 0 0, v27062]) (fun _ => by kernel_rfl) ⟨rfl, rfl⟩)) ag_nil)), ?_⟩
            refine DL_done ?_
            have hS27074 := (hS27073).f1
            refine WL_step rfl rfl (Exec.store_box (ds := [Value.int .i64 (IntKind.i64.wrap (1 + ((IntKind.i64.wrap m2).tmod 90))), Value.int .i64 (0), Value.slice none 0 0, Value.slice none 0 0, v27062]) (es := [Value.int .i64 (IntKind.i64.wrap (1 + ((IntKind.i64.wrap m2).tmod 90))), Value.int .i64 (0), Value.slice none 0 0, Value.slice none 0 0, v27062]) hS27074 A26 rfl rfl rfl rfl (one_cons rfl (one_cons rfl (one_cons rfl (one_cons rfl (one_cons ((hS27074).f2).arr_one one_nil))))) (Nat.le_of_ble_eq_true rfl) rfl ?_)
            intro w27075 hS27076
            refine WL_nil (at_normal ?_)
            have hS27077 := (hS27076).f2
            have hS27078 := (hS27077).f3
            have hS27079 := (hS27078).f2
            have hS27080 := (hS27079).f3
            exact ⟨s26479, b27065, b27068, v27059, v27062, (PHeap.le_refl _), hS27080, rfl, rfl, rfl, rfl⟩
          refine DL_e rfl rfl (Exec.alloc (cs := [Value.int .i64 (0), Value.int .i64 (0), Value.slice none 0 0, Value.slice none 0 0, Value.slice none 0 0]) hS27064 Z26 rfl rfl ?_)
          intro b27081 w27082 hS27083
          refine ⟨(ag_cons (ag_r rfl rfl (Exec.move (v := Value.int .i64 (IntKind.i64.wrap (1 + ((IntKind.i64.wrap n1).tmod 90)))) rfl rfl ⟨rfl, rfl⟩)) (ag_cons (ag_r rfl rfl (Exec.move (v := Value.int .i64 (IntKind.i64.wrap (1 + ((IntKind.i64.wrap m2).tmod 90)))) rfl rfl ⟨rfl, rfl⟩)) (ag_cons (ag_r rfl rfl (Exec.build rfl (parts_cons (c := [Value.int .i64 (IntKind.i64.wrap (1 + ((IntKind.i64.wrap n1).tmod 90)))]) (cells_of rfl rfl) (parts_cons (c := [v27059]) (cells_of rfl (cells_one ((hS27083).f2).arr_one)) parts_nil)) (v := Value.agg #[Value.int .i64 (IntKind.i64.wrap (1 + ((IntKind.i64.wrap n1).tmod 90))), Value.int .i64 (0), Value.slice none 0 0, Value.slice none 0 0, v27059]) (fun _ => by kernel_rfl) ⟨rfl, rfl⟩)) (ag_cons (ag_r rfl rfl (Exec.build rfl (parts_cons (c := [Value.int .i64 (IntKind.i64.wrap (1 + ((IntKind.i64.wrap m2).tmod 90)))]) (cells_of rfl rfl) (parts_cons (c := [v27062]) (cells_of rfl (cells_one ((hS27083).f1).arr_one)) parts_nil)) (v := Value.agg #[Value.int .i64 (IntKind.i64.wrap (1 + ((IntKind.i64.wrap m2).tmod 90))), Value.int .i64 (0), Value.slice none 0 0, Value.slice none 0 0, v27062]) (fun _ => by kernel_rfl) ⟨rfl, rfl⟩)) ag_nil)))), ?_⟩
          refine DL_e rfl rfl (Exec.alloc (cs := [Value.int .i64 (0), Value.int .i64 (0), Value.slice none 0 0, Value.slice none 0 0, Value.slice none 0 0]) hS27083 Z26 rfl rfl ?_)
          intro b27084 w27085 hS27086
          refine ⟨(ag_cons (ag_r rfl rfl (Exec.move (v := Value.int .i64 (IntKind.i64.wrap (1 + ((IntKind.i64.wrap n1).tmod 90)))) rfl rfl ⟨rfl, rfl⟩)) (ag_cons (ag_r rfl rfl (Exec.move (v := Value.int .i64 (IntKind.i64.wrap (1 + ((IntKind.i64.wrap m2).tmod 90)))) rfl rfl ⟨rfl, rfl⟩)) (ag_cons (ag_r rfl rfl (Exec.build rfl (parts_cons (c := [Value.int .i64 (IntKind.i64.wrap (1 + ((IntKind.i64.wrap n1).tmod 90)))]) (cells_of rfl rfl) (parts_cons (c := [v27059]) (cells_of rfl (cells_one ((hS27086).f3).arr_one)) parts_nil)) (v := Value.agg #[Value.int .i64 (IntKind.i64.wrap (1 + ((IntKind.i64.wrap n1).tmod 90))), Value.int .i64 (0), Value.slice none 0 0, Value.slice none 0 0, v27059]) (fun _ => by kernel_rfl) ⟨rfl, rfl⟩)) (ag_cons (ag_r rfl rfl (Exec.build rfl (parts_cons (c := [Value.int .i64 (IntKind.i64.wrap (1 + ((IntKind.i64.wrap m2).tmod 90)))]) (cells_of rfl rfl) (parts_cons (c := [v27062]) (cells_of rfl (cells_one ((hS27086).f2).arr_one)) parts_nil)) (v := Value.agg #[Value.int .i64 (IntKind.i64.wrap (1 + ((IntKind.i64.wrap m2).tmod 90))), Value.int .i64 (0), Value.slice none 0 0, Value.slice none 0 0, v27062]) (fun _ => by kernel_rfl) ⟨rfl, rfl⟩)) ag_nil)))), ?_⟩
          refine DL_e rfl rfl (Exec.store_box (ds := [Value.int .i64 (IntKind.i64.wrap (1 + ((IntKind.i64.wrap n1).tmod 90))), Value.int .i64 (0), Value.slice none 0 0, Value.slice none 0 0, v27059]) (es := [Value.int .i64 (IntKind.i64.wrap (1 + ((IntKind.i64.wrap n1).tmod 90))), Value.int .i64 (0), Value.slice none 0 0, Value.slice none 0 0, v27059]) hS27086 A26 rfl rfl rfl rfl (one_cons rfl (one_cons rfl (one_cons rfl (one_cons rfl (one_cons ((hS27086).f3).arr_one one_nil))))) (Nat.le_of_ble_eq_true rfl) rfl ?_)
          intro w27087 hS27088
          refine ⟨(ag_cons (ag_r rfl rfl (Exec.move (v := Value.int .i64 (IntKind.i64.wrap (1 + ((IntKind.i64.wrap m2).tmod 90)))) rfl rfl ⟨rfl, rfl⟩)) (ag_cons (ag_r rfl rfl (Exec.build rfl (parts_cons (c := [Value.int .i64 (IntKind.i64.wrap (1 + ((IntKind.i64.wrap m2).tmod 90)))]) (cells_of rfl rfl) (parts_cons (c := [v27062]) (cells_of rfl (cells_one ((hS27088).f2).arr_one)) parts_nil)) (v := Value.agg #[Value.int .i64 (IntKind.i64.wrap (1 + ((IntKind.i64.wrap m2).tmod 90))), Value.int .i64 (0), Value.slice none 0 0, Value.slice none 0 0, v27062]) (fun _ => by kernel_rfl) ⟨rfl, rfl⟩)) ag_nil)), ?_⟩
          refine DL_done ?_
          have hS27089 := (hS27088).f1
          refine WL_step rfl rfl (Exec.store_box (ds := [Value.int .i64 (IntKind.i64.wrap (1 + ((IntKind.i64.wrap m2).tmod 90))), Value.int .i64 (0), Value.slice none 0 0, Value.slice none 0 0, v27062]) (es := [Value.int .i64 (IntKind.i64.wrap (1 + ((IntKind.i64.wrap m2).tmod 90))), Value.int .i64 (0), Value.slice none 0 0, Value.slice none 0 0, v27062]) hS27089 A26 rfl rfl rfl rfl (one_cons rfl (one_cons rfl (one_cons rfl (one_cons rfl (one_cons ((hS27089).f2).arr_one one_nil))))) (Nat.le_of_ble_eq_true rfl) rfl ?_)
          intro w27090 hS27091
          refine WL_nil (at_normal ?_)
          have hS27092 := (hS27091).f2
          have hS27093 := (hS27092).f3
          have hS27094 := (hS27093).f2
          have hS27095 := (hS27094).f3
          exact ⟨s26479, b27084, b27081, v27059, v27062, (PHeap.le_refl _), hS27095, rfl, rfl, rfl, rfl⟩
        refine DL_alt ?_ ?_
        · refine DL_e rfl rfl (Exec.alloc (cs := [Value.int .i64 (0), Value.int .i64 (0), Value.slice none 0 0, Value.slice none 0 0, Value.slice none 0 0]) hS27061 Z26 rfl rfl ?_)
          intro b27096 w27097 hS27098
          refine ⟨(ag_cons (ag_r rfl rfl (Exec.move (v := Value.int .i64 (IntKind.i64.wrap (1 + ((IntKind.i64.wrap n1).tmod 90)))) rfl rfl ⟨rfl, rfl⟩)) (ag_cons (ag_r rfl rfl (Exec.move (v := Value.int .i64 (IntKind.i64.wrap (1 + ((IntKind.i64.wrap m2).tmod 90)))) rfl rfl ⟨rfl, rfl⟩)) (ag_cons (ag_r rfl rfl (Exec.move (v := Value.int .i64 (IntKind.i64.wrap (1 + ((IntKind.i64.wrap m2).tmod 90)))) rfl rfl ⟨rfl, rfl⟩)) (ag_cons (ag_r rfl rfl (Exec.build rfl (parts_cons (c := [Value.int .i64 (IntKind.i64.wrap (1 + ((IntKind.i64.wrap n1).tmod 90)))]) (cells_of rfl rfl) (parts_cons (c := [v27059]) (cells_of rfl (cells_one ((hS27098).f1).arr_one)) parts_nil)) (v := Value.agg #[Value.int .i64 (IntKind.i64.wrap (1 + ((IntKind.i64.wrap n1).tmod 90))), Value.int .i64 (0), Value.slice none 0 0, Value.slice none 0 0, v27059]) (fun _ => by kernel_rfl) ⟨rfl, rfl⟩)) ag_nil)))), ?_⟩
          refine DL_alt ?_ ?_
          · refine DL_e rfl rfl (Exec.make (E := encBool) hS27098 S24 Z4 rfl rfl rfl rfl q26492 ?_)
            intro v27099 w27100 hS27101
            refine ⟨(ag_cons (ag_r rfl rfl (Exec.move (v := Value.int .i64 (IntKind.i64.wrap (1 + ((IntKind.i64.wrap n1).tmod 90)))) rfl rfl ⟨rfl, rfl⟩)) (ag_cons (ag_r rfl rfl (Exec.move (v := Value.int .i64 (IntKind.i64.wrap (1 + ((IntKind.i64.wrap m2).tmod 90)))) rfl rfl ⟨rfl, rfl⟩)) (ag_cons (ag_r rfl rfl (Exec.build rfl (parts_cons (c := [Value.int .i64 (IntKind.i64.wrap (1 + ((IntKind.i64.wrap n1).tmod 90)))]) (cells_of rfl rfl) (parts_cons (c := [v27059]) (cells_of rfl (cells_one ((hS27101).f2).arr_one)) parts_nil)) (v := Value.agg #[Value.int .i64 (IntKind.i64.wrap (1 + ((IntKind.i64.wrap n1).tmod 90))), Value.int .i64 (0), Value.slice none 0 0, Value.slice none 0 0, v27059]) (fun _ => by kernel_rfl) ⟨rfl, rfl⟩)) ag_nil))), ?_⟩
            refine DL_q rfl rfl (Exec.build rfl (parts_cons (c := [Value.int .i64 (IntKind.i64.wrap (1 + ((IntKind.i64.wrap m2).tmod 90)))]) (cells_of rfl rfl) (parts_cons (c := [v27099]) (cells_of rfl (cells_one (hS27101).arr_one)) parts_nil)) (v := Value.agg #[Value.int .i64 (IntKind.i64.wrap (1 + ((IntKind.i64.wrap m2).tmod 90))), Value.int .i64 (0), Value.slice none 0 0, Value.slice none 0 0, v27099]) (fun _ => by kernel_rfl) ⟨rfl, ?_⟩)
            refine DL_e rfl rfl (Exec.alloc (cs := [Value.int .i64 (0), Value.int .i64 (0), Value.slice none 0 0, Value.slice none 0 0, Value.slice none 0 0]) hS27101 Z26 rfl rfl ?_)
            intro b27102 w27103 hS27104
            refine ⟨(ag_cons (ag_r rfl rfl (Exec.move (v := Value.int .i64 (IntKind.i64.wrap (1 + ((IntKind.i64.wrap n1).tmod 90)))) rfl rfl ⟨rfl, rfl⟩)) (ag_cons (ag_r rfl rfl (Exec.move (v := Value.int .i64 (IntKind.i64.wrap (1 + ((IntKind.i64.wrap m2).tmod 90)))) rfl rfl ⟨rfl, rfl⟩)) (ag_cons (ag_r rfl rfl (Exec.build rfl (parts_cons (c := [Value.int .i64 (IntKind.i64.wrap (1 + ((IntKind.i64.wrap n1).tmod 90)))]) (cells_of rfl rfl) (parts_cons (c := [v27059]) (cells_of rfl (cells_one ((hS27104).f3).arr_one)) parts_nil)) (v := Value.agg #[Value.int .i64 (IntKind.i64.wrap (1 + ((IntKind.i64.wrap n1).tmod 90))), Value.int .i64 (0), Value.slice none 0 0, Value.slice none 0 0, v27059]) (fun _ => by kernel_rfl) ⟨rfl, rfl⟩)) (ag_cons (ag_r rfl rfl (Exec.build rfl (parts_cons (c := [Value.int .i64 (IntKind.i64.wrap (1 + ((IntKind.i64.wrap m2).tmod 90)))]) (cells_of rfl rfl) (parts_cons (c := [v27099]) (cells_of rfl (cells_one ((hS27104).f1).arr_one)) parts_nil)) (v := Value.agg #[Value.int .i64 (IntKind.i64.wrap (1 + ((IntKind.i64.wrap m2).tmod 90))), Value.int .i64 (0), Value.slice none 0 0, Value.slice none 0 0, v27099]) (fun _ => by kernel_rfl) ⟨rfl, rfl⟩)) ag_nil)))), ?_⟩
            have hS27105 := (hS27104).f2
            refine DL_e rfl rfl (Exec.store_box (ds := [Value.int .i64 (IntKind.i64.wrap (1 + ((IntKind.i64.wrap n1).tmod 90))), Value.int .i64 (0), Value.slice none 0 0, Value.slice none 0 0, v27059]) (es := [Value.int .i64 (IntKind.i64.wrap (1 + ((IntKind.i64.wrap n1).tmod 90))), Value.int .i64 (0), Value.slice none 0 0, Value.slice none 0 0, v27059]) hS27105 A26 rfl rfl rfl rfl (one_cons rfl (one_cons rfl (one_cons rfl (one_cons rfl (one_cons ((hS27105).f3).arr_one one_nil))))) (Nat.le_of_ble_eq_true rfl) rfl ?_)
            intro w27106 hS27107
            refine ⟨(ag_cons (ag_r rfl rfl (Exec.move (v := Value.int .i64 (IntKind.i64.wrap (1 + ((IntKind.i64.wrap m2).tmod 90)))) rfl rfl ⟨rfl, rfl⟩)) (ag_cons (ag_r rfl rfl (Exec.build rfl (parts_cons (c := [Value.int .i64 (IntKind.i64.wrap (1 + ((IntKind.i64.wrap m2).tmod 90)))]) (cells_of rfl rfl) (parts_cons (c := [v27099]) (cells_of rfl (cells_one ((hS27107).f2).arr_one)) parts_nil)) (v := Value.agg #[Value.int .i64 (IntKind.i64.wrap (1 + ((IntKind.i64.wrap m2).tmod 90))), Value.int .i64 (0), Value.slice none 0 0, Value.slice none 0 0, v27099]) (fun _ => by kernel_rfl) ⟨rfl, rfl⟩)) ag_nil)), ?_⟩
            refine DL_done ?_
            have hS27108 := (hS27107).f1
            refine WL_step rfl rfl (Exec.store_box (ds := [Value.int .i64 (IntKind.i64.wrap (1 + ((IntKind.i64.wrap m2).tmod 90))), Value.int .i64 (0), Value.slice none 0 0, Value.slice none 0 0, v27099]) (es := [Value.int .i64 (IntKind.i64.wrap (1 + ((IntKind.i64.wrap m2).tmod 90))), Value.int .i64 (0), Value.slice none 0 0, Value.slice none 0 0, v27099]) hS27108 A26 rfl rfl rfl rfl (one_cons rfl (one_cons rfl (one_cons rfl (one_cons rfl (one_cons ((hS27108).f2).arr_one one_nil))))) (Nat.le_of_ble_eq_true rfl) rfl ?_)
            intro w27109 hS27110
            refine WL_nil (at_normal ?_)
            have hS27111 := (hS27110).f2
            have hS27112 := (hS27111).f3
            have hS27113 := (hS27112).f2
            have hS27114 := (hS27113).f3
            exact ⟨s26479, b27096, b27102, v27059, v27099, (PHeap.le_refl _), hS27114, rfl, rfl, rfl, rfl⟩
          refine DL_e rfl rfl (Exec.alloc (cs := [Value.int .i64 (0), Value.int .i64 (0), Value.slice none 0 0, Value.slice none 0 0, Value.slice none 0 0]) hS27098 Z26 rfl rfl ?_)
          intro b27115 w27116 hS27117
          refine ⟨(ag_cons (ag_r rfl rfl (Exec.move (v := Value.int .i64 (IntKind.i64.wrap (1 + ((IntKind.i64.wrap n1).tmod 90)))) rfl rfl ⟨rfl, rfl⟩)) (ag_cons (ag_r rfl rfl (Exec.move (v := Value.int .i64 (IntKind.i64.wrap (1 + ((IntKind.i64.wrap m2).tmod 90)))) rfl rfl ⟨rfl, rfl⟩)) (ag_cons (ag_r rfl rfl (Exec.move (v := Value.int .i64 (IntKind.i64.wrap (1 + ((IntKind.i64.wrap m2).tmod 90)))) rfl rfl ⟨rfl, rfl⟩)) (ag_cons (ag_r rfl rfl (Exec.build rfl (parts_cons (c := [Value.int .i64 (IntKind.i64.wrap (1 + ((IntKind.i64.wrap n1).tmod 90)))]) (cells_of rfl rfl) (parts_cons (c := [v27059]) (cells_of rfl (cells_one ((hS27117).f2).arr_one)) parts_nil)) (v := Value.agg #[Value.int .i64 (IntKind.i64.wrap (1 + ((IntKind.i64.wrap n1).tmod 90))), Value.int .i64 (0), Value.slice none 0 0, Value.slice none 0 0, v27059]) (fun _ => by kernel_rfl) ⟨rfl, rfl⟩)) ag_nil)))), ?_⟩
          refine DL_alt ?_ ?_
          · refine DL_e rfl rfl (Exec.make (E := encBool) hS27117 S24 Z4 rfl rfl rfl rfl q26492 ?_)
            intro v27118 w27119 hS27120
            refine ⟨(ag_cons (ag_r rfl rfl (Exec.move (v := Value.int .i64 (IntKind.i64.wrap (1 + ((IntKind.i64.wrap n1).tmod 90)))) rfl rfl ⟨rfl, rfl⟩)) (ag_cons (ag_r rfl rfl (Exec.move (v := Value.int .i64 (IntKind.i64.wrap (1 + ((IntKind.i64.wrap m2).tmod 90)))) rfl rfl ⟨rfl, rfl⟩)) (ag_cons (ag_r rfl rfl (Exec.build rfl (parts_cons (c := [Value.int .i64 (IntKind.i64.wrap (1 + ((IntKind.i64.wrap n1).tmod 90)))]) (cells_of rfl rfl) (parts_cons (c := [v27059]) (cells_of rfl (cells_one ((hS27120).f3).arr_one)) parts_nil)) (v := Value.agg #[Value.int .i64 (IntKind.i64.wrap (1 + ((IntKind.i64.wrap n1).tmod 90))), Value.int .i64 (0), Value.slice none 0 0, Value.slice none 0 0, v27059]) (fun _ => by kernel_rfl) ⟨rfl, rfl⟩)) ag_nil))), ?_⟩
            refine DL_q rfl rfl (Exec.build rfl (parts_cons (c := [Value.int .i64 (IntKind.i64.wrap (1 + ((IntKind.i64.wrap m2).tmod 90)))]) (cells_of rfl rfl) (parts_cons (c := [v27118]) (cells_of rfl (cells_one (hS27120).arr_one)) parts_nil)) (v := Value.agg #[Value.int .i64 (IntKind.i64.wrap (1 + ((IntKind.i64.wrap m2).tmod 90))), Value.int .i64 (0), Value.slice none 0 0, Value.slice none 0 0, v27118]) (fun _ => by kernel_rfl) ⟨rfl, ?_⟩)
            have hS27121 := (hS27120).f2
            refine DL_e rfl rfl (Exec.store_box (ds := [Value.int .i64 (IntKind.i64.wrap (1 + ((IntKind.i64.wrap n1).tmod 90))), Value.int .i64 (0), Value.slice none 0 0, Value.slice none 0 0, v27059]) (es := [Value.int .i64 (IntKind.i64.wrap (1 + ((IntKind.i64.wrap n1).tmod 90))), Value.int .i64 (0), Value.slice none 0 0, Value.slice none 0 0, v27059]) hS27121 A26 rfl rfl rfl rfl (one_cons rfl (one_cons rfl (one_cons rfl (one_cons rfl (one_cons ((hS27121).f3).arr_one one_nil))))) (Nat.le_of_ble_eq_true rfl) rfl ?_)
            intro w27122 hS27123
            refine ⟨(ag_cons (ag_r rfl rfl (Exec.move (v := Value.int .i64 (IntKind.i64.wrap (1 + ((IntKind.i64.wrap m2).tmod 90)))) rfl rfl ⟨rfl, rfl⟩)) (ag_cons (ag_r rfl rfl (Exec.build rfl (parts_cons (c := [Value.int .i64 (IntKind.i64.wrap (1 + ((IntKind.i64.wrap m2).tmod 90)))]) (cells_of rfl rfl) (parts_cons (c := [v27118]) (cells_of rfl (cells_one ((hS27123).f1).arr_one)) parts_nil)) (v := Value.agg #[Value.int .i64 (IntKind.i64.wrap (1 + ((IntKind.i64.wrap m2).tmod 90))), Value.int .i64 (0), Value.slice none 0 0, Value.slice none 0 0, v27118]) (fun _ => by kernel_rfl) ⟨rfl, rfl⟩)) ag_nil)), ?_⟩
            refine DL_done ?_
            have hS27124 := (hS27123).f2
            refine WL_step rfl rfl (Exec.store_box (ds := [Value.int .i64 (IntKind.i64.wrap (1 + ((IntKind.i64.wrap m2).tmod 90))), Value.int .i64 (0), Value.slice none 0 0, Value.slice none 0 0, v27118]) (es := [Value.int .i64 (IntKind.i64.wrap (1 + ((IntKind.i64.wrap m2).tmod 90))), Value.int .i64 (0), Value.slice none 0 0, Value.slice none 0 0, v27118]) hS27124 A26 rfl rfl rfl rfl (one_cons rfl (one_cons rfl (one_cons rfl (one_cons rfl (one_cons ((hS27124).f2).arr_one one_nil))))) (Nat.le_of_ble_eq_true rfl) rfl ?_)
            intro w27125 hS27126
            refine WL_nil (at_normal ?_)
            have hS27127 := (hS27126).f2
            have hS27128 := (hS27127).f3
            have hS27129 := (hS27128).f2
            have hS27130 := (hS27129).f3
            exact ⟨s26479, b27096, b27115, v27059, v27118, (PHeap.le_refl _), hS27130, rfl, rfl, rfl, rfl⟩
          have hS27131 := (hS27117).f1
          refine DL_e rfl rfl (Exec.store_box (ds := [Value.int .i64 (IntKind.i64.wrap (1 + ((IntKind.i64.wrap n1).tmod 90))), Value.int .i64 (0), Value.slice none 0 0, Value.slice none 0 0, v27059]) (es := [Value.int .i64 (IntKind.i64.wrap (1 + ((IntKind.i64.wrap n1).tmod 90))), Value.int .i64 (0), Value.slice none 0 0, Value.slice none 0 0, v27059]) hS27131 A26 rfl rfl rfl rfl (one_cons rfl (one_cons rfl (one_cons rfl (one_cons rfl (one_cons ((hS27131).f2).arr_one one_nil))))) (Nat.le_of_ble_eq_true rfl) rfl ?_)
          intro w27132 hS27133
          refine ⟨(ag_cons (ag_r rfl rfl (Exec.move (v := Value.int .i64 (IntKind.i64.wrap (1 + ((IntKind.i64.wrap m2).tmod 90)))) rfl rfl ⟨rfl, rfl⟩)) (ag_cons (ag_r rfl rfl (Exec.move (v := Value.int .i64 (IntKind.i64.wrap (1 + ((IntKind.i64.wrap m2).tmod 90)))) rfl rfl ⟨rfl, rfl⟩)) ag_nil)), ?_⟩
          refine DL_e rfl rfl (Exec.make (E := encBool) hS27133 S24 Z4 rfl rfl rfl rfl q26492 ?_)
          intro v27134 w27135 hS27136
          refine ⟨(ag_cons (ag_r rfl rfl (Exec.move (v := Value.int .i64 (IntKind.i64.wrap (1 + ((IntKind.i64.wrap m2).tmod 90)))) rfl rfl ⟨rfl, rfl⟩)) ag_nil), ?_⟩
          refine DL_q rfl rfl (Exec.build rfl (parts_cons (c := [Value.int .i64 (IntKind.i64.wrap (1 + ((IntKind.i64.wrap m2).tmod 90)))]) (cells_of rfl rfl) (parts_cons (c := [v27134]) (cells_of rfl (cells_one (hS27136).arr_one)) parts_nil)) (v := Value.agg #[Value.int .i64 (IntKind.i64.wrap (1 + ((IntKind.i64.wrap m2).tmod 90))), Value.int .i64 (0), Value.slice none 0 0, Value.slice none 0 0, v27134]) (fun _ => by kernel_rfl) ⟨rfl, ?_⟩)
          refine DL_done ?_
          have hS27137 := (hS27136).f2
          refine WL_step rfl rfl (Exec.store_box (ds := [Value.int .i64 (IntKind.i64.wrap (1 + ((IntKind.i64.wrap m2).tmod 90))), Value.int .i64 (0), Value.slice none 0 0, Value.slice none 0 0, v27134]) (es := [Value.int .i64 (IntKind.i64.wrap (1 + ((IntKind.i64.wrap m2).tmod 90))), Value.int .i64 (0), Value.slice none 0 0, Value.slice none 0 0, v27134]) hS27137 A26 rfl rfl rfl rfl (one_cons rfl (one_cons rfl (one_cons rfl (one_cons rfl (one_cons ((hS27137).f1).arr_one one_nil))))) (Nat.le_of_ble_eq_true rfl) rfl ?_)
          intro w27138 hS27139
          refine WL_nil (at_normal ?_)
          have hS27140 := (hS27139).f1
          have hS27141 := (hS27140).f3
          have hS27142 := (hS27141).f2
          have hS27143 := (hS27142).f3
          exact ⟨s26479, b27096, b27115, v27059, v27134, (PHeap.le_refl _), hS27143, rfl, rfl, rfl, rfl⟩
        refine DL_e rfl rfl (Exec.alloc (cs := [Value.int .i64 (0), Value.int .i64 (0), Value.slice none 0 0, Value.slice none 0 0, Value.slice none 0 0]) hS27061 Z26 rfl rfl ?_)
        intro b27144 w27145 hS27146
        refine ⟨(ag_cons (ag_r rfl rfl (Exec.move (v := Value.int .i64 (IntKind.i64.wrap (1 + ((IntKind.i64.wrap n1).tmod 90)))) rfl rfl ⟨rfl, rfl⟩)) (ag_cons (ag_r rfl rfl (Exec.move (v := Value.int .i64 (IntKind.i64.wrap (1 + ((IntKind.i64.wrap m2).tmod 90)))) rfl rfl ⟨rfl, rfl⟩)) (ag_cons (ag_r rfl rfl (Exec.move (v := Value.int .i64 (IntKind.i64.wrap (1 + ((IntKind.i64.wrap m2).tmod 90)))) rfl rfl ⟨rfl, rfl⟩)) (ag_cons (ag_r rfl rfl (Exec.build rfl (parts_cons (c := [Value.int .i64 (IntKind.i64.wrap (1 + ((IntKind.i64.wrap n1).tmod 90)))]) (cells_of rfl rfl) (parts_cons (c := [v27059]) (cells_of rfl (cells_one ((hS27146).f1).arr_one)) parts_nil)) (v := Value.agg #[Value.int .i64 (IntKind.i64.wrap (1 + ((IntKind.i64.wrap n1).tmod 90))), Value.int .i64 (0), Value.slice none 0 0, Value.slice none 0 0, v27059]) (fun _ => by kernel_rfl) ⟨rfl, rfl⟩)) ag_nil)))), ?_⟩
        refine DL_alt ?_ ?_
        · refine DL_e rfl rfl (Exec.make (E := encBool) hS27146 S24 Z4 rfl rfl rfl rfl q26492 ?_)
          intro v27147 w27148 hS27149
          refine ⟨(ag_cons (ag_r rfl rfl (Exec.move (v := Value.int .i64 (IntKind.i64.wrap (1 + ((IntKind.i64.wrap n1).tmod 90)))) rfl rfl ⟨rfl, rfl⟩)) (ag_cons (ag_r rfl rfl (Exec.move (v := Value.int .i64 (IntKind.i64.wrap (1 + ((IntKind.i64.wrap m2).tmod 90)))) rfl rfl ⟨rfl, rfl⟩)) (ag_cons (ag_r rfl rfl (Exec.build rfl (parts_cons (c := [Value.int .i64 (IntKind.i64.wrap (1 + ((IntKind.i64.wrap n1).tmod 90)))]) (cells_of rfl rfl) (parts_cons (c := [v27059]) (cells_of rfl (cells_one ((hS27149).f2).arr_one)) parts_nil)) (v := Value.agg #[Value.int .i64 (IntKind.i64.wrap (1 + ((IntKind.i64.wrap n1).tmod 90))), Value.int .i64 (0), Value.slice none 0 0, Value.slice none 0 0, v27059]) (fun _ => by kernel_rfl) ⟨rfl, rfl⟩)) ag_nil))), ?_⟩
          refine DL_q rfl rfl (Exec.build rfl (parts_cons (c := [Value.int .i64 (IntKind.i64.wrap (1 + ((IntKind.i64.wrap m2).tmod 90)))]) (cells_of rfl rfl) (parts_cons (c := [v27147]) (cells_of rfl (cells_one (hS27149).arr_one)) parts_nil)) (v := Value.agg #[Value.int .i64 (IntKind.i64.wrap (1 + ((IntKind.i64.wrap m2).tmod 90))), Value.int .i64 (0), Value.slice none 0 0, Value.slice none 0 0, v27147]) (fun _ => by kernel_rfl) ⟨rfl, ?_⟩)
          refine DL_e rfl rfl (Exec.alloc (cs := [Value.int .i64 (0), Value.int .i64 (0), Value.slice none 0 0, Value.slice none 0 0, Value.slice none 0 0]) hS27149 Z26 rfl rfl ?_)
          intro b27150 w27151 hS27152
          refine ⟨(ag_cons (ag_r rfl rfl (Exec.move (v := Value.int .i64 (IntKind.i64.wrap (1 + ((IntKind.i64.wrap n1).tmod 90)))) rfl rfl ⟨rfl, rfl⟩)) (ag_cons (ag_r rfl rfl (Exec.move (v := Value.int .i64 (IntKind.i64.wrap (1 + ((IntKind.i64.wrap m2).tmod 90)))) rfl rfl ⟨rfl, rfl⟩)) (ag_cons (ag_r rfl rfl (Exec.build rfl (parts_cons (c := [Value.int .i64 (IntKind.i64.wrap (1 + ((IntKind.i64.wrap n1).tmod 90)))]) (cells_of rfl rfl) (parts_cons (c := [v27059]) (cells_of rfl (cells_one ((hS27152).f3).arr_one)) parts_nil)) (v := Value.agg #[Value.int .i64 (IntKind.i64.wrap (1 + ((IntKind.i64.wrap n1).tmod 90))), Value.int .i64 (0), Value.slice none 0 0, Value.slice none 0 0, v27059]) (fun _ => by kernel_rfl) ⟨rfl, rfl⟩)) (ag_cons (ag_r rfl rfl (Exec.build rfl (parts_cons (c := [Value.int .i64 (IntKind.i64.wrap (1 + ((IntKind.i64.wrap m2).tmod 90)))]) (cells_of rfl rfl) (parts_cons (c := [v27147]) (cells_of rfl (cells_one ((hS27152).f1).arr_one)) parts_nil)) (v := Value.agg #[Value.int .i64 (IntKind.i64.wrap (1 + ((IntKind.i64.wrap m2).tmod 90))), Value.int .i64 (0), Value.slice none 0 0, Value.slice none 0 0, v27147]) (fun _ => by kernel_rfl) ⟨rfl, rfl⟩)) ag_nil)))), ?_⟩
          refine DL_e rfl rfl (Exec.store_box (ds := [Value.int .i64 (IntKind.i64.wrap (1 + ((IntKind.i64.wrap n1).tmod 90))), Value.int .i64 (0), Value.slice none 0 0, Value.slice none 0 0, v27059]) (es := [Value.int .i64 (IntKind.i64.wrap (1 + ((IntKind.i64.wrap n1).tmod 90))), Value.int .i64 (0), Value.slice none 0 0, Value.slice none 0 0, v27059]) hS27152 A26 rfl rfl rfl rfl (one_cons rfl (one_cons rfl (one_cons rfl (one_cons rfl (one_cons ((hS27152).f3).arr_one one_nil))))) (Nat.le_of_ble_eq_true rfl) rfl ?_)
          intro w27153 hS27154
          refine ⟨(ag_cons (ag_r rfl rfl (Exec.move (v := Value.int .i64 (IntKind.i64.wrap (1 + ((IntKind.i64.wrap m2).tmod 90)))) rfl rfl ⟨rfl, rfl⟩)) (ag_cons (ag_r rfl rfl (Exec.build rfl (parts_cons (c := [Value.int .i64 (IntKind.i64.wrap (1 + ((IntKind.i64.wrap m2).tmod 90)))]) (cells_of rfl rfl) (parts_cons (c := [v27147]) (cells_of rfl (cells_one ((hS27154).f1).arr_one)) parts_nil)) (v := Value.agg #[Value.int .i64 (IntKind.i64.wrap (1 + ((IntKind.i64.wrap m2).tmod 90))), Value.int .i64 (0), Value.slice none 0 0, Value.slice none 0 0, v27147]) (fun _ => by kernel_rfl) ⟨rfl, rfl⟩)) ag_nil)), ?_⟩
          refine DL_done ?_
          have hS27155 := (hS27154).f2
          refine WL_step rfl rfl (Exec.store_box (ds := [Value.int .i64 (IntKind.i64.wrap (1 + ((IntKind.i64.wrap m2).tmod 90))), Value.int .i64 (0), Value.slice none 0 0, Value.slice none 0 0, v27147]) (es := [Value.int .i64 (IntKind.i64.wrap (1 + ((IntKind.i64.wrap m2).tmod 90))), Value.int .i64 (0), Value.slice none 0 0, Value.slice none 0 0, v27147]) hS27155 A26 rfl rfl rfl rfl (one_cons rfl (one_cons rfl (one_cons rfl (one_cons rfl (one_cons ((hS27155).f2).arr_one one_nil))))) (Nat.le_of_ble_eq_true rfl) rfl ?_)
          intro w27156 hS27157
          refine WL_nil (at_normal ?_)
          have hS27158 := (hS27157).f2
          have hS27159 := (hS27158).f3
          have hS27160 := (hS27159).f2
          have hS27161 := (hS27160).f3
          exact ⟨s26479, b27150, b27144, v27059, v27147, (PHeap.le_refl _), hS27161, rfl, rfl, rfl, rfl⟩
        refine DL_e rfl rfl (Exec.alloc (cs := [Value.int .i64 (0), Value.int .i64 (0), Value.slice none 0 0, Value.slice none 0 0, Value.slice none 0 0]) hS27146 Z26 rfl rfl ?_)
        intro b27162 w27163 hS27164
        refine ⟨(ag_cons (ag_r rfl rfl (Exec.move (v := Value.int .i64 (IntKind.i64.wrap (1 + ((IntKind.i64.wrap n1).tmod 90)))) rfl rfl ⟨rfl, rfl⟩)) (ag_cons (ag_r rfl rfl (Exec.move (v := Value.int .i64 (IntKind.i64.wrap (1 + ((IntKind.i64.wrap m2).tmod 90)))) rfl rfl ⟨rfl, rfl⟩)) (ag_cons (ag_r rfl rfl (Exec.move (v := Value.int .i64 (IntKind.i64.wrap (1 + ((IntKind.i64.wrap m2).tmod 90)))) rfl rfl ⟨rfl, rfl⟩)) (ag_cons (ag_r rfl rfl (Exec.build rfl (parts_cons (c := [Value.int .i64 (IntKind.i64.wrap (1 + ((IntKind.i64.wrap n1).tmod 90)))]) (cells_of rfl rfl) (parts_cons (c := [v27059]) (cells_of rfl (cells_one ((hS27164).f2).arr_one)) parts_nil)) (v := Value.agg #[Value.int .i64 (IntKind.i64.wrap (1 + ((IntKind.i64.wrap n1).tmod 90))), Value.int .i64 (0), Value.slice none 0 0, Value.slice none 0 0, v27059]) (fun _ => by kernel_rfl) ⟨rfl, rfl⟩)) ag_nil)))), ?_⟩
        refine DL_alt ?_ ?_
        · refine DL_e rfl rfl (Exec.make (E := encBool) hS27164 S24 Z4 rfl rfl rfl rfl q26492 ?_)
          intro v27165 w27166 hS27167
          refine ⟨(ag_cons (ag_r rfl rfl (Exec.move (v := Value.int .i64 (IntKind.i64.wrap (1 + ((IntKind.i64.wrap n1).tmod 90)))) rfl rfl ⟨rfl, rfl⟩)) (ag_cons (ag_r rfl rfl (Exec.move (v := Value.int .i64 (IntKind.i64.wrap (1 + ((IntKind.i64.wrap m2).tmod 90)))) rfl rfl ⟨rfl, rfl⟩)) (ag_cons (ag_r rfl rfl (Exec.build rfl (parts_cons (c := [Value.int .i64 (IntKind.i64.wrap (1 + ((IntKind.i64.wrap n1).tmod 90)))]) (cells_of rfl rfl) (parts_cons (c := [v27059]) (cells_of rfl (cells_one ((hS27167).f3).arr_one)) parts_nil)) (v := Value.agg #[Value.int .i64 (IntKind.i64.wrap (1 + ((IntKind.i64.wrap n1).tmod 90))), Value.int .i64 (0), Value.slice none 0 0, Value.slice none 0 0, v27059]) (fun _ => by kernel_rfl) ⟨rfl, rfl⟩)) ag_nil))), ?_⟩
          refine DL_q rfl rfl (Exec.build rfl (parts_cons (c := [Value.int .i64 (IntKind.i64.wrap (1 + ((IntKind.i64.wrap m2).tmod 90)))]) (cells_of rfl rfl) (parts_cons (c := [v27165]) (cells_of rfl (cells_one (hS27167).arr_one)) parts_nil)) (v := Value.agg #[Value.int .i64 (IntKind.i64.wrap (1 + ((IntKind.i64.wrap m2).tmod 90))), Value.int .i64 (0), Value.slice none 0 0, Value.slice none 0 0, v27165]) (fun _ => by kernel_rfl) ⟨rfl, ?_⟩)
          have hS27168 := (hS27167).f1
          refine DL_e rfl rfl (Exec.store_box (ds := [Value.int .i64 (IntKind.i64.wrap (1 + ((IntKind.i64.wrap n1).tmod 90))), Value.int .i64 (0), Value.slice none 0 0, Value.slice none 0 0, v27059]) (es := [Value.int .i64 (IntKind.i64.wrap (1 + ((IntKind.i64.wrap n1).tmod 90))), Value.int .i64 (0), Value.slice none 0 0, Value.slice none 0 0, v27059]) hS27168 A26 rfl rfl rfl rfl (one_cons rfl (one_cons rfl (one_cons rfl (one_cons rfl (one_cons ((hS27168).f3).arr_one one_nil))))) (Nat.le_of_ble_eq_true rfl) rfl ?_)
          intro w27169 hS27170
          refine ⟨(ag_cons (ag_r rfl rfl (Exec.move (v := Value.int .i64 (IntKind.i64.wrap (1 + ((IntKind.i64.wrap m2).tmod 90)))) rfl rfl ⟨rfl, rfl⟩)) (ag_cons (ag_r rfl rfl (Exec.build rfl (parts_cons (c := [Value.int .i64 (IntKind.i64.wrap (1 + ((IntKind.i64.wrap m2).tmod 90)))]) (cells_of rfl rfl) (parts_cons (c := [v27165]) (cells_of rfl (cells_one ((hS27170).f1).arr_one)) parts_nil)) (v := Value.agg #[Value.int .i64 (IntKind.i64.wrap (1 + ((IntKind.i64.wrap m2).tmod 90))), Value.int .i64 (0), Value.slice none 0 0, Value.slice none 0 0, v27165]) (fun _ => by kernel_rfl) ⟨rfl, rfl⟩)) ag_nil)), ?_⟩
          refine DL_done ?_
          have hS27171 := (hS27170).f2
          refine WL_step rfl rfl (Exec.store_box (ds := [Value.int .i64 (IntKind.i64.wrap (1 + ((IntKind.i64.wrap m2).tmod 90))), Value.int .i64 (0), Value.slice none 0 0, Value.slice none 0 0, v27165]) (es := [Value.int .i64 (IntKind.i64.wrap (1 + ((IntKind.i64.wrap m2).tmod 90))), Value.int .i64 (0), Value.slice none 0 0, Value.slice none 0 0, v27165]) hS27171 A26 rfl rfl rfl rfl (one_cons rfl (one_cons rfl (one_cons rfl (one_cons rfl (one_cons ((hS27171).f2).arr_one one_nil))))) (Nat.le_of_ble_eq_true rfl) rfl ?_)
          intro w27172 hS27173
          refine WL_nil (at_normal ?_)
          have hS27174 := (hS27173).f2
          have hS27175 := (hS27174).f3
          have hS27176 := (hS27175).f2
          have hS27177 := (hS27176).f3
          exact ⟨s26479, b27162, b27144, v27059, v27165, (PHeap.le_refl _), hS27177, rfl, rfl, rfl, rfl⟩
        refine DL_e rfl rfl (Exec.store_box (ds := [Value.int .i64 (IntKind.i64.wrap (1 + ((IntKind.i64.wrap n1).tmod 90))), Value.int .i64 (0), Value.slice none 0 0, Value.slice none 0 0, v27059]) (es := [Value.int .i64 (IntKind.i64.wrap (1 + ((IntKind.i64.wrap n1).tmod 90))), Value.int .i64 (0), Value.slice none 0 0, Value.slice none 0 0, v27059]) hS27164 A26 rfl rfl rfl rfl (one_cons rfl (one_cons rfl (one_cons rfl (one_cons rfl (one_cons ((hS27164).f2).arr_one one_nil))))) (Nat.le_of_ble_eq_true rfl) rfl ?_)
        intro w27178 hS27179
        refine ⟨(ag_cons (ag_r rfl rfl (Exec.move (v := Value.int .i64 (IntKind.i64.wrap (1 + ((IntKind.i64.wrap m2).tmod 90)))) rfl rfl ⟨rfl, rfl⟩)) (ag_cons (ag_r rfl rfl (Exec.move (v := Value.int .i64 (IntKind.i64.wrap (1 + ((IntKind.i64.wrap m2).tmod 90)))) rfl rfl ⟨rfl, rfl⟩)) ag_nil)), ?_⟩
        refine DL_e rfl rfl (Exec.make (E := encBool) hS27179 S24 Z4 rfl rfl rfl rfl q26492 ?_)
        intro v27180 w27181 hS27182
        refine ⟨(ag_cons (ag_r rfl rfl (Exec.move (v := Value.int .i64 (IntKind.i64.wrap (1 + ((IntKind.i64.wrap m2).tmod 90)))) rfl rfl ⟨rfl, rfl⟩)) ag_nil), ?_⟩
        refine DL_q rfl rfl (Exec.build rfl (parts_cons (c := [Value.int .i64 (IntKind.i64.wrap (1 + ((IntKind.i64.wrap m2).tmod 90)))]) (cells_of rfl rfl) (parts_cons (c := [v27180]) (cells_of rfl (cells_one (hS27182).arr_one)) parts_nil)) (v := Value.agg #[Value.int .i64 (IntKind.i64.wrap (1 + ((IntKind.i64.wrap m2).tmod 90))), Value.int .i64 (0), Value.slice none 0 0, Value.slice none 0 0, v27180]) (fun _ => by kernel_rfl) ⟨rfl, ?_⟩)
        refine DL_done ?_
        have hS27183 := (hS27182).f2
        refine WL_step rfl rfl (Exec.store_box (ds := [Value.int .i64 (IntKind.i64.wrap (1 + ((IntKind.i64.wrap m2).tmod 90))), Value.int .i64 (0), Value.slice none 0 0, Value.slice none 0 0, v27180]) (es := [Value.int .i64 (IntKind.i64.wrap (1 + ((IntKind.i64.wrap m2).tmod 90))), Value.int .i64 (0), Value.slice none 0 0, Value.slice none 0 0, v27180]) hS27183 A26 rfl rfl rfl rfl (one_cons rfl (one_cons rfl (one_cons rfl (one_cons rfl (one_cons ((hS27183).f1).arr_one one_nil))))) (Nat.le_of_ble_eq_true rfl) rfl ?_)
        intro w27184 hS27185
        refine WL_nil (at_normal ?_)
        have hS27186 := (hS27185).f1
        have hS27187 := (hS27186).f3
        have hS27188 := (hS27187).f2
        have hS27189 := (hS27188).f3
        exact ⟨s26479, b27162, b27144, v27059, v27180, (PHeap.le_refl _), hS27189, rfl, rfl, rfl, rfl⟩
      refine DL_alt ?_ ?_
      · refine DL_e rfl rfl (Exec.make (E := encBool) hS27058 S24 Z4 rfl rfl rfl rfl q26492 ?_)
        intro v27190 w27191 hS27192
        refine ⟨(ag_cons (ag_r rfl rfl (Exec.move (v := Value.int .i64 (IntKind.i64.wrap (1 + ((IntKind.i64.wrap n1).tmod 90)))) rfl rfl ⟨rfl, rfl⟩)) (ag_cons (ag_r rfl rfl (Exec.move (v := Value.int .i64 (IntKind.i64.wrap (1 + ((IntKind.i64.wrap n1).tmod 90)))) rfl rfl ⟨rfl, rfl⟩)) (ag_cons (ag_r rfl rfl (Exec.move (v := Value.int .i64 (IntKind.i64.wrap (1 + ((IntKind.i64.wrap m2).tmod 90)))) rfl rfl ⟨rfl, rfl⟩)) ag_nil))), ?_⟩
        refine DL_q rfl rfl (Exec.build rfl (parts_cons (c := [Value.int .i64 (IntKind.i64.wrap (1 + ((IntKind.i64.wrap m2).tmod 90)))]) (cells_of rfl rfl) (parts_cons (c := [v27190]) (cells_of rfl (cells_one (hS27192).arr_one)) parts_nil)) (v := Value.agg #[Value.int .i64 (IntKind.i64.wrap (1 + ((IntKind.i64.wrap m2).tmod 90))), Value.int .i64 (0), Value.slice none 0 0, Value.slice none 0 0, v27190]) (fun _ => by kernel_rfl) ⟨rfl, ?_⟩)
        refine DL_alt ?_ ?_
        · refine DL_e rfl rfl (Exec.make (E := encBool) hS27192 S24 Z4 rfl rfl rfl rfl q26487 ?_)
          intro v27193 w27194 hS27195
          refine ⟨(ag_cons (ag_r rfl rfl (Exec.move (v := Value.int .i64 (IntKind.i64.wrap (1 + ((IntKind.i64.wrap n1).tmod 90)))) rfl rfl ⟨rfl, rfl⟩)) (ag_cons (ag_r rfl rfl (Exec.move (v := Value.int .i64 (IntKind.i64.wrap (1 + ((IntKind.i64.wrap m2).tmod 90)))) rfl rfl ⟨rfl, rfl⟩)) (ag_cons (ag_r rfl rfl (Exec.build rfl (parts_cons (c := [Value.int .i64 (IntKind.i64.wrap (1 + ((IntKind.i64.wrap m2).tmod 90)))]) (cells_of rfl rfl) (parts_cons (c := [v27190]) (cells_of rfl (cells_one ((hS27195).f1).arr_one)) parts_nil)) (v := Value.agg #[Value.int .i64 (IntKind.i64.wrap (1 + ((IntKind.i64.wrap m2).tmod 90))), Value.int .i64 (0), Value.slice none 0 0, Value.slice none 0 0, v27190]) (fun _ => by kernel_rfl) ⟨rfl, rfl⟩)) ag_nil))), ?_⟩
          refine DL_q rfl rfl (Exec.build rfl (parts_cons (c := [Value.int .i64 (IntKind.i64.wrap (1 + ((IntKind.i64.wrap n1).tmod 90)))]) (cells_of rfl rfl) (parts_cons (c := [v27193]) (cells_of rfl (cells_one (hS27195).arr_one)) parts_nil)) (v := Value.agg #[Value.int .i64 (IntKind.i64.wrap (1 + ((IntKind.i64.wrap n1).tmod 90))), Value.int .i64 (0), Value.slice none 0 0, Value.slice none 0 0, v27193]) (fun _ => by kernel_rfl) ⟨rfl, ?_⟩)
          refine DL_alt ?_ ?_
          · refine DL_e rfl rfl (Exec.alloc (cs := [Value.int .i64 (0), Value.int .i64 (0), Value.slice none 0 0, Value.slice none 0 0, Value.slice none 0 0]) hS27195 Z26 rfl rfl ?_)
            intro b27196 w27197 hS27198
            refine ⟨(ag_cons (ag_r rfl rfl (Exec.move (v := Value.int .i64 (IntKind.i64.wrap (1 + ((IntKind.i64.wrap n1).tmod 90)))) rfl rfl ⟨rfl, rfl⟩)) (ag_cons (ag_r rfl rfl (Exec.move (v := Value.int .i64 (IntKind.i64.wrap (1 + ((IntKind.i64.wrap m2).tmod 90)))) rfl rfl ⟨rfl, rfl⟩)) (ag_cons (ag_r rfl rfl (Exec.build rfl (parts_cons (c := [Value.int .i64 (IntKind.i64.wrap (1 + ((IntKind.i64.wrap m2).tmod 90)))]) (cells_of rfl rfl) (parts_cons (c := [v27190]) (cells_of rfl (cells_one ((hS27198).f2).arr_one)) parts_nil)) (v := Value.agg #[Value.int .i64 (IntKind.i64.wrap (1 + ((IntKind.i64.wrap m2).tmod 90))), Value.int .i64 (0), Value.slice none 0 0, Value.slice none 0 0, v27190]) (fun _ => by kernel_rfl) ⟨rfl, rfl⟩)) (ag_cons (ag_r rfl rfl (Exec.build rfl (parts_cons (c := [Value.int .i64 (IntKind.i64.wrap (1 + ((IntKind.i64.wrap n1).tmod 90)))]) (cells_of rfl rfl) (parts_cons (c := [v27193]) (cells_of rfl (cells_one ((hS27198).f1).arr_one)) parts_nil)) (v := Value.agg #[Value.int .i64 (IntKind.i64.wrap (1 + ((IntKind.i64.wrap n1).tmod 90))), Value.int .i64 (0), Value.slice none 0 0, Value.slice none 0 0, v27193]) (fun _ => by kernel_rfl) ⟨rfl, rfl⟩)) ag_nil)))), ?_⟩
            refine DL_e rfl rfl (Exec.alloc (cs := [Value.int .i64 (0), Value.int .i64 (0), Value.slice none 0 0, Value.slice none 0 0, Value.slice none 0 0]) hS27198 Z26 rfl rfl ?_)
            intro b27199 w27200 hS27201
            refine ⟨(ag_cons (ag_r rfl rfl (Exec.move (v := Value.int .i64 (IntKind.i64.wrap (1 + ((IntKind.i64.wrap n1).tmod 90)))) rfl rfl ⟨rfl, rfl⟩)) (ag_cons (ag_r rfl rfl (Exec.move (v := Value.int .i64 (IntKind.i64.wrap (1 + ((IntKind.i64.wrap m2).tmod 90)))) rfl rfl ⟨rfl, rfl⟩)) (ag_cons (ag_r rfl rfl (Exec.build rfl (parts_cons (c := [Value.int .i64 (IntKind.i64.wrap (1 + ((IntKind.i64.wrap m2).tmod 90)))]) (cells_of rfl rfl) (parts_cons (c := [v27190]) (cells_of rfl (cells_one ((hS27201).f3).arr_one)) parts_nil)) (v := Value.agg #[Value.int .i64 (IntKind.i64.wrap (1 + ((IntKind.i64.wrap m2).tmod 90))), Value.int .i64 (0), Value.slice none 0 0, Value.slice none 0 0, v27190]) (fun _ => by kernel_rfl) ⟨rfl, rfl⟩)) (ag_cons (ag_r rfl rfl (Exec.build rfl (parts_cons (c := [Value.int .i64 (IntKind.i64.wrap (1 + ((IntKind.i64.wrap n1).tmod 90)))]) (cells_of rfl rfl) (parts_cons (c := [v27193]) (cells_of rfl (cells_one ((hS27201).f2).arr_one)) parts_nil)) (v := Value.agg #[Value.int .i64 (IntKind.i64.wrap (1 + ((IntKind.i64.wrap n1).tmod 90))), Value.int .i64 (0), Value.slice none 0 0, Value.slice none 0 0, v27193]) (fun _ => by kernel_rfl) ⟨rfl, rfl⟩)) ag_nil)))), ?_⟩
            have hS27202 := (hS27201).f1
            refine DL_e rfl rfl (Exec.store_box (ds := [Value.int .i64 (IntKind.i64.wrap (1 + ((IntKind.i64.wrap n1).tmod 90))), Value.int .i64 (0), Value.slice none 0 0, Value.slice none 0 0, v27193]) (es := [Value.int .i64 (IntKind.i64.wrap (1 + ((IntKind.i64.wrap n1).tmod 90))), Value.int .i64 (0), Value.slice none 0 0, Value.slice none 0 0, v27193]) hS27202 A26 rfl rfl rfl rfl (one_cons rfl (one_cons rfl (one_cons rfl (one_cons rfl (one_cons ((hS27202).f2).arr_one one_nil))))) (Nat.le_of_ble_eq_true rfl) rfl ?_)
            intro w27203 hS27204
            refine ⟨(ag_cons (ag_r rfl rfl (Exec.move (v := Value.int .i64 (IntKind.i64.wrap (1 + ((IntKind.i64.wrap m2).tmod 90)))) rfl rfl ⟨rfl, rfl⟩)) (ag_cons (ag_r rfl rfl (Exec.build rfl (parts_cons (c := [Value.int .i64 (IntKind.i64.wrap (1 + ((IntKind.i64.wrap m2).tmod 90)))]) (cells_of rfl rfl) (parts_cons (c := [v27190]) (cells_of rfl (cells_one ((hS27204).f3).arr_one)) parts_nil)) (v := Value.agg #[Value.int .i64 (IntKind.i64.wrap (1 + ((IntKind.i64.wrap m2).tmod 90))), Value.int .i64 (0), Value.slice none 0 0, Value.slice none 0 0, v27190]) (fun _ => by kernel_rfl) ⟨rfl, rfl⟩)) ag_nil)), ?_⟩
            refine DL_done ?_
            have hS27205 := (hS27204).f1
            refine WL_step rfl rfl (Exec.store_box (ds := [Value.int .i64 (IntKind.i64.wrap (1 + ((IntKind.i64.wrap m2).tmod 90))), Value.int .i64 (0), Value.slice none 0 0, Value.slice none 0 0, v27190]) (es := [Value.int .i64 (IntKind.i64.wrap (1 + ((IntKind.i64.wrap m2).tmod 90))), Value.int .i64 (0), Value.slice none 0 0, Value.slice none 0 0, v27190]) hS27205 A26 rfl rfl rfl rfl (one_cons rfl (one_cons rfl (one_cons rfl (one_cons rfl (one_cons ((hS27205).f3).arr_one one_nil))))) (Nat.le_of_ble_eq_true rfl) rfl ?_)
            intro w27206 hS27207
            refine WL_nil (at_normal ?_)
            have hS27208 := (hS27207).f3
            have hS27209 := (hS27208).f3
            have hS27210 := (hS27209).f2
            have hS27211 := (hS27210).f3
            exact ⟨s26479, b27196, b27199, v27193, v27190, (PHeap.le_refl _), hS27211, rfl, rfl, rfl, rfl⟩
          refine DL_e rfl rfl (Exec.alloc (cs := [Value.int .i64 (0), Value.int .i64 (0), Value.slice none 0 0, Value.slice none 0 0, Value.slice none 0 0]) hS27195 Z26 rfl rfl ?_)
          intro b27212 w27213 hS27214
          refine ⟨(ag_cons (ag_r rfl rfl (Exec.move (v := Value.int .i64 (IntKind.i64.wrap (1 + ((IntKind.i64.wrap n1).tmod 90)))) rfl rfl ⟨rfl, rfl⟩)) (ag_cons (ag_r rfl rfl (Exec.move (v := Value.int .i64 (IntKind.i64.wrap (1 + ((IntKind.i64.wrap m2).tmod 90)))) rfl rfl ⟨rfl, rfl⟩)) (ag_cons (ag_r rfl rfl (Exec.build rfl (parts_cons (c := [Value.int .i64 (IntKind.i64.wrap (1 + ((IntKind.i64.wrap m2).tmod 90)))]) (cells_of rfl rfl) (parts_cons (c := [v27190]) (cells_of rfl (cells_one ((hS27214).f2).arr_one)) parts_nil)) (v := Value.agg #[Value.int .i64 (IntKind.i64.wrap (1 + ((IntKind.i64.wrap m2).tmod 90))), Value.int .i64 (0), Value.slice none 0 0, Value.slice none 0 0, v27190]) (fun _ => by kernel_rfl) ⟨rfl, rfl⟩)) (ag_cons (ag_r rfl rfl (Exec.build rfl (parts_cons (c := [Value.int .i64 (IntKind.i64.wrap (1 + ((IntKind.i64.wrap n1).tmod 90)))]) (cells_of rfl rfl) (parts_cons (c := [v27193]) (cells_of rfl (cells_one ((hS27214).f1).arr_one)) parts_nil)) (v := Value.agg #[Value.int .i64 (IntKind.i64.wrap (1 + ((IntKind.i64.wrap n1).tmod 90))), Value.int .i64 (0), Value.slice none 0 0, Value.slice none 0 0, v27193]) (fun _ => by kernel_rfl) ⟨rfl, rfl⟩)) ag_nil)))), ?_⟩
          refine DL_e rfl rfl (Exec.alloc (cs := [Value.int .i64 (0), Value.int .i64 (0), Value.slice none 0 0, Value.slice none 0 0, Value.slice none 0 0]) hS27214 Z26 rfl rfl ?_)
          intro b27215 w27216 hS27217
          refine ⟨(ag_cons (ag_r rfl rfl (Exec.move (v := Value.int .i64 (IntKind.i64.wrap (1 + ((IntKind.i64.wrap n1).tmod 90)))) rfl rfl ⟨rfl, rfl⟩)) (ag_cons (ag_r rfl rfl (Exec.move (v := Value.int .i64 (IntKind.i64.wrap (1 + ((IntKind.i64.wrap m2).tmod 90)))) rfl rfl ⟨rfl, rfl⟩)) (ag_cons (ag_r rfl rfl (Exec.build rfl (parts_cons (c := [Value.int .i64 (IntKind.i64.wrap (1 + ((IntKind.i64.wrap m2).tmod 90)))]) (cells_of rfl rfl) (parts_cons (c := [v27190]) (cells_of rfl (cells_one ((hS27217).f3).arr_one)) parts_nil)) (v := Value.agg #[Value.int .i64 (IntKind.i64.wrap (1 + ((IntKind.i64.wrap m2).tmod 90))), Value.int .i64 (0), Value.slice none 0 0, Value.slice none 0 0, v27190]) (fun _ => by kernel_rfl) ⟨rfl, rfl⟩)) (ag_cons (ag_r rfl rfl (Exec.build rfl (parts_cons (c := [Value.int .i64 (IntKind.i64.wrap (1 + ((IntKind.i64.wrap n1).tmod 90)))]) (cells_of rfl rfl) (parts_cons (c := [v27193]) (cells_of rfl (cells_one ((hS27217).f2).arr_one)) parts_nil)) (v := Value.agg #[Value.int .i64 (IntKind.i64.wrap (1 + ((IntKind.i64.wrap n1).tmod 90))), Value.int .i64 (0), Value.slice none 0 0, Value.slice none 0 0, v27193]) (fun _ => by kernel_rfl) ⟨rfl, rfl⟩)) ag_nil)))), ?_⟩
          refine DL_e rfl rfl (Exec.store_box (ds := [Value.int .i64 (IntKind.i64.wrap (1 + ((IntKind.i64.wrap n1).tmod 90))), Value.int .i64 (0), Value.slice none 0 0, Value.slice none 0 0, v27193]) (es := [Value.int .i64 (IntKind.i64.wrap (1 + ((IntKind.i64.wrap n1).tmod 90))), Value.int .i64 (0), Value.slice none 0 0, Value.slice none 0 0, v27193]) hS27217 A26 rfl rfl rfl rfl (one_cons rfl (one_cons rfl (one_cons rfl (one_cons rfl (one_cons ((hS27217).f2).arr_one one_nil))))) (Nat.le_of_ble_eq_true rfl) rfl ?_)
          intro w27218 hS27219
          refine ⟨(ag_cons (ag_r rfl rfl (Exec.move (v := Value.int .i64 (IntKind.i64.wrap (1 + ((IntKind.i64.wrap m2).tmod 90)))) rfl rfl ⟨rfl, rfl⟩)) (ag_cons (ag_r rfl rfl (Exec.build rfl (parts_cons (c := [Value.int .i64 (IntKind.i64.wrap (1 + ((IntKind.i64.wrap m2).tmod 90)))]) (cells_of rfl rfl) (parts_cons (c := [v27190]) (cells_of rfl (cells_one ((hS27219).f3).arr_one)) parts_nil)) (v := Value.agg #[Value.int .i64 (IntKind.i64.wrap (1 + ((IntKind.i64.wrap m2).tmod 90))), Value.int .i64 (0), Value.slice none 0 0, Value.slice none 0 0, v27190]) (fun _ => by kernel_rfl) ⟨rfl, rfl⟩)) ag_nil)), ?_⟩
          refine DL_done ?_
          have hS27220 := (hS27219).f1
          refine WL_step rfl rfl (Exec.store_box (ds := [Value.int .i64 (IntKind.i64.wrap (1 + ((IntKind.i64.wrap m2).tmod 90))), Value.int .i64 (0), Value.slice none 0 0, Value.slice none 0 0, v27190]) (es := [Value.int .i64 (IntKind.i64.wrap (1 + ((IntKind.i64.wrap m2).tmod 90))), Value.int .i64 (0), Value.slice none 0 0, Value.slice none 0 0, v27190]) hS27220 A26 rfl rfl rfl rfl (one_cons rfl (one_cons rfl (one_cons rfl (one_cons rfl (one_cons ((hS27220).f3).arr_one one_nil))))) (Nat.le_of_ble_eq_true rfl) rfl ?_)
          intro w27221 hS27222
          refine WL_nil (at_normal ?_)
          have hS27223 := (hS27222).f3
          have hS27224 := (hS27223).f3
          have hS27225 := (hS27224).f2
          have hS27226 := (hS27225).f3
          exact ⟨s26479, b27215, b27212, v27193, v27190, (PHeap.le_refl _), hS27226, rfl, rfl, rfl, rfl⟩
        refine DL_alt ?_ ?_
        · refine DL_e rfl rfl (Exec.alloc (cs := [Value.int .i64 (0), Value.int .i64 (0), Value.slice none 0 0, Value.slice none 0 0, Value.slice none 0 0]) hS27192 Z26 rfl rfl ?_)
          intro b27227 w27228 hS27229
          refine ⟨(ag_cons (ag_r rfl rfl (Exec.move (v := Value.int .i64 (IntKind.i64.wrap (1 + ((IntKind.i64.wrap n1).tmod 90)))) rfl rfl ⟨rfl, rfl⟩)) (ag_cons (ag_r rfl rfl (Exec.move (v := Value.int .i64 (IntKind.i64.wrap (1 + ((IntKind.i64.wrap n1).tmod 90)))) rfl rfl ⟨rfl, rfl⟩)) (ag_cons (ag_r rfl rfl (Exec.move (v := Value.int .i64 (IntKind.i64.wrap (1 + ((IntKind.i64.wrap m2).tmod 90)))) rfl rfl ⟨rfl, rfl⟩)) (ag_cons (ag_r rfl rfl (Exec.build rfl (parts_cons (c := [Value.int .i64 (IntKind.i64.wrap (1 + ((IntKind.i64.wrap m2).tmod 90)))]) (cells_of rfl rfl) (parts_cons (c := [v27190]) (cells_of rfl (cells_one ((hS27229).f1).arr_one)) parts_nil)) (v := Value.agg #[Value.int .i64 (IntKind.i64.wrap (1 + ((IntKind.i64.wrap m2).tmod 90))), Value.int .i64 (0), Value.slice none 0 0, Value.slice none 0 0, v27190]) (fun _ => by kernel_rfl) ⟨rfl, rfl⟩)) ag_nil)))), ?_⟩
          refine DL_alt ?_ ?_
          · refine DL_e rfl rfl (Exec.make (E := encBool) hS27229 S24 Z4 rfl rfl rfl rfl q26487 ?_)
            intro v27230 w27231 hS27232
            refine ⟨(ag_cons (ag_r rfl rfl (Exec.move (v := Value.int .i64 (IntKind.i64.wrap (1 + ((IntKind.i64.wrap n1).tmod 90)))) rfl rfl ⟨rfl, rfl⟩)) (ag_cons (ag_r rfl rfl (Exec.move (v := Value.int .i64 (IntKind.i64.wrap (1 + ((IntKind.i64.wrap m2).tmod 90)))) rfl rfl ⟨rfl, rfl⟩)) (ag_cons (ag_r rfl rfl (Exec.build rfl (parts_cons (c := [Value.int .i64 (IntKind.i64.wrap (1 + ((IntKind.i64.wrap m2).tmod 90)))]) (cells_of rfl rfl) (parts_cons (c := [v27190]) (cells_of rfl (cells_one ((hS27232).f2).arr_one)) parts_nil)) (v := Value.agg #[Value.int .i64 (IntKind.i64.wrap (1 + ((IntKind.i64.wrap m2).tmod 90))), Value.int .i64 (0), Value.slice none 0 0, Value.slice none 0 0, v27190]) (fun _ => by kernel_rfl) ⟨rfl, rfl⟩)) ag_nil))), ?_⟩
            refine DL_q rfl rfl (Exec.build rfl (parts_cons (c := [Value.int .i64 (IntKind.i64.wrap (1 + ((IntKind.i64.wrap n1).tmod 90)))]) (cells_of rfl rfl) (parts_cons (c := [v27230]) (cells_of rfl (cells_one (hS27232).arr_one)) parts_nil)) (v := Value.agg #[Value.int .i64 (IntKind.i64.wrap (1 + ((IntKind.i64.wrap n1).tmod 90))), Value.int .i64 (0), Value.slice none 0 0, Value.slice none 0 0, v27230]) (fun _ => by kernel_rfl) ⟨rfl, ?_⟩)
            refine DL_e rfl rfl (Exec.alloc (cs := [Value.int .i64 (0), Value.int .i64 (0), Value.slice none 0 0, Value.slice none 0 0, Value.slice none 0 0]) hS27232 Z26 rfl rfl ?_)
            intro b27233 w27234 hS27235
            refine ⟨(ag_cons (ag_r rfl rfl (Exec.move (v := Value.int .i64 (IntKind.i64.wrap (1 + ((IntKind.i64.wrap n1).tmod 90)))) rfl rfl ⟨rfl, rfl⟩)) (ag_cons (ag_r rfl rfl (Exec.move (v := Value.int .i64 (IntKind.i64.wrap (1 + ((IntKind.i64.wrap m2).tmod 90)))) rfl rfl ⟨rfl, rfl⟩)) (ag_cons (ag_r rfl rfl (Exec.build rfl (parts_cons (c := [Value.int .i64 (IntKind.i64.wrap (1 + ((IntKind.i64.wrap m2).tmod 90)))]) (cells_of rfl rfl) (parts_cons (c := [v27190]) (cells_of rfl (cells_one ((hS27235).f3).arr_one)) parts_nil)) (v := Value.agg #[Value.int .i64 (IntKind.i64.wrap (1 + ((IntKind.i64.wrap m2).tmod 90))), Value.int .i64 (0), Value.slice none 0 0, Value.slice none 0 0, v27190]) (fun _ => by kernel_rfl) ⟨rfl, rfl⟩)) (ag_cons (ag_r rfl rfl (Exec.build rfl (parts_cons (c := [Value.int .i64 (IntKind.i64.wrap (1 + ((IntKind.i64.wrap n1).tmod 90)))]) (cells_of rfl rfl) (parts_cons (c := [v27230]) (cells_of rfl (cells_one ((hS27235).f1).arr_one)) parts_nil)) (v := Value.agg #[Value.int .i64 (IntKind.i64.wrap (1 + ((IntKind.i64.wrap n1).tmod 90))), Value.int .i64 (0), Value.slice none 0 0, Value.slice none 0 0, v27230]) (fun _ => by kernel_rfl) ⟨rfl, rfl⟩)) ag_nil)))), ?_⟩
            have hS27236 := (hS27235).f2
            refine DL_e rfl rfl (Exec.store_box (ds := [Value.int .i64 (IntKind.i64.wrap (1 + ((IntKind.i64.wrap n1).tmod 90))), Value.int .i64 (0), Value.slice none 0 0, Value.slice none 0 0, v27230]) (es := [Value.int .i64 (IntKind.i64.wrap (1 + ((IntKind.i64.wrap n1).tmod 90))), Value.int .i64 (0), Value.slice none 0 0, Value.slice none 0 0, v27230]) hS27236 A26 rfl rfl rfl rfl (one_cons rfl (one_cons rfl (one_cons rfl (one_cons rfl (one_cons ((hS27236).f2).arr_one one_nil))))) (Nat.le_of_ble_eq_true rfl) rfl ?_)
            intro w27237 hS27238
            refine ⟨(ag_cons (ag_r rfl rfl (Exec.move (v := Value.int .i64 (IntKind.i64.wrap (1 + ((IntKind.i64.wrap m2).tmod 90)))) rfl rfl ⟨rfl, rfl⟩)) (ag_cons (ag_r rfl rfl (Exec.build rfl (parts_cons (c := [Value.int .i64 (IntKind.i64.wrap (1 + ((IntKind.i64.wrap m2).tmod 90)))]) (cells_of rfl rfl) (parts_cons (c := [v27190]) (cells_of rfl (cells_one ((hS27238).f3).arr_one)) parts_nil)) (v := Value.agg #[Value.int .i64 (IntKind.i64.wrap (1 + ((IntKind.i64.wrap m2).tmod 90))), Value.int .i64 (0), Value.slice none 0 0, Value.slice none 0 0, v27190]) (fun _ => by kernel_rfl) ⟨rfl, rfl⟩)) ag_nil)), ?_⟩
            refine DL_done ?_
            have hS27239 := (hS27238).f1
            refine WL_step rfl rfl (Exec.store_box (ds := [Value.int .i64 (IntKind.i64.wrap (1 + ((IntKind.i64.wrap m2).tmod 90))), Value.int .i64 (0), Value.slice none 0 0, Value.slice none 0 0, v27190]) (es := [Value.int .i64 (IntKind.i64.wrap (1 + ((IntKind.i64.wrap m2).tmod 90))), Value.int .i64 (0), Value.slice none 0 0, Value.slice none 0 0, v27190]) hS27239 A26 rfl rfl rfl rfl (one_cons rfl (one_cons rfl (one_cons rfl (one_cons rfl (one_cons ((hS27239).f3).arr_one one_nil))))) (Nat.le_of_ble_eq_true rfl) rfl ?_)
            intro w27240 hS27241
            refine WL_nil (at_normal ?_)
            have hS27242 := (hS27241).f3
            have hS27243 := (hS27242).f3
            have hS27244 := (hS27243).f2
            have hS27245 := (hS27244).f3
            exact ⟨s26479, b27227, b27233, v27230, v27190, (PHeap.le_refl _), hS27245, rfl, rfl, rfl, rfl⟩
          refine DL_e rfl rfl (Exec.alloc (cs := [Value.int .i64 (0), Value.int .i64 (0), Value.slice none 0 0, Value.slice none 0 0, Value.slice none 0 0]) hS27229 Z26 rfl rfl ?_)
          intro b27246 w27247 hS27248
          refine ⟨(ag_cons (ag_r rfl rfl (Exec.move (v := Value.int .i64 (IntKind.i64.wrap (1 + ((IntKind.i64.wrap n1).tmod 90)))) rfl rfl ⟨rfl, rfl⟩)) (ag_cons (ag_r rfl rfl (Exec.move (v := Value.int .i64 (IntKind.i64.wrap (1 + ((IntKind.i64.wrap n1).tmod 90)))) rfl rfl ⟨rfl, rfl⟩)) (ag_cons (ag_r rfl rfl (Exec.move (v := Value.int .i64 (IntKind.i64.wrap (1 + ((IntKind.i64.wrap m2).tmod 90)))) rfl rfl ⟨rfl, rfl⟩)) (ag_cons (ag_r rfl rfl (Exec.build rfl (parts_cons (c := [Value.int .i64 (IntKind.i64.wrap (1 + ((IntKind.i64.wrap m2).tmod 90)))]) (cells_of rfl rfl) (parts_cons (c := [v27190]) (cells_of rfl (cells_one ((hS27248).f2).arr_one)) parts_nil)) (v := Value.agg #[Value.int .i64 (IntKind.i64.wrap (1 + ((IntKind.i64.wrap m2).tmod 90))), Value.int .i64 (0), Value.slice none 0 0, Value.slice none 0 0, v27190]) (fun _ => by kernel_rfl) ⟨rfl, rfl⟩)) ag_nil)))), ?_⟩
          refine DL_e rfl rfl (Exec.make (E := encBool) hS27248 S24 Z4 rfl rfl rfl rfl q26487 ?_)
          intro v27249 w27250 hS27251
          refine ⟨(ag_cons (ag_r rfl rfl (Exec.move (v := Value.int .i64 (IntKind.i64.wrap (1 + ((IntKind.i64.wrap n1).tmod 90)))) rfl rfl ⟨rfl, rfl⟩)) (ag_cons (ag_r rfl rfl (Exec.move (v := Value.int .i64 (IntKind.i64.wrap (1 + ((IntKind.i64.wrap m2).tmod 90)))) rfl rfl ⟨rfl, rfl⟩)) (ag_cons (ag_r rfl rfl (Exec.build rfl (parts_cons (c := [Value.int .i64 (IntKind.i64.wrap (1 + ((IntKind.i64.wrap m2).tmod 90)))]) (cells_of rfl rfl) (parts_cons (c := [v27190]) (cells_of rfl (cells_one ((hS27251).f3).arr_one)) parts_nil)) (v := Value.agg #[Value.int .i64 (IntKind.i64.wrap (1 + ((IntKind.i64.wrap m2).tmod 90))), Value.int .i64 (0), Value.slice none 0 0, Value.slice none 0 0, v27190]) (fun _ => by kernel_rfl) ⟨rfl, rfl⟩)) ag_nil))), ?_⟩
          refine DL_q rfl rfl (Exec.build rfl (parts_cons (c := [Value.int .i64 (IntKind.i64.wrap (1 + ((IntKind.i64.wrap n1).tmod 90)))]) (cells_of rfl rfl) (parts_cons (c := [v27249]) (cells_of rfl (cells_one (hS27251).arr_one)) parts_nil)) (v := Value.agg #[Value.int .i64 (IntKind.i64.wrap (1 + ((IntKind.i64.wrap n1).tmod 90))), Value.int .i64 (0), Value.slice none 0 0, Value.slice none 0 0, v27249]) (fun _ => by kernel_rfl) ⟨rfl, ?_⟩)
          have hS27252 := (hS27251).f2
          refine DL_e rfl rfl (Exec.store_box (ds := [Value.int .i64 (IntKind.i64.wrap (1 + ((IntKind.i64.wrap n1).tmod 90))), Value.int .i64 (0), Value.slice none 0 0, Value.slice none 0 0, v27249]) (es := [Value.int .i64 (IntKind.i64.wrap (1 + ((IntKind.i64.wrap n1).tmod 90))), Value.int .i64 (0), Value.slice none 0 0, Value.slice none 0 0, v27249]) hS27252 A26 rfl rfl rfl rfl (one_cons rfl (one_cons rfl (one_cons rfl (one_cons rfl (one_cons ((hS27252).f1).arr_one one_nil))))) (Nat.le_of_ble_eq_true rfl) rfl ?_)
          intro w27253 hS27254
          refine ⟨(ag_cons (ag_r rfl rfl (Exec.move (v := Value.int .i64 (IntKind.i64.wrap (1 + ((IntKind.i64.wrap m2).tmod 90)))) rfl rfl ⟨rfl, rfl⟩)) (ag_cons (ag_r rfl rfl (Exec.build rfl (parts_cons (c := [Value.int .i64 (IntKind.i64.wrap (1 + ((IntKind.i64.wrap m2).tmod 90)))]) (cells_of rfl rfl) (parts_cons (c := [v27190]) (cells_of rfl (cells_one ((hS27254).f3).arr_one)) parts_nil)) (v := Value.agg #[Value.int .i64 (IntKind.i64.wrap (1 + ((IntKind.i64.wrap m2).tmod 90))), Value.int .i64 (0), Value.slice none 0 0, Value.slice none 0 0, v27190]) (fun _ => by kernel_rfl) ⟨rfl, rfl⟩)) ag_nil)), ?_⟩
          refine DL_done ?_
          have hS27255 := (hS27254).f2
          refine WL_step rfl rfl (Exec.store_box (ds := [Value.int .i64 (IntKind.i64.wrap (1 + ((IntKind.i64.wrap m2).tmod 90))), Value.int .i64 (0), Value.slice none 0 0, Value.slice none 0 0, v27190]) (es := [Value.int .i64 (IntKind.i64.wrap (1 + ((IntKind.i64.wrap m2).tmod 90))), Value.int .i64 (0), Value.slice none 0 0, Value.slice none 0 0, v27190]) hS27255 A26 rfl rfl rfl rfl (one_cons rfl (one_cons rfl (one_cons rfl (one_cons rfl (one_cons ((hS27255).f3).arr_one one_nil))))) (Nat.le_of_ble_eq_true rfl) rfl ?_)
          intro w27256 hS27257
          refine WL_nil (at_normal ?_)
          have hS27258 := (hS27257).f3
          have hS27259 := (hS27258).f3
          have hS27260 := (hS27259).f2
          have hS27261 := (hS27260).f3
          exact ⟨s26479, b27227, b27246, v27249, v27190, (PHeap.le_refl _), hS27261, rfl, rfl, rfl, rfl⟩
        refine DL_e rfl rfl (Exec.alloc (cs := [Value.int .i64 (0), Value.int .i64 (0), Value.slice none 0 0, Value.slice none 0 0, Value.slice none 0 0]) hS27192 Z26 rfl rfl ?_)
        intro b27262 w27263 hS27264
        refine ⟨(ag_cons (ag_r rfl rfl (Exec.move (v := Value.int .i64 (IntKind.i64.wrap (1 + ((IntKind.i64.wrap n1).tmod 90)))) rfl rfl ⟨rfl, rfl⟩)) (ag_cons (ag_r rfl rfl (Exec.move (v := Value.int .i64 (IntKind.i64.wrap (1 + ((IntKind.i64.wrap n1).tmod 90)))) rfl rfl ⟨rfl, rfl⟩)) (ag_cons (ag_r rfl rfl (Exec.move (v := Value.int .i64 (IntKind.i64.wrap (1 + ((IntKind.i64.wrap m2).tmod 90)))) rfl rfl ⟨rfl, rfl⟩)) (ag_cons (ag_r rfl rfl (Exec.build rfl (parts_cons (c := [Value.int .i64 (IntKind.i64.wrap (1 + ((IntKind.i64.wrap m2).tmod 90)))]) (cells_of rfl rfl) (parts_cons (c := [v27190]) (cells_of rfl (cells_one ((hS27264).f1).arr_one)) parts_nil)) (v := Value.agg #[Value.int .i64 (IntKind.i64.wrap (1 + ((IntKind.i64.wrap m2).tmod 90))), Value.int .i64 (0), Value.slice none 0 0, Value.slice none 0 0, v27190]) (fun _ => by kernel_rfl) ⟨rfl, rfl⟩)) ag_nil)))), ?_⟩
        refine DL_alt ?_ ?_
        · refine DL_e rfl rfl (Exec.make (E := encBool) hS27264 S24 Z4 rfl rfl rfl rfl q26487 ?_)
          intro v27265 w27266 hS27267
          refine ⟨(ag_cons (ag_r rfl rfl (Exec.move (v := Value.int .i64 (IntKind.i64.wrap (1 + ((IntKind.i64.wrap n1).tmod 90)))) rfl rfl ⟨rfl, rfl⟩)) (ag_cons (ag_r rfl rfl (Exec.move (v := Value.int .i64 (IntKind.i64.wrap (1 + ((IntKind.i64.wrap m2).tmod 90)))) rfl rfl ⟨rfl, rfl⟩)) (ag_cons (ag_r rfl rfl (Exec.build rfl (parts_cons (c := [Value.int .i64 (IntKind.i64.wrap (1 + ((IntKind.i64.wrap m2).tmod 90)))]) (cells_of rfl rfl) (parts_cons (c := [v27190]) (cells_of rfl (cells_one ((hS27267).f2).arr_one)) parts_nil)) (v := Value.agg #[Value.int .i64 (IntKind.i64.wrap (1 + ((IntKind.i64.wrap m2).tmod 90))), Value.int .i64 (0), Value.slice none 0 0, Value.slice none 0 0, v27190]) (fun _ => by kernel_rfl) ⟨rfl, rfl⟩)) ag_nil))), ?_⟩
          refine DL_q rfl rfl (Exec.build rfl (parts_cons (c := [Value.int .i64 (IntKind.i64.wrap (1 + ((IntKind.i64.wrap n1).tmod 90)))]) (cells_of rfl rfl) (parts_cons (c := [v27265]) (cells_of rfl (cells_one (hS27267).arr_one)) parts_nil)) (v := Value.agg #[Value.int .i64 (IntKind.i64.wrap (1 + ((IntKind.i64.wrap n1).tmod 90))), Value.int .i64 (0), Value.slice none 0 0, Value.slice none 0 0, v27265]) (fun _ => by kernel_rfl) ⟨rfl, ?_⟩)
          refine DL_e rfl rfl (Exec.alloc (cs := [Value.int .i64 (0), Value.int .i64 (0), Value.slice none 0 0, Value.slice none 0 0, Value.slice none 0 0]) hS27267 Z26 rfl rfl ?_)
          intro b27268 w27269 hS27270
          refine ⟨(ag_cons (ag_r rfl rfl (Exec.move (v := Value.int .i64 (IntKind.i64.wrap (1 + ((IntKind.i64.wrap n1).tmod 90)))) rfl rfl ⟨rfl, rfl⟩)) (ag_cons (ag_r rfl rfl (Exec.move (v := Value.int .i64 (IntKind.i64.wrap (1 + ((IntKind.i64.wrap m2).tmod 90)))) rfl rfl ⟨rfl, rfl⟩)) (ag_cons (ag_r rfl rfl (Exec.build rfl (parts_cons (c := [Value.int .i64 (IntKind.i64.wrap (1 + ((IntKind.i64.wrap m2).tmod 90)))]) (cells_of rfl rfl) (parts_cons (c := [v27190]) (cells_of rfl (cells_one ((hS27270).f3).arr_one)) parts_nil)) (v := Value.agg #[Value.int .i64 (IntKind.i64.wrap (1 + ((IntKind.i64.wrap m2).tmod 90))), Value.int .i64 (0), Value.slice none 0 0, Value.slice none 0 0, v27190]) (fun _ => by kernel_rfl) ⟨rfl, rfl⟩)) (ag_cons (ag_r rfl rfl (Exec.build rfl (parts_cons (c := [Value.int .i64 (IntKind.i64.wrap (1 + ((IntKind.i64.wrap n1).tmod 90)))]) (cells_of rfl rfl) (parts_cons (c := [v27265]) (cells_of rfl (cells_one ((hS27270).f1).arr_one)) parts_nil)) (v := Value.agg #[Value.int .i64 (IntKind.i64.wrap (1 + ((IntKind.i64.wrap n1).tmod 90))), Value.int .i64 (0), Value.slice none 0 0, Value.slice none 0 0, v27265]) (fun _ => by kernel_rfl) ⟨rfl, rfl⟩)) ag_nil)))), ?_⟩
          refine DL_e rfl rfl (Exec.store_box (ds := [Value.int .i64 (IntKind.i64.wrap (1 + ((IntKind.i64.wrap n1).tmod 90))), Value.int .i64 (0), Value.slice none 0 0, Value.slice none 0 0, v27265]) (es := [Value.int .i64 (IntKind.i64.wrap (1 + ((IntKind.i64.wrap n1).tmod 90))), Value.int .i64 (0), Value.slice none 0 0, Value.slice none 0 0, v27265]) hS27270 A26 rfl rfl rfl rfl (one_cons rfl (one_cons rfl (one_cons rfl (one_cons rfl (one_cons ((hS27270).f1).arr_one one_nil))))) (Nat.le_of_ble_eq_true rfl) rfl ?_)
          intro w27271 hS27272
          refine ⟨(ag_cons (ag_r rfl rfl (Exec.move (v := Value.int .i64 (IntKind.i64.wrap (1 + ((IntKind.i64.wrap m2).tmod 90)))) rfl rfl ⟨rfl, rfl⟩)) (ag_cons (ag_r rfl rfl (Exec.build rfl (parts_cons (c := [Value.int .i64 (IntKind.i64.wrap (1 + ((IntKind.i64.wrap m2).tmod 90)))]) (cells_of rfl rfl) (parts_cons (c := [v27190]) (cells_of rfl (cells_one ((hS27272).f3).arr_one)) parts_nil)) (v := Value.agg #[Value.int .i64 (IntKind.i64.wrap (1 + ((IntKind.i64.wrap m2).tmod 90))), Value.int .i64 (0), Value.slice none 0 0, Value.slice none 0 0, v27190]) (fun _ => by kernel_rfl) ⟨rfl, rfl⟩)) ag_nil)), ?_⟩
          refine DL_done ?_
          have hS27273 := (hS27272).f2
          refine WL_step rfl rfl (Exec.store_box (ds := [Value.int .i64 (IntKind.i64.wrap (1 + ((IntKind.i64.wrap m2).tmod 90))), Value.int .i64 (0), Value.slice none 0 0, Value.slice none 0 0, v27190]) (es := [Value.int .i64 (IntKind.i64.wrap (1 + ((IntKind.i64.wrap m2).tmod 90))), Value.int .i64 (0), Value.slice none 0 0, Value.slice none 0 0, v27190]) hS27273 A26 rfl rfl rfl rfl (one_cons rfl (one_cons rfl (one_cons rfl (one_cons rfl (one_cons ((hS27273).f3).arr_one one_nil))))) (Nat.le_of_ble_eq_true rfl) rfl ?_)
          intro w27274 hS27275
          refine WL_nil (at_normal ?_)
          have hS27276 := (hS27275).f3
          have hS27277 := (hS27276).f3
          have hS27278 := (hS27277).f2
          have hS27279 := (hS27278).f3
          exact ⟨s26479, b27268, b27262, v27265, v27190, (PHeap.le_refl _), hS27279, rfl, rfl, rfl, rfl⟩
        refine DL_e rfl rfl (Exec.alloc (cs := [Value.int .i64 (0), Value.int .i64 (0), Value.slice none 0 0, Value.slice none 0 0, Value.slice none 0 0]) hS27264 Z26 rfl rfl ?_)
        intro b27280 w27281 hS27282
        refine ⟨(ag_cons (ag_r rfl rfl (Exec.move (v := Value.int .i64 (IntKind.i64.wrap (1 + ((IntKind.i64.wrap n1).tmod 90)))) rfl rfl ⟨rfl, rfl⟩)) (ag_cons (ag_r rfl rfl (Exec.move (v := Value.int .i64 (IntKind.i64.wrap (1 + ((IntKind.i64.wrap n1).tmod 90)))) rfl rfl ⟨rfl, rfl⟩)) (ag_cons (ag_r rfl rfl (Exec.move (v := Value.int .i64 (IntKind.i64.wrap (1 + ((IntKind.i64.wrap m2).tmod 90)))) rfl rfl ⟨rfl, rfl⟩)) (ag_cons (ag_r rfl rfl (Exec.build rfl (parts_cons (c := [Value.int .i64 (IntKind.i64.wrap (1 + ((IntKind.i64.wrap m2).tmod 90)))]) (cells_of rfl rfl) (parts_cons (c := [v27190]) (cells_of rfl (cells_one ((hS27282).f2).arr_one)) parts_nil)) (v := Value.agg #[Value.int .i64 (IntKind.i64.wrap (1 + ((IntKind.i64.wrap m2).tmod 90))), Value.int .i64 (0), Value.slice none 0 0, Value.slice none 0 0, v27190]) (fun _ => by kernel_rfl) ⟨rfl, rfl⟩)) ag_nil)))), ?_⟩
        refine DL_e rfl rfl (Exec.make (E := encBool) hS27282 S24 Z4 rfl rfl rfl rfl q26487 ?_)
        intro v27283 w27284 hS27285
        refine ⟨(ag_cons (ag_r rfl rfl (Exec.move (v := Value.int .i64 (IntKind.i64.wrap (1 + ((IntKind.i64.wrap n1).tmod 90)))) rfl rfl ⟨rfl, rfl⟩)) (ag_cons (ag_r rfl rfl (Exec.move (v := Value.int .i64 (IntKind.i64.wrap (1 + ((IntKind.i64.wrap m2).tmod 90)))) rfl rfl ⟨rfl, rfl⟩)) (ag_cons (ag_r rfl rfl (Exec.build rfl (parts_cons (c := [Value.int .i64 (IntKind.i64.wrap (1 + ((IntKind.i64.wrap m2).tmod 90)))]) (cells_of rfl rfl) (parts_cons (c := [v27190]) (cells_of rfl (cells_one ((hS27285).f3).arr_one)) parts_nil)) (v := Value.agg #[Value.int .i64 (IntKind.i64.wrap (1 + ((IntKind.i64.wrap m2).tmod 90))), Value.int .i64 (0), Value.slice none 0 0, Value.slice none 0 0, v27190]) (fun _ => by kernel_rfl) ⟨rfl, rfl⟩)) ag_nil))), ?_⟩
        refine DL_q rfl rfl (Exec.build rfl (parts_cons (c := [Value.int .i64 (IntKind.i64.wrap (1 + ((IntKind.i64.wrap n1).tmod 90)))]) (cells_of rfl rfl) (parts_cons (c := [v27283]) (cells_of rfl (cells_one (hS27285).arr_one)) parts_nil)) (v := Value.agg #[Value.int .i64 (IntKind.i64.wrap (1 + ((IntKind.i64.wrap n1).tmod 90))), Value.int .i64 (0), Value.slice none 0 0, Value.slice none 0 0, v27283]) (fun _ => by kernel_rfl) ⟨rfl, ?_⟩)
        have hS27286 := (hS27285).f1
        refine DL_e rfl rfl (Exec.store_box (ds := [Value.int .i64 (IntKind.i64.wrap (1 + ((IntKind.i64.wrap n1).tmod 90))), Value.int .i64 (0), Value.slice none 0 0, Value.slice none 0 0, v27283]) (es := [Value.int .i64 (IntKind.i64.wrap (1 + ((IntKind.i64.wrap n1).tmod 90))), Value.int .i64 (0), Value.slice none 0 0, Value.slice none 0 0, v27283]) hS27286 A26 rfl rfl rfl rfl (one_cons rfl (one_cons rfl (one_cons rfl (one_cons rfl (one_cons ((hS27286).f1).arr_one one_nil))))) (Nat.le_of_ble_eq_true rfl) rfl ?_)
        intro w27287 hS27288
        refine ⟨(ag_cons (ag_r rfl rfl (Exec.move (v := Value.int .i64 (IntKind.i64.wrap (1 + ((IntKind.i64.wrap m2).tmod 90)))) rfl rfl ⟨rfl, rfl⟩)) (ag_cons (ag_r rfl rfl (Exec.build rfl (parts_cons (c := [Value.int .i64 (IntKind.i64.wrap (1 + ((IntKind.i64.wrap m2).tmod 90)))]) (cells_of rfl rfl) (parts_cons (c := [v27190]) (cells_of rfl (cells_one ((hS27288).f3).arr_one)) parts_nil)) (v := Value.agg #[Value.int .i64 (IntKind.i64.wrap (1 + ((IntKind.i64.wrap m2).tmod 90))), Value.int .i64 (0), Value.slice none 0 0, Value.slice none 0 0, v27190]) (fun _ => by kernel_rfl) ⟨rfl, rfl⟩)) ag_nil)), ?_⟩
        refine DL_done ?_
        have hS27289 := (hS27288).f2
        refine WL_step rfl rfl (Exec.store_box (ds := [Value.int .i64 (IntKind.i64.wrap (1 + ((IntKind.i64.wrap m2).tmod 90))), Value.int .i64 (0), Value.slice none 0 0, Value.slice none 0 0, v27190]) (es := [Value.int .i64 (IntKind.i64.wrap (1 + ((IntKind.i64.wrap m2).tmod 90))), Value.int .i64 (0), Value.slice none 0 0, Value.slice none 0 0, v27190]) hS27289 A26 rfl rfl rfl rfl (one_cons rfl (one_cons rfl (one_cons rfl (one_cons rfl (one_cons ((hS27289).f3).arr_one one_nil))))) (Nat.le_of_ble_eq_true rfl) rfl ?_)
        intro w27290 hS27291
        refine WL_nil (at_normal ?_)
        have hS27292 := (hS27291).f3
        have hS27293 := (hS27292).f3
        have hS27294 := (hS27293).f2
        have hS27295 := (hS27294).f3
        exact ⟨s26479, b27280, b27262, v27283, v27190, (PHeap.le_refl _), hS27295, rfl, rfl, rfl, rfl⟩
      refine DL_alt ?_ ?_
      · refine DL_e rfl rfl (Exec.alloc (cs := [Value.int .i64 (0), Value.int .i64 (0), Value.slice none 0 0, Value.slice none 0 0, Value.slice none 0 0]) hS27058 Z26 rfl rfl ?_)
        intro b27296 w27297 hS27298
        refine ⟨(ag_cons (ag_r rfl rfl (Exec.move (v := Value.int .i64 (IntKind.i64.wrap (1 + ((IntKind.i64.wrap n1).tmod 90)))) rfl rfl ⟨rfl, rfl⟩)) (ag_cons (ag_r rfl rfl (Exec.move (v := Value.int .i64 (IntKind.i64.wrap (1 + ((IntKind.i64.wrap n1).tmod 90)))) rfl rfl ⟨rfl, rfl⟩)) (ag_cons (ag_r rfl rfl (Exec.move (v := Value.int .i64 (IntKind.i64.wrap (1 + ((IntKind.i64.wrap m2).tmod 90)))) rfl rfl ⟨rfl, rfl⟩)) (ag_cons (ag_r rfl rfl (Exec.move (v := Value.int .i64 (IntKind.i64.wrap (1 + ((IntKind.i64.wrap m2).tmod 90)))) rfl rfl ⟨rfl, rfl⟩)) ag_nil)))), ?_⟩
        refine DL_alt ?_ ?_
        · refine DL_e rfl rfl (Exec.make (E := encBool) hS27298 S24 Z4 rfl rfl rfl rfl q26487 ?_)
          intro v27299 w27300 hS27301
          refine ⟨(ag_cons (ag_r rfl rfl (Exec.move (v := Value.int .i64 (IntKind.i64.wrap (1 + ((IntKind.i64.wrap n1).tmod 90)))) rfl rfl ⟨rfl, rfl⟩)) (ag_cons (ag_r rfl rfl (Exec.move (v := Value.int .i64 (IntKind.i64.wrap (1 + ((IntKind.i64.wrap m2).tmod 90)))) rfl rfl ⟨rfl, rfl⟩)) (ag_cons (ag_r rfl rfl (Exec.move (v := Value.int .i64 (IntKind.i64.wrap (1 + ((IntKind.i64.wrap m2).tmod 90)))) rfl rfl ⟨rfl, rfl⟩)) ag_nil))), ?_⟩
          refine DL_q rfl rfl (Exec.build rfl (parts_cons (c := [Value.int .i64 (IntKind.i64.wrap (1 + ((IntKind.i64.wrap n1).tmod 90)))]) (cells_of rfl rfl) (parts_cons (c := [v27299]) (cells_of rfl (cells_one (hS27301).arr_one)) parts_nil)) (v := Value.agg #[Value.int .i64 (IntKind.i64.wrap (1 + ((IntKind.i64.wrap n1).tmod 90))), Value.int .i64 (0), Value.slice none 0 0, Value.slice none 0 0, v27299]) (fun _ => by kernel_rfl) ⟨rfl, ?_⟩)
          refine DL_alt ?_ ?_
          · refine DL_e rfl rfl (Exec.make (E := encBool) hS27301 S24 Z4 rfl rfl rfl rfl q26492 ?_)
            intro v27302 w27303 hS27304
            refine ⟨(ag_cons (ag_r rfl rfl (Exec.move (v := Value.int .i64 (IntKind.i64.wrap (1 + ((IntKind.i64.wrap n1).tmod 90)))) rfl rfl ⟨rfl, rfl⟩)) (ag_cons (ag_r rfl rfl (Exec.move (v := Value.int .i64 (IntKind.i64.wrap (1 + ((IntKind.i64.wrap m2).tmod 90)))) rfl rfl ⟨rfl, rfl⟩)) (ag_cons (ag_r rfl rfl (Exec.build rfl (parts_cons (c := [Value.int .i64 (IntKind.i64.wrap (1 + ((IntKind.i64.wrap n1).tmod 90)))]) (cells_of rfl rfl) (parts_cons (c := [v27299]) (cells_of rfl (cells_one ((hS27304).f1).arr_one)) parts_nil)) (v := Value.agg #[Value.int .i64 (IntKind.i64.wrap (1 + ((IntKind.i64.wrap n1).tmod 90))), Value.int .i64 (0), Value.slice none 0 0, Value.slice none 0 0, v27299]) (fun _ => by kernel_rfl) ⟨rfl, rfl⟩)) ag_nil))), ?_⟩
            refine DL_q rfl rfl (Exec.build rfl (parts_cons (c := [Value.int .i64 (IntKind.i64.wrap (1 + ((IntKind.i64.wrap m2).tmod 90)))]) (cells_of rfl rfl) (parts_cons (c := [v27302]) (cells_of rfl (cells_one (hS27304).arr_one)) parts_nil)) (v := Value.agg #[Value.int .i64 (IntKind.i64.wrap (1 + ((IntKind.i64.wrap m2).tmod 90))), Value.int .i64 (0), Value.slice none 0 0, Value.slice none 0 0, v27302]) (fun _ => by kernel_rfl) ⟨rfl, ?_⟩)
            refine DL_e rfl rfl (Exec.alloc (cs := [Value.int .i64 (0), Value.int .i64 (0), Value.slice none 0 0, Value.slice none 0 0, Value.slice none 0 0]) hS27304 Z26 rfl rfl ?_)
            intro b27305 w27306 hS27307
            refine ⟨(ag_cons (ag_r rfl rfl (Exec.move (v := Value.int .i64 (IntKind.i64.wrap (1 + ((IntKind.i64.wrap n1).tmod 90)))) rfl rfl ⟨rfl, rfl⟩)) (ag_cons (ag_r rfl rfl (Exec.move (v := Value.int .i64 (IntKind.i64.wrap (1 + ((IntKind.i64.wrap m2).tmod 90)))) rfl rfl ⟨rfl, rfl⟩)) (ag_cons (ag_r rfl rfl (Exec.build rfl (parts_cons (c := [Value.int .i64 (IntKind.i64.wrap (1 + ((IntKind.i64.wrap n1).tmod 90)))]) (cells_of rfl rfl) (parts_cons (c := [v27299]) (cells_of rfl (cells_one ((hS27307).f2).arr_one)) parts_nil)) (v := Value.agg #[Value.int .i64 (IntKind.i64.wrap (1 + ((IntKind.i64.wrap n1).tmod 90))), Value.int .i64 (0), Value.slice none 0 0, Value.slice none 0 0, v27299]) (fun _ => by kernel_rfl) ⟨rfl, rfl⟩)) (ag_cons (ag_r rfl rfl (Exec.build rfl (parts_cons (c := [Value.int .i64 (IntKind.i64.wrap (1 + ((IntKind.i64.wrap m2).tmod 90)))]) (cells_of rfl rfl) (parts_cons (c := [v27302]) (cells_of rfl (cells_one ((hS27307).f1).arr_one)) parts_nil)) (v := Value.agg #[Value.int .i64 (IntKind.i64.wrap (1 + ((IntKind.i64.wrap m2).tmod 90))), Value.int .i64 (0), Value.slice none 0 0, Value.slice none 0 0, v27302]) (fun _ => by kernel_rfl) ⟨rfl, rfl⟩)) ag_nil)))), ?_⟩
            have hS27308 := (hS27307).f3
            refine DL_e rfl rfl (Exec.store_box (ds := [Value.int .i64 (IntKind.i64.wrap (1 + ((IntKind.i64.wrap n1).tmod 90))), Value.int .i64 (0), Value.slice none 0 0, Value.slice none 0 0, v27299]) (es := [Value.int .i64 (IntKind.i64.wrap (1 + ((IntKind.i64.wrap n1).tmod 90))), Value.int .i64 (0), Value.slice none 0 0, Value.slice none 0 0, v27299]) hS27308 A26 rfl rfl rfl rfl (one_cons rfl (one_cons rfl (one_cons rfl (one_cons rfl (one_cons ((hS27308).f3).arr_one one_nil))))) (Nat.le_of_ble_eq_true rfl) rfl ?_)
            intro w27309 hS27310
            refine ⟨(ag_cons (ag_r rfl rfl (Exec.move (v := Value.int .i64 (IntKind.i64.wrap (1 + ((IntKind.i64.wrap m2).tmod 90)))) rfl rfl ⟨rfl, rfl⟩)) (ag_cons (ag_r rfl rfl (Exec.build rfl (parts_cons (c := [Value.int .i64 (IntKind.i64.wrap (1 + ((IntKind.i64.wrap m2).tmod 90)))]) (cells_of rfl rfl) (parts_cons (c := [v27302]) (cells_of rfl (cells_one ((hS27310).f2).arr_one)) parts_nil)) (v := Value.agg #[Value.int .i64 (IntKind.i64.wrap (1 + ((IntKind.i64.wrap m2).tmod 90))), Value.int .i64 (0), Value.slice none 0 0, Value.slice none 0 0, v27302]) (fun _ => by kernel_rfl) ⟨rfl, rfl⟩)) ag_nil)), ?_⟩
            refine DL_done ?_
            have hS27311 := (hS27310).f1
            refine WL_step rfl rfl (Exec.store_box (ds := [Value.int .i64 (IntKind.i64.wrap (1 + ((IntKind.i64.wrap m2).tmod 90))), Value.int .i64 (0), Value.slice none 0 0, Value.slice none 0 0, v27302]) (es := [Value.int .i64 (IntKind.i64.wrap (1 + ((IntKind.i64.wrap m2).tmod 90))), Value.int .i64 (0), Value.slice none 0 0, Value.slice none 0 0, v27302]) hS27311 A26 rfl rfl rfl rfl (one_cons rfl (one_cons rfl (one_cons rfl (one_cons rfl (one_cons ((hS27311).f2).arr_one one_nil))))) (Nat.le_of_ble_eq_true rfl) rfl ?_)
            intro w27312 hS27313
            refine WL_nil (at_normal ?_)
            have hS27314 := (hS27313).f2
            have hS27315 := (hS27314).f3
            have hS27316 := (hS27315).f2
            have hS27317 := (hS27316).f3
            exact ⟨s26479, b27296, b27305, v27299, v27302, (PHeap.le_refl _), hS27317, rfl, rfl, rfl, rfl⟩
          refine DL_e rfl rfl (Exec.alloc (cs := [Value.int .i64 (0), Value.int .i64 (0), Value.slice none 0 0, Value.slice none 0 0, Value.slice none 0 0]) hS27301 Z26 rfl rfl ?_)
          intro b27318 w27319 hS27320
          refine ⟨(ag_cons (ag_r rfl rfl (Exec.move (v := Value.int .i64 (IntKind.i64.wrap (1 + ((IntKind.i64.wrap n1).tmod 90)))) rfl rfl ⟨rfl, rfl⟩)) (ag_cons (ag_r rfl rfl (Exec.move (v := Value.int .i64 (IntKind.i64.wrap (1 + ((IntKind.i64.wrap m2).tmod 90)))) rfl rfl ⟨rfl, rfl⟩)) (ag_cons (ag_r rfl rfl (Exec.move (v := Value.int .i64 (IntKind.i64.wrap (1 + ((IntKind.i64.wrap m2).tmod 90)))) rfl rfl ⟨rfl, rfl⟩)) (ag_cons (ag_r rfl rfl (Exec.build rfl (parts_cons (c := [Value.int .i64 (IntKind.i64.wrap (1 + ((IntKind.i64.wrap n1).tmod 90)))]) (cells_of rfl rfl) (parts_cons (c := [v27299]) (cells_of rfl (cells_one ((hS27320).f1).arr_one)) parts_nil)) (v := Value.agg #[Value.int .i64 (IntKind.i64.wrap (1 + ((IntKind.i64.wrap n1).tmod 90))), Value.int .i64 (0), Value.slice none 0 0, Value.slice none 0 0, v27299]) (fun _ => by kernel_rfl) ⟨rfl, rfl⟩)) ag_nil)))), ?_⟩
          refine DL_alt ?_ ?_
          · refine DL_e rfl rfl (Exec.make (E := encBool) hS27320 S24 Z4 rfl rfl rfl rfl q26492 ?_)
            intro v27321 w27322 hS27323
            refine ⟨(ag_cons (ag_r rfl rfl (Exec.move (v := Value.int .i64 (IntKind.i64.wrap (1 + ((IntKind.i64.wrap n1).tmod 90)))) rfl rfl ⟨rfl, rfl⟩)) (ag_cons (ag_r rfl rfl (Exec.move (v := Value.int .i64 (IntKind.i64.wrap (1 + ((IntKind.i64.wrap m2).tmod 90)))) rfl rfl ⟨rfl, rfl⟩)) (ag_cons (ag_r rfl rfl (Exec.build rfl (parts_cons (c := [Value.int .i64 (IntKind.i64.wrap (1 + ((IntKind.i64.wrap n1).tmod 90)))]) (cells_of rfl rfl) (parts_cons (c := [v27299]) (cells_of rfl (cells_one ((hS27323).f2).arr_one)) parts_nil)) (v := Value.agg #[Value.int .i64 (IntKind.i64.wrap (1 + ((IntKind.i64.wrap n1).tmod 90))), Value.int .i64 (0), Value.slice none 0 0, Value.slice none 0 0, v27299]) (fun _ => by kernel_rfl) ⟨rfl, rfl⟩)) ag_nil))), ?_⟩
            refine DL_q rfl rfl (Exec.build rfl (parts_cons (c := [Value.int .i64 (IntKind.i64.wrap (1 + ((IntKind.i64.wrap m2).tmod 90)))]) (cells_of rfl rfl) (parts_cons (c := [v27321]) (cells_of rfl (cells_one (hS27323).arr_one)) parts_nil)) (v := Value.agg #[Value.int .i64 (IntKind.i64.wrap (1 + ((IntKind.i64.wrap m2).tmod 90))), Value.int .i64 (0), Value.slice none 0 0, Value.slice none 0 0, v27321]) (fun _ => by kernel_rfl) ⟨rfl, ?_⟩)
            have hS27324 := (hS27323).f3
            refine DL_e rfl rfl (Exec.store_box (ds := [Value.int .i64 (IntKind.i64.wrap (1 + ((IntKind.i64.wrap n1).tmod 90))), Value.int .i64 (0), Value.slice none 0 0, Value.slice none 0 0, v27299]) (es := [Value.int .i64 (IntKind.i64.wrap (1 + ((IntKind.i64.wrap n1).tmod 90))), Value.int .i64 (0), Value.slice none 0 0, Value.slice none 0 0, v27299]) hS27324 A26 rfl rfl rfl rfl (one_cons rfl (one_cons rfl (one_cons rfl (one_cons rfl (one_cons ((hS27324).f3).arr_one one_nil))))) (Nat.le_of_ble_eq_true rfl) rfl ?_)
            intro w27325 hS27326
            refine ⟨(ag_cons (ag_r rfl rfl (Exec.move (v := Value.int .i64 (IntKind.i64.wrap (1 + ((IntKind.i64.wrap m2).tmod 90)))) rfl rfl ⟨rfl, rfl⟩)) (ag_cons (ag_r rfl rfl (Exec.build rfl (parts_cons (c := [Value.int .i64 (IntKind.i64.wrap (1 + ((IntKind.i64.wrap m2).tmod 90)))]) (cells_of rfl rfl) (parts_cons (c := [v27321]) (cells_of rfl (cells_one ((hS27326).f1).arr_one)) parts_nil)) (v := Value.agg #[Value.int .i64 (IntKind.i64.wrap (1 + ((IntKind.i64.wrap m2).tmod 90))), Value.int .i64 (0), Value.slice none 0 0, Value.slice none 0 0, v27321]) (fun _ => by kernel_rfl) ⟨rfl, rfl⟩)) ag_nil)), ?_⟩
            refine DL_done ?_
            have hS27327 := (hS27326).f2
            refine WL_step rfl rfl (Exec.store_box (ds := [Value.int .i64 (IntKind.i64.wrap (1 + ((IntKind.i64.wrap m2).tmod 90))), Value.int .i64 (0), Value.slice none 0 0, Value.slice none 0 0, v27321]) (es := [Value.int .i64 (IntKind.i64.wrap (1 + ((IntKind.i64.wrap m2).tmod 90))), Value.int .i64 (0), Value.slice none 0 0, Value.slice none 0 0, v27321]) hS27327 A26 rfl rfl rfl rfl (one_cons rfl (one_cons rfl (one_cons rfl (one_cons rfl (one_cons ((hS27327).f2).arr_one one_nil))))) (Nat.le_of_ble_eq_true rfl) rfl ?_)
            intro w27328 hS27329
            refine WL_nil (at_normal ?_)
            have hS27330 := (hS27329).f2
            have hS27331 := (hS27330).f3
            have hS27332 := (hS27331).f2
            have hS27333 := (hS27332).f3
            exact ⟨s26479, b27296, b27318, v27299, v27321, (PHeap.le_refl _), hS27333, rfl, rfl, rfl, rfl⟩
          have hS27334 := (hS27320).f2
          refine DL_e rfl rfl (Exec.store_box (ds := [Value.int .i64 (IntKind.i64.wrap (1 + ((IntKind.i64.wrap n1).tmod 90))), Value.int .i64 (0), Value.slice none 0 0, Value.slice none 0 0, v27299]) (es := [Value.int .i64 (IntKind.i64.wrap (1 + ((IntKind.i64.wrap n1).tmod 90))), Value.int .i64 (0), Value.slice none 0 0, Value.slice none 0 0, v27299]) hS27334 A26 rfl rfl rfl rfl (one_cons rfl (one_cons rfl (one_cons rfl (one_cons rfl (one_cons ((hS27334).f2).arr_one one_nil))))) (Nat.le_of_ble_eq_true rfl) rfl ?_)
          intro w27335 hS27336
          refine ⟨(ag_cons (ag_r rfl rfl (Exec.move (v := Value.int .i64 (IntKind.i64.wrap (1 + ((IntKind.i64.wrap m2).tmod 90)))) rfl rfl ⟨rfl, rfl⟩)) (ag_cons (ag_r rfl rfl (Exec.move (v := Value.int .i64 (IntKind.i64.wrap (1 + ((IntKind.i64.wrap m2).tmod 90)))) rfl rfl ⟨rfl, rfl⟩)) ag_nil)), ?_⟩
          refine DL_e rfl rfl (Exec.make (E := encBool) hS27336 S24 Z4 rfl rfl rfl rfl q26492 ?_)
          intro v27337 w27338 hS27339
          refine ⟨(ag_cons (ag_r rfl rfl (Exec.move (v := Value.int .i64 (IntKind.i64.wrap (1 + ((IntKind.i64.wrap m2).tmod 90)))) rfl rfl ⟨rfl, rfl⟩)) ag_nil), ?_⟩
          refine DL_q rfl rfl (Exec.build rfl (parts_cons (c := [Value.int .i64 (IntKind.i64.wrap (1 + ((IntKind.i64.wrap m2).tmod 90)))]) (cells_of rfl rfl) (parts_cons (c := [v27337]) (cells_of rfl (cells_one (hS27339).arr_one)) parts_nil)) (v := Value.agg #[Value.int .i64 (IntKind.i64.wrap (1 + ((IntKind.i64.wrap m2).tmod 90))), Value.int .i64 (0), Value.slice none 0 0, Value.slice none 0 0, v27337]) (fun _ => by kernel_rfl) ⟨rfl, ?_⟩)
          refine DL_done ?_
          have hS27340 := (hS27339).f2
          refine WL_step rfl rfl (Exec.store_box (ds := [Value.int .i64 (IntKind.i64.wrap (1 + ((IntKind.i64.wrap m2).tmod 90))), Value.int .i64 (0), Value.slice none 0 0, Value.slice none 0 0, v27337]) (es := [Value.int .i64 (IntKind.i64.wrap (1 + ((IntKind.i64.wrap m2).tmod 90))), Value.int .i64 (0), Value.slice none 0 0, Value.slice none 0 0, v27337]) hS27340 A26 rfl rfl rfl rfl (one_cons rfl (one_cons rfl (one_cons rfl (one_cons rfl (one_cons ((hS27340).f1).arr_one one_nil))))) (Nat.le_of_ble_eq_true rfl) rfl ?_)
          intro w27341 hS27342
          refine WL_nil (at_normal ?_)
          have hS27343 := (hS27342).f1
          have hS27344 := (hS27343).f3
          have hS27345 := (hS27344).f2
          have hS27346 := (hS27345).f3
          exact ⟨s26479, b27296, b27318, v27299, v27337, (PHeap.le_refl _), hS27346, rfl, rfl, rfl, rfl⟩
        refine DL_alt ?_ ?_
        · refine DL_e rfl rfl (Exec.make (E := encBool) hS27298 S24 Z4 rfl rfl rfl rfl q26492 ?_)
          intro v27347 w27348 hS27349
          refine ⟨(ag_cons (ag_r rfl rfl (Exec.move (v := Value.int .i64 (IntKind.i64.wrap (1 + ((IntKind.i64.wrap n1).tmod 90)))) rfl rfl ⟨rfl, rfl⟩)) (ag_cons (ag_r rfl rfl (Exec.move (v := Value.int .i64 (IntKind.i64.wrap (1 + ((IntKind.i64.wrap n1).tmod 90)))) rfl rfl ⟨rfl, rfl⟩)) (ag_cons (ag_r rfl rfl (Exec.move (v := Value.int .i64 (IntKind.i64.wrap (1 + ((IntKind.i64.wrap m2).tmod 90)))) rfl rfl ⟨rfl, rfl⟩)) ag_nil))), ?_⟩
          refine DL_q rfl rfl (Exec.build rfl (parts_cons (c := [Value.int .i64 (IntKind.i64.wrap (1 + ((IntKind.i64.wrap m2).tmod 90)))]) (cells_of rfl rfl) (parts_cons (c := [v27347]) (cells_of rfl (cells_one (hS27349).arr_one)) parts_nil)) (v := Value.agg #[Value.int .i64 (IntKind.i64.wrap (1 + ((IntKind.i64.wrap m2).tmod 90))), Value.int .i64 (0), Value.slice none 0 0, Value.slice none 0 0, v27347]) (fun _ => by kernel_rfl) ⟨rfl, ?_⟩)
          refine DL_alt ?_ ?_
          · refine DL_e rfl rfl (Exec.make (E := encBool) hS27349 S24 Z4 rfl rfl rfl rfl q26487 ?_)
            intro v27350 w27351 hS27352
            refine ⟨(ag_cons (ag_r rfl rfl (Exec.move (v := Value.int .i64 (IntKind.i64.wrap (1 + ((IntKind.i64.wrap n1).tmod 90)))) rfl rfl ⟨rfl, rfl⟩)) (ag_cons (ag_r rfl rfl (Exec.move (v := Value.int .i64 (IntKind.i64.wrap (1 + ((IntKind.i64.wrap m2).tmod 90)))) rfl rfl ⟨rfl, rfl⟩)) (ag_cons (ag_r rfl rfl (Exec.build rfl (parts_cons (c := [Value.int .i64 (IntKind.i64.wrap (1 + ((IntKind.i64.wrap m2).tmod 90)))]) (cells_of rfl rfl) (parts_cons (c := [v27347]) (cells_of rfl (cells_one ((hS27352).f1).arr_one)) parts_nil)) (v := Value.agg #[Value.int .i64 (IntKind.i64.wrap (1 + ((IntKind.i64.wrap m2).tmod 90))), Value.int .i64 (0), Value.slice none 0 0, Value.slice none 0 0, v27347]) (fun _ => by kernel_rfl) ⟨rfl, rfl⟩)) ag_nil))), ?_⟩
            refine DL_q rfl rfl (Exec.build rfl (parts_cons (c := [Value.int .i64 (IntKind.i64.wrap (1 + ((IntKind.i64.wrap n1).tmod 90)))]) (cells_of rfl rfl) (parts_cons (c := [v27350]) (cells_of rfl (cells_one (hS27352).arr_one)) parts_nil)) (v := Value.agg #[Value.int .i64 (IntKind.i64.wrap (1 + ((IntKind.i64.wrap n1).tmod 90))), Value.int .i64 (0), Value.slice none 0 0, Value.slice none 0 0, v27350]) (fun _ => by kernel_rfl) ⟨rfl, ?_⟩)
            refine DL_e rfl rfl (Exec.alloc (cs := [Value.int .i64 (0), Value.int .i64 (0), Value.slice none 0 0, Value.slice none 0 0, Value.slice none 0 0]) hS27352 Z26 rfl rfl ?_)
            intro b27353 w27354 hS27355
            refine ⟨(ag_cons (ag_r rfl rfl (Exec.move (v := Value.int .i64 (IntKind.i64.wrap (1 + ((IntKind.i64.wrap n1).tmod 90)))) rfl rfl ⟨rfl, rfl⟩)) (ag_cons (ag_r rfl rfl (Exec.move (v := Value.int .i64 (IntKind.i64.wrap (1 + ((IntKind.i64.wrap m2).tmod 90)))) rfl rfl ⟨rfl, rfl⟩)) (ag_cons (ag_r rfl rfl (Exec.build rfl (parts_cons (c := [Value.int .i64 (IntKind.i64.wrap (1 + ((IntKind.i64.wrap m2).tmod 90)))]) (cells_of rfl rfl) (parts_cons (c := [v27347]) (cells_of rfl (cells_one ((hS27355).f2).arr_one)) parts_nil)) (v := Value.agg #[Value.int .i64 (IntKind.i64.wrap (1 + ((IntKind.i64.wrap m2).tmod 90))), Value.int .i64 (0), Value.slice none 0 0, Value.slice none 0 0, v27347]) (fun _ => by kernel_rfl) ⟨rfl, rfl⟩)) (ag_cons (ag_r rfl rfl (Exec.build rfl (parts_cons (c := [Value.int .i64 (IntKind.i64.wrap (1 + ((IntKind.i64.wrap n1).tmod 90)))]) (cells_of rfl rfl) (parts_cons (c := [v27350]) (cells_of rfl (cells_one ((hS27355).f1).arr_one)) parts_nil)) (v := Value.agg #[Value.int .i64 (IntKind.i64.wrap (1 + ((IntKind.i64.wrap n1).tmod 90))), Value.int .i64 (0), Value.slice none 0 0, Value.slice none 0 0, v27350]) (fun _ => by kernel_rfl) ⟨rfl, rfl⟩)) ag_nil)))), ?_⟩
            have hS27356 := (hS27355).f3
            refine DL_e rfl rfl (Exec.store_box (ds := [Value.int .i64 (IntKind.i64.wrap (1 + ((IntKind.i64.wrap n1).tmod 90))), Value.int .i64 (0), Value.slice none 0 0, Value.slice none 0 0, v27350]) (es := [Value.int .i64 (IntKind.i64.wrap (1 + ((IntKind.i64.wrap n1).tmod 90))), Value.int .i64 (0), Value.slice none 0 0, Value.slice none 0 0, v27350]) hS27356 A26 rfl rfl rfl rfl (one_cons rfl (one_cons rfl (one_cons rfl (one_cons rfl (one_cons ((hS27356).f2).arr_one one_nil))))) (Nat.le_of_ble_eq_true rfl) rfl ?_)
            intro w27357 hS27358
            refine ⟨(ag_cons (ag_r rfl rfl (Exec.move (v := Value.int .i64 (IntKind.i64.wrap (1 + ((IntKind.i64.wrap m2).tmod 90)))) rfl rfl ⟨rfl, rfl⟩)) (ag_cons (ag_r rfl rfl (Exec.build rfl (parts_cons (c := [Value.int .i64 (IntKind.i64.wrap (1 + ((IntKind.i64.wrap m2).tmod 90)))]) (cells_of rfl rfl) (parts_cons (c := [v27347]) (cells_of rfl (cells_one ((hS27358).f3).arr_one)) parts_nil)) (v := Value.agg #[Value.int .i64 (IntKind.i64.wrap (1 + ((IntKind.i64.wrap m2).tmod 90))), Value.int .i64 (0), Value.slice none 0 0, Value.slice none 0 0, v27347]) (fun _ => by kernel_rfl) ⟨rfl, rfl⟩)) ag_nil)), ?_⟩
            refine DL_done ?_
            have hS27359 := (hS27358).f1
            refine WL_step rfl rfl (Exec.store_box (ds := [Value.int .i64 (IntKind.i64.wrap (1 + ((IntKind.i64.wrap m2).tmod 90))), Value.int .i64 (0), Value.slice none 0 0, Value.slice none 0 0, v27347]) (es := [Value.int .i64 (IntKind.i64.wrap (1 + ((IntKind.i64.wrap m2).tmod 90))), Value.int .i64 (0), Value.slice none 0 0, Value.slice none 0 0, v27347]) hS27359 A26 rfl rfl rfl rfl (one_cons rfl (one_cons rfl (one_cons rfl (one_cons rfl (one_cons ((hS27359).f3).arr_one one_nil))))) (Nat.le_of_ble_eq_true rfl) rfl ?_)
            intro w27360 hS27361
            refine WL_nil (at_normal ?_)
            have hS27362 := (hS27361).f3
            have hS27363 := (hS27362).f3
            have hS27364 := (hS27363).f2
            have hS27365 := (hS27364).f3
            exact ⟨s26479, b27296, b27353, v27350, v27347, (PHeap.le_refl _), hS27365, rfl, rfl, rfl, rfl⟩
          refine DL_e rfl rfl (Exec.alloc (cs := [Value.int .i64 (0), Value.int .i64 (0), Value.slice none 0 0, Value.slice none 0 0, Value.slice none 0 0]) hS27349 Z26 rfl rfl ?_)
          intro b27366 w27367 hS27368
          refine ⟨(ag_cons (ag_r rfl rfl (Exec.move (v := Value.int .i64 (IntKind.i64.wrap (1 + ((IntKind.i64.wrap n1).tmod 90)))) rfl rfl ⟨rfl, rfl⟩)) (ag_cons (ag_r rfl rfl (Exec.move (v := Value.int .i64 (IntKind.i64.wrap (1 + ((IntKind.i64.wrap n1).tmod 90)))) rfl rfl ⟨rfl, rfl⟩)) (ag_cons (ag_r rfl rfl (Exec.move (v := Value.int .i64 (IntKind.i64.wrap (1 + ((IntKind.i64.wrap m2).tmod 90)))) rfl rfl ⟨rfl, rfl⟩)) (ag_cons (ag_r rfl rfl (Exec.build rfl (parts_cons (c := [Value.int .i64 (IntKind.i64.wrap (1 + ((IntKind.i64.wrap m2).tmod 90)))]) (cells_of rfl rfl) (parts_cons (c := [v27347]) (cells_of rfl (cells_one ((hS27368).f1).arr_one)) parts_nil)) (v := Value.agg #[Value.int .i64 (IntKind.i64.wrap (1 + ((IntKind.i64.wrap m2).tmod 90))), Value.int .i64 (0), Value.slice none 0 0, Value.slice none 0 0, v27347]) (fun _ => by kernel_rfl) ⟨rfl, rfl⟩)) ag_nil)))), ?_⟩
          refine DL_e rfl rfl (Exec.make (E := encBool) hS27368 S24 Z4 rfl rfl rfl rfl q26487 ?_)
          intro v27369 w27370 hS27371
          refine ⟨(ag_cons (ag_r rfl rfl (Exec.move (v := Value.int .i64 (IntKind.i64.wrap (1 + ((IntKind.i64.wrap n1).tmod 90)))) rfl rfl ⟨rfl, rfl⟩)) (ag_cons (ag_r rfl rfl (Exec.move (v := Value.int .i64 (IntKind.i64.wrap (1 + ((IntKind.i64.wrap m2).tmod 90)))) rfl rfl ⟨rfl, rfl⟩)) (ag_cons (ag_r rfl rfl (Exec.build rfl (parts_cons (c := [Value.int .i64 (IntKind.i64.wrap (1 + ((IntKind.i64.wrap m2).tmod 90)))]) (cells_of rfl rfl) (parts_cons (c := [v27347]) (cells_of rfl (cells_one ((hS27371).f2).arr_one)) parts_nil)) (v := Value.agg #[Value.int .i64 (IntKind.i64.wrap (1 + ((IntKind.i64.wrap m2).tmod 90))), Value.int .i64 (0), Value.slice none 0 0, Value.slice none 0 0, v27347]) (fun _ => by kernel_rfl) ⟨rfl, rfl⟩)) ag_nil))), ?_⟩
          refine DL_q rfl rfl (Exec.build rfl (parts_cons (c := [Value.int .i64 (IntKind.i64.wrap (1 + ((IntKind.i64.wrap n1).tmod 90)))]) (cells_of rfl rfl) (parts_cons (c := [v27369]) (cells_of rfl (cells_one (hS27371).arr_one)) parts_nil)) (v := Value.agg #[Value.int .i64 (IntKind.i64.wrap (1 + ((IntKind.i64.wrap n1).tmod 90))), Value.int .i64 (0), Value.slice none 0 0, Value.slice none 0 0, v27369]) (fun _ => by kernel_rfl) ⟨rfl, ?_⟩)
          have hS27372 := (hS27371).f3
          refine DL_e rfl rfl (Exec.store_box (ds := [Value.int .i64 (IntKind.i64.wrap (1 + ((IntKind.i64.wrap n1).tmod 90))), Value.int .i64 (0), Value.slice none 0 0, Value.slice none 0 0, v27369]) (es := [Value.int .i64 (IntKind.i64.wrap (1 + ((IntKind.i64.wrap n1).tmod 90))), Value.int .i64 (0), Value.slice none 0 0, Value.slice none 0 0, v27369]) hS27372 A26 rfl rfl rfl rfl (one_cons rfl (one_cons rfl (one_cons rfl (one_cons rfl (one_cons ((hS27372).f1).arr_one one_nil))))) (Nat.le_of_ble_eq_true rfl) rfl ?_)
          intro w27373 hS27374
          refine ⟨(ag_cons (ag_r rfl rfl (Exec.move (v := Value.int .i64 (IntKind.i64.wrap (1 + ((IntKind.i64.wrap m2).tmod 90)))) rfl rfl ⟨rfl, rfl⟩)) (ag_cons (ag_r rfl rfl (Exec.build rfl (parts_cons (c := [Value.int .i64 (IntKind.i64.wrap (1 + ((IntKind.i64.wrap m2).tmod 90)))]) (cells_of rfl rfl) (parts_cons (c := [v27347]) (cells_of rfl (cells_one ((hS27374).f3).arr_one)) parts_nil)) (v := Value.agg #[Value.int .i64 (IntKind.i64.wrap (1 + ((IntKind.i64.wrap m2).tmod 90))), Value.int .i64 (0), Value.slice none 0 0, Value.slice none 0 0, v27347]) (fun _ => by kernel_rfl) ⟨rfl, rfl⟩)) ag_nil)), ?_⟩
          refine DL_done ?_
          have hS27375 := (hS27374).f2
          refine WL_step rfl rfl (Exec.store_box (ds := [Value.int .i64 (IntKind.i64.wrap (1 + ((IntKind.i64.wrap m2).tmod 90))), Value.int .i64 (0), Value.slice none 0 0, Value.slice none 0 0, v27347]) (es := [Value.int .i64 (IntKind.i64.wrap (1 + ((IntKind.i64.wrap m2).tmod 90))), Value.int .i64 (0), Value.slice none 0 0, Value.slice none 0 0, v27347]) hS27375 A26 rfl rfl rfl rfl (one_cons rfl (one_cons rfl (one_cons rfl (one_cons rfl (one_cons ((hS27375).f3).arr_one one_nil))))) (Nat.le_of_ble_eq_true rfl) rfl ?_)
          intro w27376 hS27377
          refine WL_nil (at_normal ?_)
          have hS27378 := (hS27377).f3
          have hS27379 := (hS27378).f3
          have hS27380 := (hS27379).f2
          have hS27381 := (hS27380).f3
          exact ⟨s26479, b27296, b27366, v27369, v27347, (PHeap.le_refl _), hS27381, rfl, rfl, rfl, rfl⟩
        refine DL_e rfl rfl (Exec.alloc (cs := [Value.int .i64 (0), Value.int .i64 (0), Value.slice none 0 0, Value.slice none 0 0, Value.slice none 0 0]) hS27298 Z26 rfl rfl ?_)
        intro b27382 w27383 hS27384
        refine ⟨(ag_cons (ag_r rfl rfl (Exec.move (v := Value.int .i64 (IntKind.i64.wrap (1 + ((IntKind.i64.wrap n1).tmod 90)))) rfl rfl ⟨rfl, rfl⟩)) (ag_cons (ag_r rfl rfl (Exec.move (v := Value.int .i64 (IntKind.i64.wrap (1 + ((IntKind.i64.wrap n1).tmod 90)))) rfl rfl ⟨rfl, rfl⟩)) (ag_cons (ag_r rfl rfl (Exec.move (v := Value.int .i64 (IntKind.i64.wrap (1 + ((IntKind.i64.wrap m2).tmod 90)))) rfl rfl ⟨rfl, rfl⟩)) (ag_cons (ag_r rfl rfl (Exec.move (v := Value.int .i64 (IntKind.i64.wrap (1 + ((IntKind.i64.wrap m2).tmod 90)))) rfl rfl ⟨rfl, rfl⟩)) ag_nil)))), ?_⟩
        refine DL_alt ?_ ?_
        · refine DL_e rfl rfl (Exec.make (E := encBool) hS27384 S24 Z4 rfl rfl rfl rfl q26487 ?_)
          intro v27385 w27386 hS27387
          refine ⟨(ag_cons (ag_r rfl rfl (Exec.move (v := Value.int .i64 (IntKind.i64.wrap (1 + ((IntKind.i64.wrap n1).tmod 90)))) rfl rfl ⟨rfl, rfl⟩)) (ag_cons (ag_r rfl rfl (Exec.move (v := Value.int .i64 (IntKind.i64.wrap (1 + ((IntKind.i64.wrap m2).tmod 90)))) rfl rfl ⟨rfl, rfl⟩)) (ag_cons (ag_r rfl rfl (Exec.move (v := Value.int .i64 (IntKind.i64.wrap (1 + ((IntKind.i64.wrap m2).tmod 90)))) rfl rfl ⟨rfl, rfl⟩)) ag_nil))), ?_⟩
          refine DL_q rfl rfl (Exec.build rfl (parts_cons (c := [Value.int .i64 (IntKind.i64.wrap (1 + ((IntKind.i64.wrap n1).tmod 90)))]) (cells_of rfl rfl) (parts_cons (c := [v27385]) (cells_of rfl (cells_one (hS27387).arr_one)) parts_nil)) (v := Value.agg #[Value.int .i64 (IntKind.i64.wrap (1 + ((IntKind.i64.wrap n1).tmod 90))), Value.int .i64 (0), Value.slice none 0 0, Value.slice none 0 0, v27385]) (fun _ => by kernel_rfl) ⟨rfl, ?_⟩)
          refine DL_alt ?_ ?_
          · refine DL_e rfl rfl (Exec.make (E := encBool) hS27387 S24 Z4 rfl rfl rfl rfl q26492 ?_)
            intro v27388 w27389 hS27390
            refine ⟨(ag_cons (ag_r rfl rfl (Exec.move (v := Value.int .i64 (IntKind.i64.wrap (1 + ((IntKind.i64.wrap n1).tmod 90)))) rfl rfl ⟨rfl, rfl⟩)) (ag_cons (ag_r rfl rfl (Exec.move (v := Value.int .i64 (IntKind.i64.wrap (1 + ((IntKind.i64.wrap m2).tmod 90)))) rfl rfl ⟨rfl, rfl⟩)) (ag_cons (ag_r rfl rfl (Exec.build rfl (parts_cons (c := [Value.int .i64 (IntKind.i64.wrap (1 + ((IntKind.i64.wrap n1).tmod 90)))]) (cells_of rfl rfl) (parts_cons (c := [v27385]) (cells_of rfl (cells_one ((hS27390).f1).arr_one)) parts_nil)) (v := Value.agg #[Value.int .i64 (IntKind.i64.wrap (1 + ((IntKind.i64.wrap n1).tmod 90))), Value.int .i64 (0), Value.slice none 0 0, Value.slice none 0 0, v27385]) (fun _ => by kernel_rfl) ⟨rfl, rfl⟩)) ag_nil))), ?_⟩
            refine DL_q rfl rfl (Exec.build rfl (parts_cons (c := [Value.int .i64 (IntKind.i64.wrap (1 + ((IntKind.i64.wrap m2).tmod 90)))]) (cells_of rfl rfl) (parts_cons (c := [v27388]) (cells_of rfl (cells_one (hS27390).arr_one)) parts_nil)) (v := Value.agg #[Value.int .i64 (IntKind.i64.wrap (1 + ((IntKind.i64.wrap m2).tmod 90))), Value.int .i64 (0), Value.slice none 0 0, Value.slice none 0 0, v27388]) (fun _ => by kernel_rfl) ⟨rfl, ?_⟩)
            have hS27391 := (hS27390).f3
            refine DL_e rfl rfl (Exec.store_box (ds := [Value.int .i64 (IntKind.i64.wrap (1 + ((IntKind.i64.wrap n1).tmod 90))), Value.int .i64 (0), Value.slice none 0 0, Value.slice none 0 0, v27385]) (es := [Value.int .i64 (IntKind.i64.wrap (1 + ((IntKind.i64.wrap n1).tmod 90))), Value.int .i64 (0), Value.slice none 0 0, Value.slice none 0 0, v27385]) hS27391 A26 rfl rfl rfl rfl (one_cons rfl (one_cons rfl (one_cons rfl (one_cons rfl (one_cons ((hS27391).f2).arr_one one_nil))))) (Nat.le_of_ble_eq_true rfl) rfl ?_)
            intro w27392 hS27393
            refine ⟨(ag_cons (ag_r rfl rfl (Exec.move (v := Value.int .i64 (IntKind.i64.wrap (1 + ((IntKind.i64.wrap m2).tmod 90)))) rfl rfl ⟨rfl, rfl⟩)) (ag_cons (ag_r rfl rfl (Exec.build rfl (parts_cons (c := [Value.int .i64 (IntKind.i64.wrap (1 + ((IntKind.i64.wrap m2).tmod 90)))]) (cells_of rfl rfl) (parts_cons (c := [v27388]) (cells_of rfl (cells_one ((hS27393).f1).arr_one)) parts_nil)) (v := Value.agg #[Value.int .i64 (IntKind.i64.wrap (1 + ((IntKind.i64.wrap m2).tmod 90))), Value.int .i64 (0), Value.slice none 0 0, Value.slice none 0 0, v27388]) (fun _ => by kernel_rfl) ⟨rfl, rfl⟩)) ag_nil)), ?_⟩
            refine DL_done ?_
            have hS27394 := (hS27393).f3
            refine WL_step rfl rfl (Exec.store_box (ds := [Value.int .i64 (IntKind.i64.wrap (1 + ((IntKind.i64.wrap m2).tmod 90))), Value.int .i64 (0), Value.slice none 0 0, Value.slice none 0 0, v27388]) (es := [Value.int .i64 (IntKind.i64.wrap (1 + ((IntKind.i64.wrap m2).tmod 90))), Value.int .i64 (0), Value.slice none 0 0, Value.slice none 0 0, v27388]) hS27394 A26 rfl rfl rfl rfl (one_cons rfl (one_cons rfl (one_cons rfl (one_cons rfl (one_cons ((hS27394).f2).arr_one one_nil))))) (Nat.le_of_ble_eq_true rfl) rfl ?_)
            intro w27395 hS27396
            refine WL_nil (at_normal ?_)
            have hS27397 := (hS27396).f2
            have hS27398 := (hS27397).f3
            have hS27399 := (hS27398).f2
            have hS27400 := (hS27399).f3
            exact ⟨s26479, b27296, b27382, v27385, v27388, (PHeap.le_refl _), hS27400, rfl, rfl, rfl, rfl⟩
          have hS27401 := (hS27387).f2
          refine DL_e rfl rfl (Exec.store_box (ds := [Value.int .i64 (IntKind.i64.wrap (1 + ((IntKind.i64.wrap n1).tmod 90))), Value.int .i64 (0), Value.slice none 0 0, Value.slice none 0 0, v27385]) (es := [Value.int .i64 (IntKind.i64.wrap (1 + ((IntKind.i64.wrap n1).tmod 90))), Value.int .i64 (0), Value.slice none 0 0, Value.slice none 0 0, v27385]) hS27401 A26 rfl rfl rfl rfl (one_cons rfl (one_cons rfl (one_cons rfl (one_cons rfl (one_cons ((hS27401).f1).arr_one one_nil))))) (Nat.le_of_ble_eq_true rfl) rfl ?_)
          intro w27402 hS27403
          refine ⟨(ag_cons (ag_r rfl rfl (Exec.move (v := Value.int .i64 (IntKind.i64.wrap (1 + ((IntKind.i64.wrap m2).tmod 90)))) rfl rfl ⟨rfl, rfl⟩)) (ag_cons (ag_r rfl rfl (Exec.move (v := Value.int .i64 (IntKind.i64.wrap (1 + ((IntKind.i64.wrap m2).tmod 90)))) rfl rfl ⟨rfl, rfl⟩)) ag_nil)), ?_⟩
          refine DL_e rfl rfl (Exec.make (E := encBool) hS27403 S24 Z4 rfl rfl rfl rfl q26492 ?_)
          intro v27404 w27405 hS27406
          refine ⟨(ag_cons (ag_r rfl rfl (Exec.move (v := Value.int .i64 (IntKind.i64.wrap (1 + ((IntKind.i64.wrap m2).tmod 90)))) rfl rfl ⟨rfl, rfl⟩)) ag_nil), ?_⟩
          refine DL_q rfl rfl (Exec.build rfl (parts_cons (c := [Value.int .i64 (IntKind.i64.wrap (1 + ((IntKind.i64.wrap m2).tmod 90)))]) (cells_of rfl rfl) (parts_cons (c := [v27404]) (cells_of rfl (cells_one (hS27406).arr_one)) parts_nil)) (v := Value.agg #[Value.int .i64 (IntKind.i64.wrap (1 + ((IntKind.i64.wrap m2).tmod 90))), Value.int .i64 (0), Value.slice none 0 0, Value.slice none 0 0, v27404]) (fun _ => by kernel_rfl) ⟨rfl, ?_⟩)
          refine DL_done ?_
          have hS27407 := (hS27406).f3
          refine WL_step rfl rfl (Exec.store_box (ds := [Value.int .i64 (IntKind.i64.wrap (1 + ((IntKind.i64.wrap m2).tmod 90))), Value.int .i64 (0), Value.slice none 0 0, Value.slice none 0 0, v27404]) (es := [Value.int .i64 (IntKind.i64.wrap (1 + ((IntKind.i64.wrap m2).tmod 90))), Value.int .i64 (0), Value.slice none 0 0, Value.slice none 0 0, v27404]) hS27407 A26 rfl rfl rfl rfl (one_cons rfl (one_cons rfl (one_cons rfl (one_cons rfl (one_cons ((hS27407).f1).arr_one one_nil))))) (Nat.le_of_ble_eq_true rfl) rfl ?_)
          intro w27408 hS27409
          refine WL_nil (at_normal ?_)
          have hS27410 := (hS27409).f1
          have hS27411 := (hS27410).f3
          have hS27412 := (hS27411).f2
          have hS27413 := (hS27412).f3
          exact ⟨s26479, b27296, b27382, v27385, v27404, (PHeap.le_refl _), hS27413, rfl, rfl, rfl, rfl⟩
        refine DL_e rfl rfl (Exec.make (E := encBool) hS27384 S24 Z4 rfl rfl rfl rfl q26492 ?_)
        intro v27414 w27415 hS27416
        refine ⟨(ag_cons (ag_r rfl rfl (Exec.move (v := Value.int .i64 (IntKind.i64.wrap (1 + ((IntKind.i64.wrap n1).tmod 90)))) rfl rfl ⟨rfl, rfl⟩)) (ag_cons (ag_r rfl rfl (Exec.move (v := Value.int .i64 (IntKind.i64.wrap (1 + ((IntKind.i64.wrap n1).tmod 90)))) rfl rfl ⟨rfl, rfl⟩)) (ag_cons (ag_r rfl rfl (Exec.move (v := Value.int .i64 (IntKind.i64.wrap (1 + ((IntKind.i64.wrap m2).tmod 90)))) rfl rfl ⟨rfl, rfl⟩)) ag_nil))), ?_⟩
        refine DL_q rfl rfl (Exec.build rfl (parts_cons (c := [Value.int .i64 (IntKind.i64.wrap (1 + ((IntKind.i64.wrap m2).tmod 90)))]) (cells_of rfl rfl) (parts_cons (c := [v27414]) (cells_of rfl (cells_one (hS27416).arr_one)) parts_nil)) (v := Value.agg #[Value.int .i64 (IntKind.i64.wrap (1 + ((IntKind.i64.wrap m2).tmod 90))), Value.int .i64 (0), Value.slice none 0 0, Value.slice none 0 0, v27414]) (fun _ => by kernel_rfl) ⟨rfl, ?_⟩)
        refine DL_e rfl rfl (Exec.make (E := encBool) hS27416 S24 Z4 rfl rfl rfl rfl q26487 ?_)
        intro v27417 w27418 hS27419
        refine ⟨(ag_cons (ag_r rfl rfl (Exec.move (v := Value.int .i64 (IntKind.i64.wrap (1 + ((IntKind.i64.wrap n1).tmod 90)))) rfl rfl ⟨rfl, rfl⟩)) (ag_cons (ag_r rfl rfl (Exec.move (v := Value.int .i64 (IntKind.i64.wrap (1 + ((IntKind.i64.wrap m2).tmod 90)))) rfl rfl ⟨rfl, rfl⟩)) (ag_cons (ag_r rfl rfl (Exec.build rfl (parts_cons (c := [Value.int .i64 (IntKind.i64.wrap (1 + ((IntKind.i64.wrap m2).tmod 90)))]) (cells_of rfl rfl) (parts_cons (c := [v27414]) (cells_of rfl (cells_one ((hS27419).f1).arr_one)) parts_nil)) (v := Value.agg #[Value.int .i64 (IntKind.i64.wrap (1 + ((IntKind.i64.wrap m2).tmod 90))), Value.int .i64 (0), Value.slice none 0 0, Value.slice none 0 0, v27414]) (fun _ => by kernel_rfl) ⟨rfl, rfl⟩)) ag_nil))), ?_⟩
        refine DL_q rfl rfl (Exec.build rfl (parts_cons (c := [Value.int .i64 (IntKind.i64.wrap (1 + ((IntKind.i64.wrap n1).tmod 90)))]) (cells_of rfl rfl) (parts_cons (c := [v27417]) (cells_of rfl (cells_one (hS27419).arr_one)) parts_nil)) (v := Value.agg #[Value.int .i64 (IntKind.i64.wrap (1 + ((IntKind.i64.wrap n1).tmod 90))), Value.int .i64 (0), Value.slice none 0 0, Value.slice none 0 0, v27417]) (fun _ => by kernel_rfl) ⟨rfl, ?_⟩)
        have hS27420 := (hS27419).f3
        refine DL_e rfl rfl (Exec.store_box (ds := [Value.int .i64 (IntKind.i64.wrap (1 + ((IntKind.i64.wrap n1).tmod 90))), Value.int .i64 (0), Value.slice none 0 0, Value.slice none 0 0, v27417]) (es := [Value.int .i64 (IntKind.i64.wrap (1 + ((IntKind.i64.wrap n1).tmod 90))), Value.int .i64 (0), Value.slice none 0 0, Value.slice none 0 0, v27417]) hS27420 A26 rfl rfl rfl rfl (one_cons rfl (one_cons rfl (one_cons rfl (one_cons rfl (one_cons ((hS27420).f1).arr_one one_nil))))) (Nat.le_of_ble_eq_true rfl) rfl ?_)
        intro w27421 hS27422
        refine ⟨(ag_cons (ag_r rfl rfl (Exec.move (v := Value.int .i64 (IntKind.i64.wrap (1 + ((IntKind.i64.wrap m2).tmod 90)))) rfl rfl ⟨rfl, rfl⟩)) (ag_cons (ag_r rfl rfl (Exec.build rfl (parts_cons (c := [Value.int .i64 (IntKind.i64.wrap (1 + ((IntKind.i64.wrap m2).tmod 90)))]) (cells_of rfl rfl) (parts_cons (c := [v27414]) (cells_of rfl (cells_one ((hS27422).f2).arr_one)) parts_nil)) (v := Value.agg #[Value.int .i64 (IntKind.i64.wrap (1 + ((IntKind.i64.wrap m2).tmod 90))), Value.int .i64 (0), Value.slice none 0 0, Value.slice none 0 0, v27414]) (fun _ => by kernel_rfl) ⟨rfl, rfl⟩)) ag_nil)), ?_⟩
        refine DL_done ?_
        have hS27423 := (hS27422).f3
        refine WL_step rfl rfl (Exec.store_box (ds := [Value.int .i64 (IntKind.i64.wrap (1 + ((IntKind.i64.wrap m2).tmod 90))), Value.int .i64 (0), Value.slice none 0 0, Value.slice none 0 0, v27414]) (es := [Value.int .i64 (IntKind.i64.wrap (1 + ((IntKind.i64.wrap m2).tmod 90))), Value.int .i64 (0), Value.slice none 0 0, Value.slice none 0 0, v27414]) hS27423 A26 rfl rfl rfl rfl (one_cons rfl (one_cons rfl (one_cons rfl (one_cons rfl (one_cons ((hS27423).f3).arr_one one_nil))))) (Nat.le_of_ble_eq_true rfl) rfl ?_)
        intro w27424 hS27425
        refine WL_nil (at_normal ?_)
        have hS27426 := (hS27425).f3
        have hS27427 := (hS27426).f3
        have hS27428 := (hS27427).f2
        have hS27429 := (hS27428).f3
        exact ⟨s26479, b27296, b27382, v27417, v27414, (PHeap.le_refl _), hS27429, rfl, rfl, rfl, rfl⟩
      refine DL_e rfl rfl (Exec.alloc (cs := [Value.int .i64 (0), Value.int .i64 (0), Value.slice none 0 0, Value.slice none 0 0, Value.slice none 0 0]) hS27058 Z26 rfl rfl ?_)
      intro b27430 w27431 hS27432
      refine ⟨(ag_cons (ag_r rfl rfl (Exec.move (v := Value.int .i64 (IntKind.i64.wrap (1 + ((IntKind.i64.wrap n1).tmod 90)))) rfl rfl ⟨rfl, rfl⟩)) (ag_cons (ag_r rfl rfl (Exec.move (v := Value.int .i64 (IntKind.i64.wrap (1 + ((IntKind.i64.wrap n1).tmod 90)))) rfl rfl ⟨rfl, rfl⟩)) (ag_cons (ag_r rfl rfl (Exec.move (v := Value.int .i64 (IntKind.i64.wrap (1 + ((IntKind.i64.wrap m2).tmod 90)))) rfl rfl ⟨rfl, rfl⟩)) (ag_cons (ag_r rfl rfl (Exec.move (v := Value.int .i64 (IntKind.i64.wrap (1 + ((IntKind.i64.wrap m2).tmod 90)))) rfl rfl ⟨rfl, rfl⟩)) ag_nil)))), ?_⟩
      refine DL_alt ?_ ?_
      · refine DL_e rfl rfl (Exec.make (E := encBool) hS27432 S24 Z4 rfl rfl rfl rfl q26487 ?_)
        intro v27433 w27434 hS27435
        refine ⟨(ag_cons (ag_r rfl rfl (Exec.move (v := Value.int .i64 (IntKind.i64.wrap (1 + ((IntKind.i64.wrap n1).tmod 90)))) rfl rfl ⟨rfl, rfl⟩)) (ag_cons (ag_r rfl rfl (Exec.move (v := Value.int .i64 (IntKind.i64.wrap (1 + ((IntKind.i64.wrap m2).tmod 90)))) rfl rfl ⟨rfl, rfl⟩)) (ag_cons (ag_r rfl rfl (Exec.move (v := Value.int .i64 (IntKind.i64.wrap (1 + ((IntKind.i64.wrap m2).tmod 90)))) rfl rfl ⟨rfl, rfl⟩)) ag_nil))), ?_⟩
        refine DL_q rfl rfl (Exec.build rfl (parts_cons (c := [Value.int .i64 (IntKind.i64.wrap (1 + ((IntKind.i64.wrap n1).tmod 90)))]) (cells_of rfl rfl) (parts_cons (c := [v27433]) (cells_of rfl (cells_one (hS27435).arr_one)) parts_nil)) (v := Value.agg #[Value.int .i64 (IntKind.i64.wrap (1 + ((IntKind.i64.wrap n1).tmod 90))), Value.int .i64 (0), Value.slice none 0 0, Value.slice none 0 0, v27433]) (fun _ => by kernel_rfl) ⟨rfl, ?_⟩)
        refine DL_alt ?_ ?_
        · refine DL_e rfl rfl (Exec.make (E := encBool) hS27435 S24 Z4 rfl rfl rfl rfl q26492 ?_)
          intro v27436 w27437 hS27438
          refine ⟨(ag_cons (ag_r rfl rfl (Exec.move (v := Value.int .i64 (IntKind.i64.wrap (1 + ((IntKind.i64.wrap n1).tmod 90)))) rfl rfl ⟨rfl, rfl⟩)) (ag_cons (ag_r rfl rfl (Exec.move (v := Value.int .i64 (IntKind.i64.wrap (1 + ((IntKind.i64.wrap m2).tmod 90)))) rfl rfl ⟨rfl, rfl⟩)) (ag_cons (ag_r rfl rfl (Exec.build rfl (parts_cons (c := [Value.int .i64 (IntKind.i64.wrap (1 + ((IntKind.i64.wrap n1).tmod 90)))]) (cells_of rfl rfl) (parts_cons (c := [v27433]) (cells_of rfl (cells_one ((hS27438).f1).arr_one)) parts_nil)) (v := Value.agg #[Value.int .i64 (IntKind.i64.wrap (1 + ((IntKind.i64.wrap n1).tmod 90))), Value.int .i64 (0), Value.slice none 0 0, Value.slice none 0 0, v27433]) (fun _ => by kernel_rfl) ⟨rfl, rfl⟩)) ag_nil))), ?_⟩
          refine DL_q rfl rfl (Exec.build rfl (parts_cons (c := [Value.int .i64 (IntKind.i64.wrap (1 + ((IntKind.i64.wrap m2).tmod 90)))]) (cells_of rfl rfl) (parts_cons (c := [v27436]) (cells_of rfl (cells_one (hS27438).arr_one)) parts_nil)) (v := Value.agg #[Value.int .i64 (IntKind.i64.wrap (1 + ((IntKind.i64.wrap m2).tmod 90))), Value.int .i64 (0), Value.slice none 0 0, Value.slice none 0 0, v27436]) (fun _ => by kernel_rfl) ⟨rfl, ?_⟩)
          refine DL_e rfl rfl (Exec.alloc (cs := [Value.int .i64 (0), Value.int .i64 (0), Value.slice none 0 0, Value.slice none 0 0, Value.slice none 0 0]) hS27438 Z26 rfl rfl ?_)
          intro b27439 w27440 hS27441
          refine ⟨(ag_cons (ag_r rfl rfl (Exec.move (v := Value.int .i64 (IntKind.i64.wrap (1 + ((IntKind.i64.wrap n1).tmod 90)))) rfl rfl ⟨rfl, rfl⟩)) (ag_cons (ag_r rfl rfl (Exec.move (v := Value.int .i64 (IntKind.i64.wrap (1 + ((IntKind.i64.wrap m2).tmod 90)))) rfl rfl ⟨rfl, rfl⟩)) (ag_cons (ag_r rfl rfl (Exec.build rfl (parts_cons (c := [Value.int .i64 (IntKind.i64.wrap (1 + ((IntKind.i64.wrap n1).tmod 90)))]) (cells_of rfl rfl) (parts_cons (c := [v27433]) (cells_of rfl (cells_one ((hS27441).f2).arr_one)) parts_nil)) (v := Value.agg #[Value.int .i64 (IntKind.i64.wrap (1 + ((IntKind.i64.wrap n1).tmod 90))), Value.int .i64 (0), Value.slice none 0 0, Value.slice none 0 0, v27433]) (fun _ => by kernel_rfl) ⟨rfl, rfl⟩)) (ag_cons (ag_r rfl rfl (Exec.build rfl (parts_cons (c := [Value.int .i64 (IntKind.i64.wrap (1 + ((IntKind.i64.wrap m2).tmod 90)))]) (cells_of rfl rfl) (parts_cons (c := [v27436]) (cells_of rfl (cells_one ((hS27441).f1).arr_one)) parts_nil)) (v := Value.agg #[Value.int .i64 (IntKind.i64.wrap (1 + ((IntKind.i64.wrap m2).tmod 90))), Value.int .i64 (0), Value.slice none 0 0, Value.slice none 0 0, v27436]) (fun _ => by kernel_rfl) ⟨rfl, rfl⟩)) ag_nil)))), ?_⟩
          refine DL_e rfl rfl (Exec.store_box (ds := [Value.int .i64 (IntKind.i64.wrap (1 + ((IntKind.i64.wrap n1).tmod 90))), Value.int .i64 (0), Value.slice none 0 0, Value.slice none 0 0, v27433]) (es := [Value.int .i64 (IntKind.i64.wrap (1 + ((IntKind.i64.wrap n1).tmod 90))), Value.int .i64 (0), Value.slice none 0 0, Value.slice none 0 0, v27433]) hS27441 A26 rfl rfl rfl rfl (one_cons rfl (one_cons rfl (one_cons rfl (one_cons rfl (one_cons ((hS27441).f2).arr_one one_nil))))) (Nat.le_of_ble_eq_true rfl) rfl ?_)
          intro w27442 hS27443
          refine ⟨(ag_cons (ag_r rfl rfl (Exec.move (v := Value.int .i64 (IntKind.i64.wrap (1 + ((IntKind.i64.wrap m2).tmod 90)))) rfl rfl ⟨rfl, rfl⟩)) (ag_cons (ag_r rfl rfl (Exec.build rfl (parts_cons (c := [Value.int .i64 (IntKind.i64.wrap (1 + ((IntKind.i64.wrap m2).tmod 90)))]) (cells_of rfl rfl) (parts_cons (c := [v27436]) (cells_of rfl (cells_one ((hS27443).f1).arr_one)) parts_nil)) (v := Value.agg #[Value.int .i64 (IntKind.i64.wrap (1 + ((IntKind.i64.wrap m2).tmod 90))), Value.int .i64 (0), Value.slice none 0 0, Value.slice none 0 0, v27436]) (fun _ => by kernel_rfl) ⟨rfl, rfl⟩)) ag_nil)), ?_⟩
          refine DL_done ?_
          have hS27444 := (hS27443).f3
          refine WL_step rfl rfl (Exec.store_box (ds := [Value.int .i64 (IntKind.i64.wrap (1 + ((IntKind.i64.wrap m2).tmod 90))), Value.int .i64 (0), Value.slice none 0 0, Value.slice none 0 0, v27436]) (es := [Value.int .i64 (IntKind.i64.wrap (1 + ((IntKind.i64.wrap m2).tmod 90))), Value.int .i64 (0), Value.slice none 0 0, Value.slice none 0 0, v27436]) hS27444 A26 rfl rfl rfl rfl (one_cons rfl (one_cons rfl (one_cons rfl (one_cons rfl (one_cons ((hS27444).f2).arr_one one_nil))))) (Nat.le_of_ble_eq_true rfl) rfl ?_)
          intro w27445 hS27446
          refine WL_nil (at_normal ?_)
          have hS27447 := (hS27446).f2
          have hS27448 := (hS27447).f3
          have hS27449 := (hS27448).f2
          have hS27450 := (hS27449).f3
          exact ⟨s26479, b27439, b27430, v27433, v27436, (PHeap.le_refl _), hS27450, rfl, rfl, rfl, rfl⟩
        refine DL_e rfl rfl (Exec.alloc (cs := [Value.int .i64 (0), Value.int .i64 (0), Value.slice none 0 0, Value.slice none 0 0, Value.slice none 0 0]) hS27435 Z26 rfl rfl ?_)
        intro b27451 w27452 hS27453
        refine ⟨(ag_cons (ag_r rfl rfl (Exec.move (v := Value.int .i64 (IntKind.i64.wrap (1 + ((IntKind.i64.wrap n1).tmod 90)))) rfl rfl ⟨rfl, rfl⟩)) (ag_cons (ag_r rfl rfl (Exec.move (v := Value.int .i64 (IntKind.i64.wrap (1 + ((IntKind.i64.wrap m2).tmod 90)))) rfl rfl ⟨rfl, rfl⟩)) (ag_cons (ag_r rfl rfl (Exec.move (v := Value.int .i64 (IntKind.i64.wrap (1 + ((IntKind.i64.wrap m2).tmod 90)))) rfl rfl ⟨rfl, rfl⟩)) (ag_cons (ag_r rfl rfl (Exec.build rfl (parts_cons (c := [Value.int .i64 (IntKind.i64.wrap (1 + ((IntKind.i64.wrap n1).tmod 90)))]) (cells_of rfl rfl) (parts_cons (c := [v27433]) (cells_of rfl (cells_one ((hS27453).f1).arr_one)) parts_nil)) (v := Value.agg #[Value.int .i64 (IntKind.i64.wrap (1 + ((IntKind.i64.wrap n1).tmod 90))), Value.int .i64 (0), Value.slice none 0 0, Value.slice none 0 0, v27433]) (fun _ => by kernel_rfl) ⟨rfl, rfl⟩)) ag_nil)))), ?_⟩
        refine DL_alt ?_ ?_
        · refine DL_e rfl rfl (Exec.make (E := encBool) hS27453 S24 Z4 rfl rfl rfl rfl q26492 ?_)
          intro v27454 w27455 hS27456
          refine ⟨(ag_cons (ag_r rfl rfl (Exec.move (v := Value.int .i64 (IntKind.i64.wrap (1 + ((IntKind.i64.wrap n1).tmod 90)))) rfl rfl ⟨rfl, rfl⟩)) (ag_cons (ag_r rfl rfl (Exec.move (v := Value.int .i64 (IntKind.i64.wrap (1 + ((IntKind.i64.wrap m2).tmod 90)))) rfl rfl ⟨rfl, rfl⟩)) (ag_cons (ag_r rfl rfl (Exec.build rfl (parts_cons (c := [Value.int .i64 (IntKind.i64.wrap (1 + ((IntKind.i64.wrap n1).tmod 90)))]) (cells_of rfl rfl) (parts_cons (c := [v27433]) (cells_of rfl (cells_one ((hS27456).f2).arr_one)) parts_nil)) (v := Value.agg #[Value.int .i64 (IntKind.i64.wrap (1 + ((IntKind.i64.wrap n1).tmod 90))), Value.int .i64 (0), Value.slice none 0 0, Value.slice none 0 0, v27433]) (fun _ => by kernel_rfl) ⟨rfl, rfl⟩)) ag_nil))), ?_⟩
          refine DL_q rfl rfl (Exec.build rfl (parts_cons (c := [Value.int .i64 (IntKind.i64.wrap (1 + ((IntKind.i64.wrap m2).tmod 90)))]) (cells_of rfl rfl) (parts_cons (c := [v27454]) (cells_of rfl (cells_one (hS27456).arr_one)) parts_nil)) (v := Value.agg #[Value.int .i64 (IntKind.i64.wrap (1 + ((IntKind.i64.wrap m2).tmod 90))), Value.int .i64 (0), Value.slice none 0 0, Value.slice none 0 0, v27454]) (fun _ => by kernel_rfl) ⟨rfl, ?_⟩)
          have hS27457 := (hS27456).f1
          refine DL_e rfl rfl (Exec.store_box (ds := [Value.int .i64 (IntKind.i64.wrap (1 + ((IntKind.i64.wrap n1).tmod 90))), Value.int .i64 (0), Value.slice none 0 0, Value.slice none 0 0, v27433]) (es := [Value.int .i64 (IntKind.i64.wrap (1 + ((IntKind.i64.wrap n1).tmod 90))), Value.int .i64 (0), Value.slice none 0 0, Value.slice none 0 0, v27433]) hS27457 A26 rfl rfl rfl rfl (one_cons rfl (one_cons rfl (one_cons rfl (one_cons rfl (one_cons ((hS27457).f2).arr_one one_nil))))) (Nat.le_of_ble_eq_true rfl) rfl ?_)
          intro w27458 hS27459
          refine ⟨(ag_cons (ag_r rfl rfl (Exec.move (v := Value.int .i64 (IntKind.i64.wrap (1 + ((IntKind.i64.wrap m2).tmod 90)))) rfl rfl ⟨rfl, rfl⟩)) (ag_cons (ag_r rfl rfl (Exec.build rfl (parts_cons (c := [Value.int .i64 (IntKind.i64.wrap (1 + ((IntKind.i64.wrap m2).tmod 90)))]) (cells_of rfl rfl) (parts_cons (c := [v27454]) (cells_of rfl (cells_one ((hS27459).f1).arr_one)) parts_nil)) (v := Value.agg #[Value.int .i64 (IntKind.i64.wrap (1 + ((IntKind.i64.wrap m2).tmod 90))), Value.int .i64 (0), Value.slice none 0 0, Value.slice none 0 0, v27454]) (fun _ => by kernel_rfl) ⟨rfl, rfl⟩)) ag_nil)), ?_⟩
          refine DL_done ?_
          have hS27460 := (hS27459).f3
          refine WL_step rfl rfl (Exec.store_box (ds := [Value.int .i64 (IntKind.i64.wrap (1 + ((IntKind.i64.wrap m2).tmod 90))), Value.int .i64 (0), Value.slice none 0 0, Value.slice none 0 0, v27454]) (es := [Value.int .i64 (IntKind.i64.wrap (1 + ((IntKind.i64.wrap m2).tmod 90))), Value.int .i64 (0), Value.slice none 0 0, Value.slice none 0 0, v27454]) hS27460 A26 rfl rfl rfl rfl (one_cons rfl (one_cons rfl (one_cons rfl (one_cons rfl (one_cons ((hS27460).f2).arr_one one_nil))))) (Nat.le_of_ble_eq_true rfl) rfl ?_)
          intro w27461 hS27462
          refine WL_nil (at_normal ?_)
          have hS27463 := (hS27462).f2
          have hS27464 := (hS27463).f3
          have hS27465 := (hS27464).f2
          have hS27466 := (hS27465).f3
          exact ⟨s26479, b27451, b27430, v27433, v27454, (PHeap.le_refl _), hS27466, rfl, rfl, rfl, rfl⟩
        refine DL_e rfl rfl (Exec.store_box (ds := [Value.int .i64 (IntKind.i64.wrap (1 + ((IntKind.i64.wrap n1).tmod 90))), Value.int .i64 (0), Value.slice none 0 0, Value.slice none 0 0, v27433]) (es := [Value.int .i64 (IntKind.i64.wrap (1 + ((IntKind.i64.wrap n1).tmod 90))), Value.int .i64 (0), Value.slice none 0 0, Value.slice none 0 0, v27433]) hS27453 A26 rfl rfl rfl rfl (one_cons rfl (one_cons rfl (one_cons rfl (one_cons rfl (one_cons ((hS27453).f1).arr_one one_nil))))) (Nat.le_of_ble_eq_true rfl) rfl ?_)
        intro w27467 hS27468
        refine ⟨(ag_cons (ag_r rfl rfl (Exec.move (v := Value.int .i64 (IntKind.i64.wrap (1 + ((IntKind.i64.wrap m2).tmod 90)))) rfl rfl ⟨rfl, rfl⟩)) (ag_cons (ag_r rfl rfl (Exec.move (v := Value.int .i64 (IntKind.i64.wrap (1 + ((IntKind.i64.wrap m2).tmod 90)))) rfl rfl ⟨rfl, rfl⟩)) ag_nil)), ?_⟩
        refine DL_e rfl rfl (Exec.make (E := encBool) hS27468 S24 Z4 rfl rfl rfl rfl q26492 ?_)
        intro v27469 w27470 hS27471
        refine ⟨(ag_cons (ag_r rfl rfl (Exec.move (v := Value.int .i64 (IntKind.i64.wrap (1 + ((IntKind.i64.wrap m2).tmod 90)))) rfl rfl ⟨rfl, rfl⟩)) ag_nil), ?_⟩
        refine DL_q rfl rfl (Exec.build rfl (parts_cons (c := [Value.int .i64 (IntKind.i64.wrap (1 + ((IntKind.i64.wrap m2).tmod 90)))]) (cells_of rfl rfl) (parts_cons (c := [v27469]) (cells_of rfl (cells_one (hS27471).arr_one)) parts_nil)) (v := Value.agg #[Value.int .i64 (IntKind.i64.wrap (1 + ((IntKind.i64.wrap m2).tmod 90))), Value.int .i64 (0), Value.slice none 0 0, Value.slice none 0 0, v27469]) (fun _ => by kernel_rfl) ⟨rfl, ?_⟩)
        refine DL_done ?_
        have hS27472 := (hS27471).f3
        refine WL_step rfl rfl (Exec.store_box (ds := [Value.int .i64 (IntKind.i64.wrap (1 + ((IntKind.i64.wrap m2).tmod 90))), Value.int .i64 (0), Value.slice none 0 0, Value.slice none 0 0, v27469]) (es := [Value.int .i64 (IntKind.i64.wrap (1 + ((IntKind.i64.wrap m2).tmod 90))), Value.int .i64 (0), Value.slice none 0 0, Value.slice none 0 0, v27469]) hS27472 A26 rfl rfl rfl rfl (one_cons rfl (one_cons rfl (one_cons rfl (one_cons rfl (one_cons ((hS27472).f1).arr_one one_nil))))) (Nat.le_of_ble_eq_true rfl) rfl ?_)
        intro w27473 hS27474
        refine WL_nil (at_normal ?_)
        have hS27475 := (hS27474).f1
        have hS27476 := (hS27475).f3
        have hS27477 := (hS27476).f2
        have hS27478 := (hS27477).f3
        exact ⟨s26479, b27451, b27430, v27433, v27469, (PHeap.le_refl _), hS27478, rfl, rfl, rfl, rfl⟩
      refine DL_alt ?_ ?_
      · refine DL_e rfl rfl (Exec.make (E := encBool) hS27432 S24 Z4 rfl rfl rfl rfl q26492 ?_)
        intro v27479 w27480 hS27481
        refine ⟨(ag_cons (ag_r rfl rfl (Exec.move (v := Value.int .i64 (IntKind.i64.wrap (1 + ((IntKind.i64.wrap n1).tmod 90)))) rfl rfl ⟨rfl, rfl⟩)) (ag_cons (ag_r rfl rfl (Exec.move (v := Value.int .i64 (IntKind.i64.wrap (1 + ((IntKind.i64.wrap n1).tmod 90)))) rfl rfl ⟨rfl, rfl⟩)) (ag_cons (ag_r rfl rfl (Exec.move (v := Value.int .i64 (IntKind.i64.wrap (1 + ((IntKind.i64.wrap m2).tmod 90)))) rfl rfl ⟨rfl, rfl⟩)) ag_nil))), ?_⟩
        refine DL_q rfl rfl (Exec.build rfl (parts_cons (c := [Value.int .i64 (IntKind.i64.wrap (1 + ((IntKind.i64.wrap m2).tmod 90)))]) (cells_of rfl rfl) (parts_cons (c := [v27479]) (cells_of rfl (cells_one (hS27481).arr_one)) parts_nil)) (v := Value.agg #[Value.int .i64 (IntKind.i64.wrap (1 + ((IntKind.i64.wrap m2).tmod 90))), Value.int .i64 (0), Value.slice none 0 0, Value.slice none 0 0, v27479]) (fun _ => by kernel_rfl) ⟨rfl, ?_⟩)
        refine DL_alt ?_ ?_
        · refine DL_e rfl rfl (Exec.make (E := encBool) hS27481 S24 Z4 rfl rfl rfl rfl q26487 ?_)
          intro v27482 w27483 hS27484
          refine ⟨(ag_cons (ag_r rfl rfl (Exec.move (v := Value.int .i64 (IntKind.i64.wrap (1 + ((IntKind.i64.wrap n1).tmod 90)))) rfl rfl ⟨rfl, rfl⟩)) (ag_cons (ag_r rfl rfl (Exec.move (v := Value.int .i64 (IntKind.i64.wrap (1 + ((IntKind.i64.wrap m2).tmod 90)))) rfl rfl ⟨rfl, rfl⟩)) (ag_cons (ag_r rfl rfl (Exec.build rfl (parts_cons (c := [Value.int .i64 (IntKind.i64.wrap (1 + ((IntKind.i64.wrap m2).tmod 90)))]) (cells_of rfl rfl) (parts_cons (c := [v27479]) (cells_of rfl (cells_one ((hS27484).f1).arr_one)) parts_nil)) (v := Value.agg #[Value.int .i64 (IntKind.i64.wrap (1 + ((IntKind.i64.wrap m2).tmod 90))), Value.int .i64 (0), Value.slice none 0 0, Value.slice none 0 0, v27479]) (fun _ => by kernel_rfl) ⟨rfl, rfl⟩)) ag_nil))), ?_⟩
          refine DL_q rfl rfl (Exec.build rfl (parts_cons (c := [Value.int .i64 (IntKind.i64.wrap (1 + ((IntKind.i64.wrap n1).tmod 90)))]) (cells_of rfl rfl) (parts_cons (c := [v27482]) (cells_of rfl (cells_one (hS27484).arr_one)) parts_nil)) (v := Value.agg #[Value.int .i64 (IntKind.i64.wrap (1 + ((IntKind.i64.wrap n1).tmod 90))), Value.int .i64 (0), Value.slice none 0 0, Value.slice none 0 0, v27482]) (fun _ => by kernel_rfl) ⟨rfl, ?_⟩)
          refine DL_e rfl rfl (Exec.alloc (cs := [Value.int .i64 (0), Value.int .i64 (0), Value.slice none 0 0, Value.slice none 0 0, Value.slice none 0 0]) hS27484 Z26 rfl rfl ?_)
          intro b27485 w27486 hS27487
          refine ⟨(ag_cons (ag_r rfl rfl (Exec.move (v := Value.int .i64 (IntKind.i64.wrap (1 + ((IntKind.i64.wrap n1).tmod 90)))) rfl rfl ⟨rfl, rfl⟩)) (ag_cons (ag_r rfl rfl (Exec.move (v := Value.int .i64 (IntKind.i64.wrap (1 + ((IntKind.i64.wrap m2).tmod 90)))) rfl rfl ⟨rfl, rfl⟩)) (ag_cons (ag_r rfl rfl (Exec.build rfl (parts_cons (c := [Value.int .i64 (IntKind.i64.wrap (1 + ((IntKind.i64.wrap m2).tmod 90)))]) (cells_of rfl rfl) (parts_cons (c := [v27479]) (cells_of rfl (cells_one ((hS27487).f2).arr_one)) parts_nil)) (v := Value.agg #[Value.int .i64 (IntKind.i64.wrap (1 + ((IntKind.i64.wrap m2).tmod 90))), Value.int .i64 (0), Value.slice none 0 0, Value.slice none 0 0, v27479]) (fun _ => by kernel_rfl) ⟨rfl, rfl⟩)) (ag_cons (ag_r rfl rfl (Exec.build rfl (parts_cons (c := [Value.int .i64 (IntKind.i64.wrap (1 + ((IntKind.i64.wrap n1).tmod 90)))]) (cells_of rfl rfl) (parts_cons (c := [v27482]) (cells_of rfl (cells_one ((hS27487).f1).arr_one)) parts_nil)) (v := Value.agg #[Value.int .i64 (IntKind.i64.wrap (1 + ((IntKind.i64.wrap n1).tmod 90))), Value.int .i64 (0), Value.slice none 0 0, Value.slice none 0 0, v27482]) (fun _ => by kernel_rfl) ⟨rfl, rfl⟩)) ag_nil)))), ?_⟩
          refine DL_e rfl rfl (Exec.store_box (ds := [Value.int .i64 (IntKind.i64.wrap (1 + ((IntKind.i64.wrap n1).tmod 90))), Value.int .i64 (0), Value.slice none 0 0, Value.slice none 0 0, v27482]) (es := [Value.int .i64 (IntKind.i64.wrap (1 + ((IntKind.i64.wrap n1).tmod 90))), Value.int .i64 (0), Value.slice none 0 0, Value.slice none 0 0, v27482]) hS27487 A26 rfl rfl rfl rfl (one_cons rfl (one_cons rfl (one_cons rfl (one_cons rfl (one_cons ((hS27487).f1).arr_one one_nil))))) (Nat.le_of_ble_eq_true rfl) rfl ?_)
          intro w27488 hS27489
          refine ⟨(ag_cons (ag_r rfl rfl (Exec.move (v := Value.int .i64 (IntKind.i64.wrap (1 + ((IntKind.i64.wrap m2).tmod 90)))) rfl rfl ⟨rfl, rfl⟩)) (ag_cons (ag_r rfl rfl (Exec.build rfl (parts_cons (c := [Value.int .i64 (IntKind.i64.wrap (1 + ((IntKind.i64.wrap m2).tmod 90)))]) (cells_of rfl rfl) (parts_cons (c := [v27479]) (cells_of rfl (cells_one ((hS27489).f2).arr_one)) parts_nil)) (v := Value.agg #[Value.int .i64 (IntKind.i64.wrap (1 + ((IntKind.i64.wrap m2).tmod 90))), Value.int .i64 (0), Value.slice none 0 0, Value.slice none 0 0, v27479]) (fun _ => by kernel_rfl) ⟨rfl, rfl⟩)) ag_nil)), ?_⟩
          refine DL_done ?_
          have hS27490 := (hS27489).f3
          refine WL_step rfl rfl (Exec.store_box (ds := [Value.int .i64 (IntKind.i64.wrap (1 + ((IntKind.i64.wrap m2).tmod 90))), Value.int .i64 (0), Value.slice none 0 0, Value.slice none 0 0, v27479]) (es := [Value.int .i64 (IntKind.i64.wrap (1 + ((IntKind.i64.wrap m2).tmod 90))), Value.int .i64 (0), Value.slice none 0 0, Value.slice none 0 0, v27479]) hS27490 A26 rfl rfl rfl rfl (one_cons rfl (one_cons rfl (one_cons rfl (one_cons rfl (one_cons ((hS27490).f3).arr_one one_nil))))) (Nat.le_of_ble_eq_true rfl) rfl ?_)
          intro w27491 hS27492
          refine WL_nil (at_normal ?_)
          have hS27493 := (hS27492).f3
          have hS27494 := (hS27493).f3
          have hS27495 := (hS27494).f2
          have hS27496 := (hS27495).f3
          exact ⟨s26479, b27485, b27430, v27482, v27479, (PHeap.le_refl _), hS27496, rfl, rfl, rfl, rfl⟩
        refine DL_e rfl rfl (Exec.alloc (cs := [Value.int .i64 (0), Value.int .i64 (0), Value.slice none 0 0, Value.slice none 0 0, Value.slice none 0 0]) hS27481 Z26 rfl rfl ?_)
        intro b27497 w27498 hS27499
        refine ⟨(ag_cons (ag_r rfl rfl (Exec.move (v := Value.int .i64 (IntKind.i64.wrap (1 + ((IntKind.i64.wrap n1).tmod 90)))) rfl rfl ⟨rfl, rfl⟩)) (ag_cons (ag_r rfl rfl (Exec.move (v := Value.int .i64 (IntKind.i64.wrap (1 + ((IntKind.i64.wrap n1).tmod 90)))) rfl rfl ⟨rfl, rfl⟩)) (ag_cons (ag_r rfl rfl (Exec.move (v := Value.int .i64 (IntKind.i64.wrap (1 + ((IntKind.i64.wrap m2).tmod 90)))) rfl rfl ⟨rfl, rfl⟩)) (ag_cons (ag_r rfl rfl (Exec.build rfl (parts_cons (c := [Value.int .i64 (IntKind.i64.wrap (1 + ((IntKind.i64.wrap m2).tmod 90)))]) (cells_of rfl rfl) (parts_cons (c := [v27479]) (cells_of rfl (cells_one ((hS27499).f1).arr_one)) parts_nil)) (v := Value.agg #[Value.int .i64 (IntKind.i64.wrap (1 + ((IntKind.i64.wrap m2).tmod 90))), Value.int .i64 (0), Value.slice none 0 0, Value.slice none 0 0, v27479]) (fun _ => by kernel_rfl) ⟨rfl, rfl⟩)) ag_nil)))), ?_⟩
        refine DL_e rfl rfl (Exec.make (E := encBool) hS27499 S24 Z4 rfl rfl rfl rfl q26487 ?_)
        intro v27500 w27501 hS27502
        refine ⟨(ag_cons (ag_r rfl rfl (Exec.move (v := Value.int .i64 (IntKind.i64.wrap (1 + ((IntKind.i64.wrap n1).tmod 90)))) rfl rfl ⟨rfl, rfl⟩)) (ag_cons (ag_r rfl rfl (Exec.move (v := Value.int .i64 (IntKind.i64.wrap (1 + ((IntKind.i64.wrap m2).tmod 90)))) rfl rfl ⟨rfl, rfl⟩)) (ag_cons (ag_r rfl rfl (Exec.build rfl (parts_cons (c := [Value.int .i64 (IntKind.i64.wrap (1 + ((IntKind.i64.wrap m2).tmod 90)))]) (cells_of rfl rfl) (parts_cons (c := [v27479]) (cells_of rfl (cells_one ((hS27502).f2).arr_one)) parts_nil)) (v := Value.agg #[Value.int .i64 (IntKind.i64.wrap (1 + ((IntKind.i64.wrap m2).tmod 90))), Value.int .i64 (0), Value.slice none 0 0, Value.slice none 0 0, v27479]) (fun _ => by kernel_rfl) ⟨rfl, rfl⟩)) ag_nil))), ?_⟩
        refine DL_q rfl rfl (Exec.build rfl (parts_cons (c := [Value.int .i64 (IntKind.i64.wrap (1 + ((IntKind.i64.wrap n1).tmod 90)))]) (cells_of rfl rfl) (parts_cons (c := [v27500]) (cells_of rfl (cells_one (hS27502).arr_one)) parts_nil)) (v := Value.agg #[Value.int .i64 (IntKind.i64.wrap (1 + ((IntKind.i64.wrap n1).tmod 90))), Value.int .i64 (0), Value.slice none 0 0, Value.slice none 0 0, v27500]) (fun _ => by kernel_rfl) ⟨rfl, ?_⟩)
        have hS27503 := (hS27502).f1
        refine DL_e rfl rfl (Exec.store_box (ds := [Value.int .i64 (IntKind.i64.wrap (1 + ((IntKind.i64.wrap n1).tmod 90))), Value.int .i64 (0), Value.slice none 0 0, Value.slice none 0 0, v27500]) (es := [Value.int .i64 (IntKind.i64.wrap (1 + ((IntKind.i64.wrap n1).tmod 90))), Value.int .i64 (0), Value.slice none 0 0, Value.slice none 0 0, v27500]) hS27503 A26 rfl rfl rfl rfl (one_cons rfl (one_cons rfl (one_cons rfl (one_cons rfl (one_cons ((hS27503).f1).arr_one one_nil))))) (Nat.le_of_ble_eq_true rfl) rfl ?_)
        intro w27504 hS27505
        refine ⟨(ag_cons (ag_r rfl rfl (Exec.move (v := Value.int .i64 (IntKind.i64.wrap (1 + ((IntKind.i64.wrap m2).tmod 90)))) rfl rfl ⟨rfl, rfl⟩)) (ag_cons (ag_r rfl rfl (Exec.build rfl (parts_cons (c := [Value.int .i64 (IntKind.i64.wrap (1 + ((IntKind.i64.wrap m2).tmod 90)))]) (cells_of rfl rfl) (parts_cons (c := [v27479]) (cells_of rfl (cells_one ((hS27505).f2).arr_one)) parts_nil)) (v := Value.agg #[Value.int .i64 (IntKind.i64.wrap (1 + ((IntKind.i64.wrap m2).tmod 90))), Value.int .i64 (0), Value.slice none 0 0, Value.slice none 0 0, v27479]) (fun _ => by kernel_rfl) ⟨rfl, rfl⟩)) ag_nil)), ?_⟩
        refine DL_done ?_
        have hS27506 := (hS27505).f3
        refine WL_step rfl rfl (Exec.store_box (ds := [Value.int .i64 (IntKind.i64.wrap (1 + ((IntKind.i64.wrap m2).tmod 90))), Value.int .i64 (0), Value.slice none 0 0, Value.slice none 0 0, v27479]) (es := [Value.int .i64 (IntKind.i64.wrap (1 + ((IntKind.i64.wrap m2).tmod 90))), Value.int .i64 (0), Value.slice none 0 0, Value.slice none 0 0, v27479]) hS27506 A26 rfl rfl rfl rfl (one_cons rfl (one_cons rfl (one_cons rfl (one_cons rfl (one_cons ((hS27506).f3).arr_one one_nil))))) (Nat.le_of_ble_eq_true rfl) rfl ?_)
        intro w27507 hS27508
        refine WL_nil (at_normal ?_)
        have hS27509 := (hS27508).f3
        have hS27510 := (hS27509).f3
        have hS27511 := (hS27510).f2
        have hS27512 := (hS27511).f3
        exact ⟨s26479, b27497, b27430, v27500, v27479, (PHeap.le_refl _), hS27512, rfl, rfl, rfl, rfl⟩
      refine DL_e rfl rfl (Exec.alloc (cs := [Value.int .i64 (0), Value.int .i64 (0), Value.slice none 0 0, Value.slice none 0 0, Value.slice none 0 0]) hS27432 Z26 rfl rfl ?_)
      intro b27513 w27514 hS27515
      refine ⟨(ag_cons (ag_r rfl rfl (Exec.move (v := Value.int .i64 (IntKind.i64.wrap (1 + ((IntKind.i64.wrap n1).tmod 90)))) rfl rfl ⟨rfl, rfl⟩)) (ag_cons (ag_r rfl rfl (Exec.move (v := Value.int .i64 (IntKind.i64.wrap (1 + ((IntKind.i64.wrap n1).tmod 90)))) rfl rfl ⟨rfl, rfl⟩)) (ag_cons (ag_r rfl rfl (Exec.move (v := Value.int .i64 (IntKind.i64.wrap (1 + ((IntKind.i64.wrap m2).tmod 90)))) rfl rfl ⟨rfl, rfl⟩)) (ag_cons (ag_r rfl rfl (Exec.move (v := Value.int .i64 (IntKind.i64.wrap (1 + ((IntKind.i64.wrap m2).tmod 90)))) rfl rfl ⟨rfl, rfl⟩)) ag_nil)))), ?_⟩
      refine DL_alt ?_ ?_
      · refine DL_e rfl rfl (Exec.make (E := encBool) hS27515 S24 Z4 rfl rfl rfl rfl q26487 ?_)
        intro v27516 w27517 hS27518
        refine ⟨(ag_cons (ag_r rfl rfl (Exec.move (v := Value.int .i64 (IntKind.i64.wrap (1 + ((IntKind.i64.wrap n1).tmod 90)))) rfl rfl ⟨rfl, rfl⟩)) (ag_cons (ag_r rfl rfl (Exec.move (v := Value.int .i64 (IntKind.i64.wrap (1 + ((IntKind.i64.wrap m2).tmod 90)))) rfl rfl ⟨rfl, rfl⟩)) (ag_cons (ag_r rfl rfl (Exec.move (v := Value.int .i64 (IntKind.i64.wrap (1 + ((IntKind.i64.wrap m2).tmod 90)))) rfl rfl ⟨rfl, rfl⟩)) ag_nil))), ?_⟩
        refine DL_q rfl rfl (Exec.build rfl (parts_cons (c := [Value.int .i64 (IntKind.i64.wrap (1 + ((IntKind.i64.wrap n1).tmod 90)))]) (cells_of rfl rfl) (parts_cons (c := [v27516]) (cells_of rfl (cells_one (hS27518).arr_one)) parts_nil)) (v := Value.agg #[Value.int .i64 (IntKind.i64.wrap (1 + ((IntKind.i64.wrap n1).tmod 90))), Value.int .i64 (0), Value.slice none 0 0, Value.slice none 0 0, v27516]) (fun _ => by kernel_rfl) ⟨rfl, ?_⟩)
        refine DL_alt ?_ ?_
        · refine DL_e rfl rfl (Exec.make (E := encBool) hS27518 S24 Z4 rfl rfl rfl rfl q26492 ?_)
          intro v27519 w27520 hS27521
          refine ⟨(ag_cons (ag_r rfl rfl (Exec.move (v := Value.int .i64 (IntKind.i64.wrap (1 + ((IntKind.i64.wrap n1).tmod 90)))) rfl rfl ⟨rfl, rfl⟩)) (ag_cons (ag_r rfl rfl (Exec.move (v := Value.int .i64 (IntKind.i64.wrap (1 + ((IntKind.i64.wrap m2).tmod 90)))) rfl rfl ⟨rfl, rfl⟩)) (ag_cons (ag_r rfl rfl (Exec.build rfl (parts_cons (c := [Value.int .i64 (IntKind.i64.wrap (1 + ((IntKind.i64.wrap n1).tmod 90)))]) (cells_of rfl rfl) (parts_cons (c := [v27516]) (cells_of rfl (cells_one ((hS27521).f1).arr_one)) parts_nil)) (v := Value.agg #[Value.int .i64 (IntKind.i64.wrap (1 + ((IntKind.i64.wrap n1).tmod 90))), Value.int .i64 (0), Value.slice none 0 0, Value.slice none 0 0, v27516]) (fun _ => by kernel_rfl) ⟨rfl, rfl⟩)) ag_nil))), ?_⟩
          refine DL_q rfl rfl (Exec.build rfl (parts_cons (c := [Value.int .i64 (IntKind.i64.wrap (1 + ((IntKind.i64.wrap m2).tmod 90)))]) (cells_of rfl rfl) (parts_cons (c := [v27519]) (cells_of rfl (cells_one (hS27521).arr_one)) parts_nil)) (v := Value.agg #[Value.int .i64 (IntKind.i64.wrap (1 + ((IntKind.i64.wrap m2).tmod 90))), Value.int .i64 (0), Value.slice none 0 0, Value.slice none 0 0, v27519]) (fun _ => by kernel_rfl) ⟨rfl, ?_⟩)
          have hS27522 := (hS27521).f2
          refine DL_e rfl rfl (Exec.store_box (ds := [Value.int .i64 (IntKind.i64.wrap (1 + ((IntKind.i64.wrap n1).tmod 90))), Value.int .i64 (0), Value.slice none 0 0, Value.slice none 0 0, v27516]) (es := [Value.int .i64 (IntKind.i64.wrap (1 + ((IntKind.i64.wrap n1).tmod 90))), Value.int .i64 (0), Value.slice none 0 0, Value.slice none 0 0, v27516]) hS27522 A26 rfl rfl rfl rfl (one_cons rfl (one_cons rfl (one_cons rfl (one_cons rfl (one_cons ((hS27522).f2).arr_one one_nil))))) (Nat.le_of_ble_eq_true rfl) rfl ?_)
          intro w27523 hS27524
          refine ⟨(ag_cons (ag_r rfl rfl (Exec.move (v := Value.int .i64 (IntKind.i64.wrap (1 + ((IntKind.i64.wrap m2).tmod 90)))) rfl rfl ⟨rfl, rfl⟩)) (ag_cons (ag_r rfl rfl (Exec.build rfl (parts_cons (c := [Value.int .i64 (IntKind.i64.wrap (1 + ((IntKind.i64.wrap m2).tmod 90)))]) (cells_of rfl rfl) (parts_cons (c := [v27519]) (cells_of rfl (cells_one ((hS27524).f1).arr_one)) parts_nil)) (v := Value.agg #[Value.int .i64 (IntKind.i64.wrap (1 + ((IntKind.i64.wrap m2).tmod 90))), Value.int .i64 (0), Value.slice none 0 0, Value.slice none 0 0, v27519]) (fun _ => by kernel_rfl) ⟨rfl, rfl⟩)) ag_nil)), ?_⟩
          refine DL_done ?_
          have hS27525 := (hS27524).f3
          refine WL_step rfl rfl (Exec.store_box (ds := [Value.int .i64 (IntKind.i64.wrap (1 + ((IntKind.i64.wrap m2).tmod 90))), Value.int .i64 (0), Value.slice none 0 0, Value.slice none 0 0, v27519]) (es := [Value.int .i64 (IntKind.i64.wrap (1 + ((IntKind.i64.wrap m2).tmod 90))), Value.int .i64 (0), Value.slice none 0 0, Value.slice none 0 0, v27519]) hS27525 A26 rfl rfl rfl rfl (one_cons rfl (one_cons rfl (one_cons rfl (one_cons rfl (one_cons ((hS27525).f2).arr_one one_nil))))) (Nat.le_of_ble_eq_true rfl) rfl ?_)
          intro w27526 hS27527
          refine WL_nil (at_normal ?_)
          have hS27528 := (hS27527).f2
          have hS27529 := (hS27528).f3
          have hS27530 := (hS27529).f2
          have hS27531 := (hS27530).f3
          exact ⟨s26479, b27513, b27430, v27516, v27519, (PHeap.le_refl _), hS27531, rfl, rfl, rfl, rfl⟩
        have hS27532 := (hS27518).f1
        refine DL_e rfl rfl (Exec.store_box (ds := [Value.int .i64 (IntKind.i64.wrap (1 + ((IntKind.i64.wrap n1).tmod 90))), Value.int .i64 (0), Value.slice none 0 0, Value.slice none 0 0, v27516]) (es := [Value.int .i64 (IntKind.i64.wrap (1 + ((IntKind.i64.wrap n1).tmod 90))), Value.int .i64 (0), Value.slice none 0 0, Value.slice none 0 0, v27516]) hS27532 A26 rfl rfl rfl rfl (one_cons rfl (one_cons rfl (one_cons rfl (one_cons rfl (one_cons ((hS27532).f1).arr_one one_nil))))) (Nat.le_of_ble_eq_true rfl) rfl ?_)
        intro w27533 hS27534
        refine ⟨(ag_cons (ag_r rfl rfl (Exec.move (v := Value.int .i64 (IntKind.i64.wrap (1 + ((IntKind.i64.wrap m2).tmod 90)))) rfl rfl ⟨rfl, rfl⟩)) (ag_cons (ag_r rfl rfl (Exec.move (v := Value.int .i64 (IntKind.i64.wrap (1 + ((IntKind.i64.wrap m2).tmod 90)))) rfl rfl ⟨rfl, rfl⟩)) ag_nil)), ?_⟩
        refine DL_e rfl rfl (Exec.make (E := encBool) hS27534 S24 Z4 rfl rfl rfl rfl q26492 ?_)
        intro v27535 w27536 hS27537
        refine ⟨(ag_cons (ag_r rfl rfl (Exec.move (v := Value.int .i64 (IntKind.i64.wrap (1 + ((IntKind.i64.wrap m2).tmod 90)))) rfl rfl ⟨rfl, rfl⟩)) ag_nil), ?_⟩
        refine DL_q rfl rfl (Exec.build rfl (parts_cons (c := [Value.int .i64 (IntKind.i64.wrap (1 + ((IntKind.i64.wrap m2).tmod 90)))]) (cells_of rfl rfl) (parts_cons (c := [v27535]) (cells_of rfl (cells_one (hS27537).arr_one)) parts_nil)) (v := Value.agg #[Value.int .i64 (IntKind.i64.wrap (1 + ((IntKind.i64.wrap m2).tmod 90))), Value.int .i64 (0), Value.slice none 0 0, Value.slice none 0 0, v27535]) (fun _ => by kernel_rfl) ⟨rfl, ?_⟩)
        refine DL_done ?_
        have hS27538 := (hS27537).f3
        refine WL_step rfl rfl (Exec.store_box (ds := [Value.int .i64 (IntKind.i64.wrap (1 + ((IntKind.i64.wrap m2).tmod 90))), Value.int .i64 (0), Value.slice none 0 0, Value.slice none 0 0, v27535]) (es := [Value.int .i64 (IntKind.i64.wrap (1 + ((IntKind.i64.wrap m2).tmod 90))), Value.int .i64 (0), Value.slice none 0 0, Value.slice none 0 0, v27535]) hS27538 A26 rfl rfl rfl rfl (one_cons rfl (one_cons rfl (one_cons rfl (one_cons rfl (one_cons ((hS27538).f1).arr_one one_nil))))) (Nat.le_of_ble_eq_true rfl) rfl ?_)
        intro w27539 hS27540
        refine WL_nil (at_normal ?_)
        have hS27541 := (hS27540).f1
        have hS27542 := (hS27541).f3
        have hS27543 := (hS27542).f2
        have hS27544 := (hS27543).f3
        exact ⟨s26479, b27513, b27430, v27516, v27535, (PHeap.le_refl _), hS27544, rfl, rfl, rfl, rfl⟩
      refine DL_e rfl rfl (Exec.make (E := encBool) hS27515 S24 Z4 rfl rfl rfl rfl q26492 ?_)
      intro v27545 w27546 hS27547
      refine ⟨(ag_cons (ag_r rfl rfl (Exec.move (v := Value.int .i64 (IntKind.i64.wrap (1 + ((IntKind.i64.wrap n1).tmod 90)))) rfl rfl ⟨rfl, rfl⟩)) (ag_cons (ag_r rfl rfl (Exec.move (v := Value.int .i64 (IntKind.i64.wrap (1 + ((IntKind.i64.wrap n1).tmod 90)))) rfl rfl ⟨rfl, rfl⟩)) (ag_cons (ag_r rfl rfl (Exec.move (v := Value.int .i64 (IntKind.i64.wrap (1 + ((IntKind.i64.wrap m2).tmod 90)))) rfl rfl ⟨rfl, rfl⟩)) ag_nil))), ?_⟩
      refine DL_q rfl rfl (Exec.build rfl (parts_cons (c := [Value.int .i64 (IntKind.i64.wrap (1 + ((IntKind.i64.wrap m2).tmod 90)))]) (cells_of rfl rfl) (parts_cons (c := [v27545]) (cells_of rfl (cells_one (hS27547).arr_one)) parts_nil)) (v := Value.agg #[Value.int .i64 (IntKind.i64.wrap (1 + ((IntKind.i64.wrap m2).tmod 90))), Value.int .i64 (0), Value.slice none 0 0, Value.slice none 0 0, v27545]) (fun _ => by kernel_rfl) ⟨rfl, ?_⟩)
      refine DL_e rfl rfl (Exec.make (E := encBool) hS27547 S24 Z4 rfl rfl rfl rfl q26487 ?_)
      intro v27548 w27549 hS27550
      refine ⟨(ag_cons (ag_r rfl rfl (Exec.move (v := Value.int .i64 (IntKind.i64.wrap (1 + ((IntKind.i64.wrap n1).tmod 90)))) rfl rfl ⟨rfl, rfl⟩)) (ag_cons (ag_r rfl rfl (Exec.move (v := Value.int .i64 (IntKind.i64.wrap (1 + ((IntKind.i64.wrap m2).tmod 90)))) rfl rfl ⟨rfl, rfl⟩)) (ag_cons (ag_r rfl rfl (Exec.build rfl (parts_cons (c := [Value.int .i64 (IntKind.i64.wrap (1 + ((IntKind.i64.wrap m2).tmod 90)))]) (cells_of rfl rfl) (parts_cons (c := [v27545]) (cells_of rfl (cells_one ((hS27550).f1).arr_one)) parts_nil)) (v := Value.agg #[Value.int .i64 (IntKind.i64.wrap (1 + ((IntKind.i64.wrap m2).tmod 90))), Value.int .i64 (0), Value.slice none 0 0, Value.slice none 0 0, v27545]) (fun _ => by kernel_rfl) ⟨rfl, rfl⟩)) ag_nil))), ?_⟩
      refine DL_q rfl rfl (Exec.build rfl (parts_cons (c := [Value.int .i64 (IntKind.i64.wrap (1 + ((IntKind.i64.wrap n1).tmod 90)))]) (cells_of rfl rfl) (parts_cons (c := [v27548]) (cells_of rfl (cells_one (hS27550).arr_one)) parts_nil)) (v := Value.agg #[Value.int .i64 (IntKind.i64.wrap (1 + ((IntKind.i64.wrap n1).tmod 90))), Value.int .i64 (0), Value.slice none 0 0, Value.slice none 0 0, v27548]) (fun _ => by kernel_rfl) ⟨rfl, ?_⟩)
      have hS27551 := (hS27550).f2
      refine DL_e rfl rfl (Exec.store_box (ds := [Value.int .i64 (IntKind.i64.wrap (1 + ((IntKind.i64.wrap n1).tmod 90))), Value.int .i64 (0), Value.slice none 0 0, Value.slice none 0 0, v27548]) (es := [Value.int .i64 (IntKind.i64.wrap (1 + ((IntKind.i64.wrap n1).tmod 90))), Value.int .i64 (0), Value.slice none 0 0, Value.slice none 0 0, v27548]) hS27551 A26 rfl rfl rfl rfl (one_cons rfl (one_cons rfl (one_cons rfl (one_cons rfl (one_cons ((hS27551).f1).arr_one one_nil))))) (Nat.le_of_ble_eq_true rfl) rfl ?_)
      intro w27552 hS27553
      refine ⟨(ag_cons (ag_r rfl rfl (Exec.move (v := Value.int .i64 (IntKind.i64.wrap (1 + ((IntKind.i64.wrap m2).tmod 90)))) rfl rfl ⟨rfl, rfl⟩)) (ag_cons (ag_r rfl rfl (Exec.build rfl (parts_cons (c := [Value.int .i64 (IntKind.i64.wrap (1 + ((IntKind.i64.wrap m2).tmod 90)))]) (cells_of rfl rfl) (parts_cons (c := [v27545]) (cells_of rfl (cells_one ((hS27553).f2).arr_one)) parts_nil)) (v := Value.agg #[Value.int .i64 (IntKind.i64.wrap (1 + ((IntKind.i64.wrap m2).tmod 90))), Value.int .i64 (0), Value.slice none 0 0, Value.slice none 0 0, v27545]) (fun _ => by kernel_rfl) ⟨rfl, rfl⟩)) ag_nil)), ?_⟩
      refine DL_done ?_
      have hS27554 := (hS27553).f3
      refine WL_step rfl rfl (Exec.store_box (ds := [Value.int .i64 (IntKind.i64.wrap (1 + ((IntKind.i64.wrap m2).tmod 90))), Value.int .i64 (0), Value.slice none 0 0, Value.slice none 0 0, v27545]) (es := [Value.int .i64 (IntKind.i64.wrap (1 + ((IntKind.i64.wrap m2).tmod 90))), Value.int .i64 (0), Value.slice none 0 0, Value.slice none 0 0, v27545]) hS27554 A26 rfl rfl rfl rfl (one_cons rfl (one_cons rfl (one_cons rfl (one_cons rfl (one_cons ((hS27554).f3).arr_one one_nil))))) (Nat.le_of_ble_eq_true rfl) rfl ?_)
      intro w27555 hS27556
      refine WL_nil (at_normal ?_)
      have hS27557 := (hS27556).f3
      have hS27558 := (hS27557).f3
      have hS27559 := (hS27558).f2
      have hS27560 := (hS27559).f3
      exact ⟨s26479, b27513, b27430, v27548, v27545, (PHeap.le_refl _), hS27560, rfl, rfl, rfl, rfl⟩
    · intro f27561 w27562 hM27563
      obtain ⟨s27564, b27051, b27052, v27054, v27056, l27565, hS27566, p27567, p27568, p27569, p27570⟩ := hM27563
      refine (at_normal ?_)
      refine W_seq ?_
      refine W_region ?_
      refine WL_step rfl rfl (Exec.load_box_agg (ds := [Value.int .i64 (IntKind.i64.wrap (1 + ((IntKind.i64.wrap n1).tmod 90))), Value.int .i64 (0), Value.slice none 0 0, Value.slice none 0 0, v27054]) (hS27566) A26 rfl p27569 rfl ?_)
      refine WL_step rfl rfl (Exec.load_box_agg (ds := [Value.int .i64 (IntKind.i64.wrap (1 + ((IntKind.i64.wrap m2).tmod 90))), Value.int .i64 (0), Value.slice none 0 0, Value.slice none 0 0, v27056]) ((hS27566).f1) A26 rfl p27570 rfl ?_)
      have hS27600 := (hS27566).f2
      obtain ⟨s27601, l27602, hS27603, r27604⟩ := hS27600.freezeArr
      have hS27605 := (hS27603).f2
      obtain ⟨s27606, l27607, hS27608, r27609⟩ := hS27605.freezeArr
      obtain ⟨t27610, q27611, hm⟩ := bind_some hm
      obtain ⟨y27612, y27613⟩ := t27610
      replace hm := un2_eq hm
      refine WL_step rfl rfl (Exec.call rfl rfl Try.func12 rfl N12 (args_cons rfl (args_cons rfl args_nil)) ((transys_Product_sim q27611 hS27608 (SliceRep.nil _ _) (SliceRep.nil _ _) (r27604.mono l27607) (SliceRep.nil _ _) (SliceRep.nil _ _) r27609).mono ?_))
      rintro _ w27614 ⟨_, rfl, ⟨s27615, v27618, v27619, v27620, l27616, hS27617, rfl, r27621, r27622, r27623⟩⟩
      refine ⟨_, rfl, ?_⟩
      refine WL_step rfl rfl (Exec.move (v := Value.tuple #[Value.agg #[Value.int .i64 (y27613.States), Value.int .i64 (y27613.Init), v27618, v27619, v27620], errV 39 (y27612)]) rfl rfl ?_)
      refine WL_step rfl rfl (Exec.extract (v := Value.agg #[Value.int .i64 (y27613.States), Value.int .i64 (y27613.Init), v27618, v27619, v27620]) rfl rfl rfl ?_)
      refine WL_step rfl rfl (Exec.extract (v := errV 39 (y27612)) rfl rfl rfl ?_)
      refine WL_step rfl rfl (Exec.alloc (cs := [Value.int .i64 (0), Value.int .i64 (0), Value.slice none 0 0, Value.slice none 0 0, Value.slice none 0 0]) hS27617 Z26 rfl rfl ?_)
      intro b27624 w27625 hS27626
      refine WL_step rfl rfl (Exec.store_box (ds := [Value.int .i64 (y27613.States), Value.int .i64 (y27613.Init), v27618, v27619, v27620]) (es := [Value.int .i64 (y27613.States), Value.int .i64 (y27613.Init), v27618, v27619, v27620]) hS27626 A26 rfl rfl rfl rfl (one_cons rfl (one_cons rfl (one_cons (r27621).one (one_cons (r27622).one (one_cons (r27623).one one_nil))))) (Nat.le_of_ble_eq_true rfl) rfl ?_)
      intro w27627 hS27628
      refine WL_step rfl rfl (Exec.assign (v := errV 39 (y27612)) rfl rfl ?_)
      refine WL_nil (at_normal ?_)
      refine W_seq ?_
      refine W_seq ?_
      refine W_region ?_
      refine WL_step rfl rfl (Exec.move (v := Value.int .i64 (IntKind.i64.wrap (1 + ((IntKind.i64.wrap n1).tmod 90)))) rfl p27567 ?_)
      refine WL_step rfl rfl (Exec.move (v := Value.int .i64 (IntKind.i64.wrap (1 + ((IntKind.i64.wrap m2).tmod 90)))) rfl p27568 ?_)
      refine WL_step rfl rfl (Exec.mul rfl rfl rfl ?_)
      refine WL_step rfl rfl (Exec.gtr rfl rfl rfl ?_)
      refine WL_nil (at_normal ?_)
      rcases ite_some hm with ⟨hc27629, hm⟩ | ⟨hc27629, hm⟩
      · refine W_cond_t rfl hc27629 ?_
        refine W_seq ?_
        refine W_mid (M := fun f' w' => ∃ (s27635 : PHeap) , PHeap.le s27615 s27635 ∧ St w0 s27635 (H) w' ∧ f' 4 = Value.bool (((decide (y27613.States = 0)) && (base_Is_t y27612 5)))) ?_ ?_
        · refine W_region ?_
          refine WL_step rfl rfl (Exec.field F26_0 rfl rfl rfl ?_)
          refine WL_step rfl rfl (Exec.load_box (hS27628) A3 rfl rfl rfl ?_)
          refine WL_step rfl rfl (Exec.eql rfl rfl rfl ?_)
          refine WL_step rfl rfl (Exec.move (v := Value.bool (decide (y27613.States = 0))) rfl rfl ?_)
          by_cases hc27636 : (decide (y27613.States = 0)) = true
          · refine WL_run rfl (yield_of rfl (congrArg Value.bool hc27636)) rfl (Exec.move (v := errV 39 (y27612)) rfl rfl ?_)
            refine WL_run rfl (yield_of rfl (congrArg Value.bool hc27636)) rfl (Exec.call rfl rfl Try.func16 rfl N16 (args_cons rfl (args_cons rfl args_nil)) ((base_Is_sim (base_Is_tot y27612 5) hS27628 ).mono ?_))
            rintro _ w27637 ⟨_, rfl, ⟨s27638, l27639, hS27640, rfl⟩⟩
            refine ⟨_, rfl, ?_⟩
            refine WL_step rfl rfl (Exec.pick_t (v := Value.bool ((base_Is_t y27612 5))) rfl (congrArg Value.bool hc27636) rfl ?_)
            refine WL_step rfl rfl (Exec.assign (v := Value.bool ((base_Is_t y27612 5))) rfl rfl ?_)
            refine WL_nil (at_normal ?_)
            have hS27641 := (hS27640).drop
            have hS27642 := (hS27641).drop
            have hS27643 := (hS27642).drop
            exact ⟨s27638, l27639, hS27643, (congrArg Value.bool (and_t hc27636)).symm⟩
          · replace hc27636 := not_true hc27636
            refine WL_pass rfl (yield_of rfl (congrArg Value.bool hc27636)) rfl rfl ?_
            refine WL_pass rfl (yield_of rfl (congrArg Value.bool hc27636)) rfl rfl ?_
            refine WL_step rfl rfl (Exec.pick_f (v := Value.bool (false)) rfl (congrArg Value.bool hc27636) rfl ?_)
            refine WL_step rfl rfl (Exec.assign (v := Value.bool (false)) rfl rfl ?_)
            refine WL_nil (at_normal ?_)
            have hS27644 := (hS27628).drop
            have hS27645 := (hS27644).drop
            have hS27646 := (hS27645).drop
            exact ⟨s27615, (PHeap.le_refl _), hS27646, (congrArg Value.bool (and_f hc27636)).symm⟩
        · intro f27647 w27648 hM27649
          obtain ⟨s27650, l27651, hS27652, p27653⟩ := hM27649
          refine (at_normal ?_)
          refine W_ret (at_ret ?_)
          have e27655 := Option.some.inj hm
          subst r
          refine ⟨_, ret1 rfl, ?_⟩
          exact ⟨s27650, (PHeap.le.trans (PHeap.le.trans (PHeap.le.trans (PHeap.le.trans (PHeap.le.trans l26480 l27565) l27602) l27607) l27616) l27651), hS27652, p27653⟩
      · refine W_cond_f rfl hc27629 ?_
        replace hc27629 := not_true hc27629
        refine W_skip (at_normal ?_)
        refine W_seq ?_
        refine W_mid (M := fun f' w' => ∃ (s27659 : PHeap) , PHeap.le s27615 s27659 ∧ St w0 s27659 (H) w' ∧ f' 4 = Value.bool ((y27612.isNone && ((decide (y27613.States = (IntKind.i64.wrap ((IntKind.i64.wrap (1 + ((IntKind.i64.wrap n1).tmod 90))) * (IntKind.i64.wrap (1 + ((IntKind.i64.wrap m2).tmod 90))))))) && ((decide ((y27613.Goals.length : Int) = (IntKind.i64.wrap ((IntKind.i64.wrap (1 + ((IntKind.i64.wrap n1).tmod 90))) * (IntKind.i64.wrap (1 + ((IntKind.i64.wrap m2).tmod 90))))))) && decide ((y27613.Edges.length : Int) = 0)))))) ?_ ?_
        · refine W_region ?_
          refine WL_step rfl rfl (Exec.move (v := errV 39 (y27612)) rfl rfl ?_)
          refine WL_step rfl rfl (Exec.err_eql_nil (T := 39) Try.underlying30 rfl rfl rfl ?_)
          refine WL_step rfl rfl (Exec.move (v := Value.bool (y27612.isNone)) rfl rfl ?_)
          by_cases hc27660 : y27612.isNone = true
          · refine WL_run rfl (yield_of rfl (congrArg Value.bool hc27660)) rfl (Exec.field F26_0 rfl rfl rfl ?_)
            refine WL_run rfl (yield_of rfl (congrArg Value.bool hc27660)) rfl (Exec.load_box (hS27628) A3 rfl rfl rfl ?_)
            refine WL_run rfl (yield_of rfl (congrArg Value.bool hc27660)) rfl (Exec.move (v := Value.int .i64 (IntKind.i64.wrap (1 + ((IntKind.i64.wrap n1).tmod 90)))) rfl p27567 ?_)
            refine WL_run rfl (yield_of rfl (congrArg Value.bool hc27660)) rfl (Exec.move (v := Value.int .i64 (IntKind.i64.wrap (1 + ((IntKind.i64.wrap m2).tmod 90)))) rfl p27568 ?_)
            refine WL_run rfl (yield_of rfl (congrArg Value.bool hc27660)) rfl (Exec.mul rfl rfl rfl ?_)
            refine WL_run rfl (yield_of rfl (congrArg Value.bool hc27660)) rfl (Exec.eql rfl rfl rfl ?_)
            refine WL_step rfl rfl (Exec.pick_t (v := Value.bool (decide (y27613.States = (IntKind.i64.wrap ((IntKind.i64.wrap (1 + ((IntKind.i64.wrap n1).tmod 90))) * (IntKind.i64.wrap (1 + ((IntKind.i64.wrap m2).tmod 90)))))))) rfl (congrArg Value.bool hc27660) rfl ?_)
            refine WL_step rfl rfl (Exec.move (v := Value.bool (decide (y27613.States = (IntKind.i64.wrap ((IntKind.i64.wrap (1 + ((IntKind.i64.wrap n1).tmod 90))) * (IntKind.i64.wrap (1 + ((IntKind.i64.wrap m2).tmod 90)))))))) rfl rfl ?_)
            by_cases hc27661 : (decide (y27613.States = (IntKind.i64.wrap ((IntKind.i64.wrap (1 + ((IntKind.i64.wrap n1).tmod 90))) * (IntKind.i64.wrap (1 + ((IntKind.i64.wrap m2).tmod 90))))))) = true
            · refine WL_run rfl (yield_of rfl (congrArg Value.bool hc27661)) rfl (Exec.field F26_4 rfl rfl rfl ?_)
              refine WL_run rfl (yield_of rfl (congrArg Value.bool hc27661)) rfl (Exec.load_box (hS27628) A24 rfl rfl rfl ?_)
              refine WL_run rfl (yield_of rfl (congrArg Value.bool hc27661)) rfl (Exec.len_rep S24 rfl rfl r27623 ?_)
              refine WL_run rfl (yield_of rfl (congrArg Value.bool hc27661)) rfl (Exec.move (v := Value.int .i64 (IntKind.i64.wrap (1 + ((IntKind.i64.wrap n1).tmod 90)))) rfl p27567 ?_)
              refine WL_run rfl (yield_of rfl (congrArg Value.bool hc27661)) rfl (Exec.move (v := Value.int .i64 (IntKind.i64.wrap (1 + ((IntKind.i64.wrap m2).tmod 90)))) rfl p27568 ?_)
              refine WL_run rfl (yield_of rfl (congrArg Value.bool hc27661)) rfl (Exec.mul rfl rfl rfl ?_)
              refine WL_run rfl (yield_of rfl (congrArg Value.bool hc27661)) rfl (Exec.eql rfl rfl rfl ?_)
              refine WL_step rfl rfl (Exec.pick_t (v := Value.bool (decide ((y27613.Goals.length : Int) = (IntKind.i64.wrap ((IntKind.i64.wrap (1 + ((IntKind.i64.wrap n1).tmod 90))) * (IntKind.i64.wrap (1 + ((IntKind.i64.wrap m2).tmod 90)))))))) rfl (congrArg Value.bool hc27661) rfl ?_)
              refine WL_step rfl rfl (Exec.move (v := Value.bool (decide ((y27613.Goals.length : Int) = (IntKind.i64.wrap ((IntKind.i64.wrap (1 + ((IntKind.i64.wrap n1).tmod 90))) * (IntKind.i64.wrap (1 + ((IntKind.i64.wrap m2).tmod 90)))))))) rfl rfl ?_)
              by_cases hc27662 : (decide ((y27613.Goals.length : Int) = (IntKind.i64.wrap ((IntKind.i64.wrap (1 + ((IntKind.i64.wrap n1).tmod 90))) * (IntKind.i64.wrap (1 + ((IntKind.i64.wrap m2).tmod 90))))))) = true
              · refine WL_run rfl (yield_of rfl (congrArg Value.bool hc27662)) rfl (Exec.field F26_3 rfl rfl rfl ?_)
                refine WL_run rfl (yield_of rfl (congrArg Value.bool hc27662)) rfl (Exec.load_box (hS27628) A23 rfl rfl rfl ?_)
                refine WL_run rfl (yield_of rfl (congrArg Value.bool hc27662)) rfl (Exec.len_rep S23 rfl rfl r27622 ?_)
                refine WL_run rfl (yield_of rfl (congrArg Value.bool hc27662)) rfl (Exec.eql rfl rfl rfl ?_)
                refine WL_step rfl rfl (Exec.pick_t (v := Value.bool (decide ((y27613.Edges.length : Int) = 0))) rfl (congrArg Value.bool hc27662) rfl ?_)
                refine WL_step rfl rfl (Exec.assign (v := Value.bool (decide ((y27613.Edges.length : Int) = 0))) rfl rfl ?_)
                refine WL_nil (at_normal ?_)
                have hS27663 := (hS27628).drop
                have hS27664 := (hS27663).drop
                have hS27665 := (hS27664).drop
                exact ⟨s27615, (PHeap.le_refl _), hS27665, (congrArg Value.bool (Eq.trans (and_t hc27660) (Eq.trans (and_t hc27661) (and_t hc27662)))).symm⟩
              · replace hc27662 := not_true hc27662
                refine WL_pass rfl (yield_of rfl (congrArg Value.bool hc27662)) rfl rfl ?_
                refine WL_pass rfl (yield_of rfl (congrArg Value.bool hc27662)) rfl rfl ?_
                refine WL_pass rfl (yield_of rfl (congrArg Value.bool hc27662)) rfl rfl ?_
                refine WL_pass rfl (yield_of rfl (congrArg Value.bool hc27662)) rfl rfl ?_
                refine WL_step rfl rfl (Exec.pick_f (v := Value.bool (false)) rfl (congrArg Value.bool hc27662) rfl ?_)
                refine WL_step rfl rfl (Exec.assign (v := Value.bool (false)) rfl rfl ?_)
                refine WL_nil (at_normal ?_)
                have hS27666 := (hS27628).drop
                have hS27667 := (hS27666).drop
                have hS27668 := (hS27667).drop
                exact ⟨s27615, (PHeap.le_refl _), hS27668, (congrArg Value.bool (Eq.trans (and_t hc27660) (Eq.trans (and_t hc27661) (and_f hc27662)))).symm⟩
            · replace hc27661 := not_true hc27661
              refine WL_pass rfl (yield_of rfl (congrArg Value.bool hc27661)) rfl rfl ?_
              refine WL_pass rfl (yield_of rfl (congrArg Value.bool hc27661)) rfl rfl ?_
              refine WL_pass rfl (yield_of rfl (congrArg Value.bool hc27661)) rfl rfl ?_
              refine WL_pass rfl (yield_of rfl (congrArg Value.bool hc27661)) rfl rfl ?_
              refine WL_pass rfl (yield_of rfl (congrArg Value.bool hc27661)) rfl rfl ?_
              refine WL_pass rfl (yield_of rfl (congrArg Value.bool hc27661)) rfl rfl ?_
              refine WL_pass rfl (yield_of rfl (congrArg Value.bool hc27661)) rfl rfl ?_
              refine WL_step rfl rfl (Exec.pick_f (v := Value.bool (false)) rfl (congrArg Value.bool hc27661) rfl ?_)
              refine WL_step rfl rfl (Exec.move (v := Value.bool (false)) rfl rfl ?_)
              refine WL_pass rfl (yield_of rfl rfl) rfl rfl ?_
              refine WL_pass rfl (yield_of rfl rfl) rfl rfl ?_
              refine WL_pass rfl (yield_of rfl rfl) rfl rfl ?_
              refine WL_pass rfl (yield_of rfl rfl) rfl rfl ?_
              refine WL_step rfl rfl (Exec.pick_f (v := Value.bool (false)) rfl rfl rfl ?_)
              refine WL_step rfl rfl (Exec.assign (v := Value.bool (false)) rfl rfl ?_)
              refine WL_nil (at_normal ?_)
              have hS27669 := (hS27628).drop
              have hS27670 := (hS27669).drop
              have hS27671 := (hS27670).drop
              exact ⟨s27615, (PHeap.le_refl _), hS27671, (congrArg Value.bool (Eq.trans (and_t hc27660) (and_f hc27661))).symm⟩
          · replace hc27660 := not_true hc27660
            refine WL_pass rfl (yield_of rfl (congrArg Value.bool hc27660)) rfl rfl ?_
            refine WL_pass rfl (yield_of rfl (congrArg Value.bool hc27660)) rfl rfl ?_
            refine WL_pass rfl (yield_of rfl (congrArg Value.bool hc27660)) rfl rfl ?_
            refine WL_pass rfl (yield_of rfl (congrArg Value.bool hc27660)) rfl rfl ?_
            refine WL_pass rfl (yield_of rfl (congrArg Value.bool hc27660)) rfl rfl ?_
            refine WL_pass rfl (yield_of rfl (congrArg Value.bool hc27660)) rfl rfl ?_
            refine WL_step rfl rfl (Exec.pick_f (v := Value.bool (false)) rfl (congrArg Value.bool hc27660) rfl ?_)
            refine WL_step rfl rfl (Exec.move (v := Value.bool (false)) rfl rfl ?_)
            refine WL_pass rfl (yield_of rfl rfl) rfl rfl ?_
            refine WL_pass rfl (yield_of rfl rfl) rfl rfl ?_
            refine WL_pass rfl (yield_of rfl rfl) rfl rfl ?_
            refine WL_pass rfl (yield_of rfl rfl) rfl rfl ?_
            refine WL_pass rfl (yield_of rfl rfl) rfl rfl ?_
            refine WL_pass rfl (yield_of rfl rfl) rfl rfl ?_
            refine WL_pass rfl (yield_of rfl rfl) rfl rfl ?_
            refine WL_step rfl rfl (Exec.pick_f (v := Value.bool (false)) rfl rfl rfl ?_)
            refine WL_step rfl rfl (Exec.move (v := Value.bool (false)) rfl rfl ?_)
            refine WL_pass rfl (yield_of rfl rfl) rfl rfl ?_
            refine WL_pass rfl (yield_of rfl rfl) rfl rfl ?_
            refine WL_pass rfl (yield_of rfl rfl) rfl rfl ?_
            refine WL_pass rfl (yield_of rfl rfl) rfl rfl ?_
            refine WL_step rfl rfl (Exec.pick_f (v := Value.bool (false)) rfl rfl rfl ?_)
            refine WL_step rfl rfl (Exec.assign (v := Value.bool (false)) rfl rfl ?_)
            refine WL_nil (at_normal ?_)
            have hS27672 := (hS27628).drop
            have hS27673 := (hS27672).drop
            have hS27674 := (hS27673).drop
            exact ⟨s27615, (PHeap.le_refl _), hS27674, (congrArg Value.bool (and_f hc27660)).symm⟩
        · intro f27675 w27676 hM27677
          obtain ⟨s27678, l27679, hS27680, p27681⟩ := hM27677
          refine (at_normal ?_)
          refine W_ret ?_
          have e27683 := Option.some.inj hm
          subst r
          refine ⟨_, ret1 rfl, ?_⟩
          exact ⟨s27678, (PHeap.le.trans (PHeap.le.trans (PHeap.le.trans (PHeap.le.trans (PHeap.le.trans l26480 l27565) l27602) l27607) l27616) l27679), hS27680, p27681⟩

end Go.Pw
