/-
  The library's builder of strings, as the walks call it.
-/
import Derived.Test.YtcabhickgjhkhaaGreatDoorLC
import Derived.Test.YtcabhickgjhkhaaGreatDoorL51
import Derived.Test.YtcabhickgjhkhaaGreatDoorL10
import Derived.Test.YtcabhickgjhkhaaGreatDoorL11
import Derived.Test.YtcabhickgjhkhaaGreatDoorProg
import Derived.KernelRfl
set_option maxRecDepth 100000
set_option maxHeartbeats 4000000
set_option linter.unusedSimpArgs false
set_option linter.unusedVariables false
namespace Go.Pw
open Go.Proofs
theorem YF0 : tyField Tryz.prog 140 0 = some 0 := by kernel_rfl
theorem YF1 : tyField Tryz.prog 140 1 = some 1 := by kernel_rfl
theorem YA68 : tyAgg Tryz.prog 138 = some (false, 1) := by kernel_rfl
theorem YA69 : tyAgg Tryz.prog 49 = some (false, 1) := by kernel_rfl
theorem YS69 : tySlice Tryz.prog 49 = some (5, 1, 1) := by kernel_rfl
theorem YZ5 : tyZero Tryz.prog 5 = some (.int .u8 0) := by kernel_rfl
theorem YM : Tryz.prog.follows .mixedOrders = true := by kernel_rfl
theorem YN61 : (Tryz.f110.name == "runtime.NumGoroutine") = false := by kernel_rfl
theorem YN70 : (Tryz.f124.name == "runtime.NumGoroutine") = false := by kernel_rfl
theorem YL : liesAt Tryz.prog Tryz.prog.depth 140 (2 / Tryz.prog.cellsOf 140) 0 140 1 = true := by kernel_rfl
theorem YI71 : ∃ j, Tryz.prog.info? 140 = some j ∧ j.size ≠ 0 := by
  have h : (Tryz.prog.info? 140).map (·.size) = some 2 := by kernel_rfl
  obtain ⟨j, h1, h2⟩ := Option.map_eq_some_iff.1 h
  exact ⟨j, h1, by omega⟩
theorem YC5 : Tryz.prog.cellsOf 5 = 1 := by kernel_rfl
theorem bld_check {w0 w : World} {s : PHeap} {H : List Res} {b : Nat} {pv v : Value} (hp : selfOr b pv) (hS : St w0 s (.box b 140 [pv, v] :: H) w) (hv : v.oneCell' = true) :
    Calls Tryz.prog 110 #[.pointer (some ⟨b, 0, none⟩)] w fun e w' => ∃ u, e = .returned u ∧ St w0 s (.box b 140 [.pointer (some ⟨b, 0, none⟩), v] :: H) w' := by
  obtain ⟨j, hj, hj0⟩ := YI71
  refine calls_of_W Tryz.func110 rfl rfl ?_
  refine Zc ?_
  refine Zd ?_
  refine Za rfl rfl (Zm (v := .pointer (some ⟨b, 0, none⟩)) rfl rfl ?_)
  refine Za rfl rfl (Exec.nilCheck_ptr rfl rfl ?_)
  refine Za rfl rfl (Zp YF0 rfl rfl rfl ?_)
  refine Za rfl rfl (Zn hS YA68 rfl rfl rfl ?_)
  rcases hp with rfl | rfl
  · refine Za rfl rfl (Exec.ptr_eql_nil Tryz.underlying138 rfl rfl rfl ?_)
    refine Zb (Ze ?_)
    refine W_true rfl ?_
    refine Zd ?_
    refine Za rfl rfl (Zm (v := .pointer (some ⟨b, 0, none⟩)) rfl rfl ?_)
    refine Za rfl rfl (Zm (v := .pointer (some ⟨b, 0, none⟩)) rfl rfl ?_)
    refine Za rfl rfl (Exec.to_unsafe hS Tryz.underlying138 Tryz.underlying176 hj hj0 (by simp) rfl rfl ?_)
    refine Za rfl rfl (Exec.no_escape (fn := Tryz.f124) rfl rfl Tryz.func124 YN70 (by kernel_rfl) (by kernel_rfl) (by kernel_rfl) rfl ?_)
    refine Za rfl rfl (Exec.from_unsafe hS Tryz.underlying176 Tryz.underlying138 hj YL rfl rfl ?_)
    refine Za rfl rfl (Exec.nilCheck_ptr rfl rfl ?_)
    refine Za rfl rfl (Zp YF0 rfl rfl rfl ?_)
    refine Za rfl rfl (Exec.store_box (ds := [.pointer (some ⟨b, 0, none⟩)]) (es := [.pointer (some ⟨b, 0, none⟩), v]) hS YA68 rfl rfl rfl rfl (by intro v hv; simp at hv; subst hv; rfl) (Nat.le_of_ble_eq_true rfl) rfl ?_)
    intro w' hS'
    refine Zb ?_
    exact ⟨_, retG0 rfl, hS'⟩
  · refine Za rfl rfl (Exec.ptr_eql_nil Tryz.underlying138 rfl rfl rfl ?_)
    refine Zb (Ze ?_)
    refine W_false rfl ?_
    refine Zc ?_
    refine Zd ?_
    refine Za rfl rfl (Zm (v := .pointer (some ⟨b, 0, none⟩)) rfl rfl ?_)
    refine Za rfl rfl (Exec.nilCheck_ptr rfl rfl ?_)
    refine Za rfl rfl (Zp YF0 rfl rfl rfl ?_)
    refine Za rfl rfl (Zn hS YA68 rfl rfl rfl ?_)
    refine Za rfl rfl (Zm (v := .pointer (some ⟨b, 0, none⟩)) rfl rfl ?_)
    refine Za rfl rfl (Exec.ptr_neq_self Tryz.underlying138 hj rfl rfl rfl ?_)
    refine Zb (Ze ?_)
    refine W_false rfl ?_
    refine W_skip ?_
    exact ⟨_, retG0 rfl, hS⟩
theorem bld_write_sim {w0 w : World} {s : PHeap} {H : List Res} {b : Nat} {xs zs : List Int} {q : ByteArray} (hm : appS xs q = some zs) (hS : St w0 s (.bld 140 5 b xs :: H) w) :
    Calls Tryz.prog 88 #[.pointer (some ⟨b, 0, none⟩), .string q] w fun e w' => ∃ u, e = .returned u ∧ (u = .tuple #[.int .i64 (q.size : Int), .nilIface] ∧ St w0 s (.bld 140 5 b zs :: H) w') := by
  obtain ⟨pv, v, hp, hS1⟩ := hS.bld_open
  have hv : v.oneCell' = true := (hS1.perm (.swap _ _ _)).arr_one
  refine calls_of_W Tryz.func88 rfl rfl ?_
  refine Zc ?_
  refine Zd ?_
  refine Za rfl rfl (Zo (v := .int .i64 0) rfl rfl ?_)
  refine Za rfl rfl (Zo (v := .nilIface) rfl rfl ?_)
  refine Zb (Ze ?_)
  refine Zc ?_
  refine Zd ?_
  refine Za rfl rfl (Zm (v := .pointer (some ⟨b, 0, none⟩)) rfl rfl ?_)
  refine Za rfl rfl (Exec.call rfl rfl Tryz.func110 rfl YN61 (Zi rfl args_nil) ((bld_check hp hS1 hv).mono ?_))
  rintro _ w2 ⟨u, rfl, hS2⟩
  refine ⟨_, rfl, ?_⟩
  refine Zb (Ze ?_)
  refine Zc ?_
  refine Zd ?_
  refine Za rfl rfl (Zm (v := .pointer (some ⟨b, 0, none⟩)) rfl rfl ?_)
  refine Za rfl rfl (Zm (v := .pointer (some ⟨b, 0, none⟩)) rfl rfl ?_)
  refine Za rfl rfl (Exec.nilCheck_ptr rfl rfl ?_)
  refine Za rfl rfl (Zp YF1 rfl rfl rfl ?_)
  refine Za rfl rfl (Zn hS2 YA69 rfl rfl rfl ?_)
  refine Za rfl rfl (Zm (v := .string q) rfl rfl ?_)
  refine Za rfl rfl (Exec.append_str (hS2.perm (.swap _ _ _)) YS69 Tryz.underlying9 YZ5 rfl rfl rfl hm ?_)
  intro v' w3 hS3
  have hv' : v'.oneCell' = true := hS3.arr_one
  have hc' : v'.cells = #[v'] := by cases v' <;> simp_all [Value.cells, Value.oneCell']
  refine Za rfl rfl (Exec.nilCheck_ptr rfl rfl ?_)
  refine Za rfl rfl (Zp YF1 rfl rfl rfl ?_)
  refine Za rfl rfl (Exec.store_box (v := v') (ds := [v']) (es := [.pointer (some ⟨b, 0, none⟩), v']) (hS3.perm (.swap _ _ _)) YA69 rfl rfl rfl hc' (by intro v hv; simp at hv; subst hv; exact hv') (Nat.le_of_ble_eq_true rfl) rfl ?_)
  intro w4 hS4
  refine Zb (Ze ?_)
  refine Zc ?_
  refine Zd ?_
  refine Za rfl rfl (Zm (v := .string q) rfl rfl ?_)
  refine Za rfl rfl (Exec.len_str Tryz.underlying9 rfl rfl ?_)
  refine Za rfl rfl (Zo (v := .int .i64 (q.size : Int)) rfl rfl ?_)
  refine Za rfl rfl (Zo (v := .nilIface) rfl rfl ?_)
  refine Zb (Ze ?_)
  refine W_ret ?_
  exact ⟨_, ret2 rfl, rfl, hS4.bld_close (.inr rfl)⟩
theorem bld_string_sim {w0 w : World} {s : PHeap} {H : List Res} {b : Nat} {xs : List Int} {q : ByteArray} (hm : strOfE xs = some q) (hS : St w0 s (.bld 140 5 b xs :: H) w) :
    Calls Tryz.prog 90 #[.pointer (some ⟨b, 0, none⟩)] w fun e w' => ∃ u, e = .returned u ∧ (u = .string q ∧ St w0 s H w') := by
  obtain ⟨pv, v, hp, hS1⟩ := hS.bld_open
  refine calls_of_W Tryz.func90 rfl rfl ?_
  refine Zc ?_
  refine Zd ?_
  refine Za rfl rfl (Zo (v := .string ⟨#[]⟩) rfl rfl ?_)
  refine Zb (Ze ?_)
  refine Zc ?_
  refine W_dl (n0 := 12) (.q 0 (.q 1 (.q 2 (.q 3 (.q 5 (.q 6 (.q 7 (.q 8 (.q 9 (.e 4 [5, 6, 7, 8, 9] (.e 10 [] (.q 11 .done)))))))))))) YM (by kernel_rfl) (by kernel_rfl) ?_
  have hS2 := hS1.drew
  have hA := hS2.perm (.swap _ _ _)
  refine DL_q rfl rfl (Zm (v := .pointer (some ⟨b, 0, none⟩)) rfl rfl ⟨rfl, ?_⟩)
  refine DL_q rfl rfl (Exec.nilCheck_ptr rfl rfl ⟨rfl, ?_⟩)
  refine DL_q rfl rfl (Zp YF1 rfl rfl rfl ⟨rfl, ?_⟩)
  refine DL_q rfl rfl (Zn hS2 YA69 rfl rfl rfl ⟨rfl, ?_⟩)
  refine DL_q rfl rfl (Zm (v := .pointer (some ⟨b, 0, none⟩)) rfl rfl ⟨rfl, ?_⟩)
  refine DL_q rfl rfl (Exec.nilCheck_ptr rfl rfl ⟨rfl, ?_⟩)
  refine DL_q rfl rfl (Zp YF1 rfl rfl rfl ⟨rfl, ?_⟩)
  refine DL_q rfl rfl (Zn hS2 YA69 rfl rfl rfl ⟨rfl, ?_⟩)
  refine DL_q rfl rfl (Exec.len_arr hA YS69 rfl rfl ⟨rfl, ?_⟩)
  refine DL_e rfl rfl (Exec.slice_data_any (te := 5) hA Tryz.underlying163 rfl rfl ?_)
  intro p w2 hA2 hv
  have hS4 := hA2.perm (.swap _ _ _)
  refine ⟨(ag_cons (ag_r rfl rfl (Zm (v := .pointer (some ⟨b, 0, none⟩)) rfl rfl ⟨rfl, rfl⟩)) (ag_cons (ag_r rfl rfl (Exec.nilCheck_ptr rfl rfl ⟨rfl, rfl⟩)) (ag_cons (ag_r rfl rfl (Zp YF1 rfl rfl rfl ⟨rfl, rfl⟩)) (ag_cons (ag_r rfl rfl (Zn hS4 YA69 rfl rfl rfl ⟨rfl, rfl⟩)) (ag_cons (ag_r rfl rfl (Exec.len_arr hA2 YS69 rfl rfl ⟨rfl, rfl⟩)) ag_nil))))), ?_⟩
  refine DL_e rfl rfl (Exec.unsafe_string_any hA2 hv Tryz.underlying163 YC5 rfl rfl rfl hm ?_)
  intro w' hS3
  refine ⟨ag_nil, ?_⟩
  refine DL_q rfl rfl (Zo (v := .string q) rfl rfl ⟨rfl, ?_⟩)
  refine Zb (Ze ?_)
  refine W_ret ?_
  exact ⟨_, ret1 rfl, rfl, hS3.drop⟩
end Go.Pw
