/- -/
import Derived.Test.YtpjojkomdndamaaGreatDoorLB
import Derived.Test.YtpjojkomdndamaaGreatDoorL10
import Derived.Test.YtpjojkomdndamaaGreatDoorL11
import Derived.Test.YtpjojkomdndamaaGreatDoorProg
import Derived.KernelRfl
set_option maxRecDepth 100000
set_option maxHeartbeats 4000000
set_option linter.unusedSimpArgs false
set_option linter.unusedVariables false
namespace Go.Pw
open Go.Proofs
theorem YF0 : Jt Tryz.prog 190 0 = some 0 := by kernel_rfl
theorem YF1 : Jt Tryz.prog 190 1 = some 1 := by kernel_rfl
theorem Qnt : JU Tryz.prog 187 = some (false, 1) := by kernel_rfl
theorem Qla : JU Tryz.prog 188 = some (false, 1) := by kernel_rfl
theorem Qns : Je Tryz.prog 188 = some (5, 1, 1) := by kernel_rfl
theorem YZ5 : JL Tryz.prog 5 = some (.int .u8 0) := by kernel_rfl
theorem YM : Tryz.prog.follows .mixedOrders = true := by kernel_rfl
theorem Qoq : (Tryz.f150.name == "runtime.NumGoroutine") = false := by kernel_rfl
theorem Qop : (Tryz.f163.name == "runtime.NumGoroutine") = false := by kernel_rfl
theorem YL : liesAt Tryz.prog Tryz.prog.depth 190 (2 / Tryz.prog.cellsOf 190) 0 190 1 = true := by kernel_rfl
theorem Qor : ∃ j, Tryz.prog.info? 190 = some j ∧ j.size ≠ 0 := by
 have h : (Tryz.prog.info? 190).map (·.size) = some 2 := by kernel_rfl
 obtain ⟨j, h1, h2⟩ := Option.map_eq_some_iff.1 h
 exact ⟨j, h1, by omega⟩
theorem YC5 : Tryz.prog.cellsOf 5 = 1 := by kernel_rfl
theorem QkK {w0 w : World} {s : PHeap} {H : List Res} {b : Nat} {pv v : Value} (hp : Qhz b pv) (hS : St w0 s (.box b 190 [pv, v] :: H) w) (hv : v.oneCell' = true) :
  Calls Tryz.prog 150 #[.pointer (some ⟨b, 0, none⟩)] w fun e w' => ∃ u, e = .returned u ∧ St w0 s (.box b 190 [.pointer (some ⟨b, 0, none⟩), v] :: H) w' := by
 obtain ⟨j, hj, hj0⟩ := Qor
 refine Qw Tryz.func150 Z Z ?_
 refine Zc ?_
 refine Zd ?_
 refine O Z Z (Zm (v := .pointer (some ⟨b, 0, none⟩)) Z Z ?_)
 refine O Z Z (QI Z Z ?_)
 refine O Z Z (Zp YF0 Z Z Z ?_)
 refine O Z Z (Zn hS Qnt Z Z Z ?_)
 rcases hp with rfl | rfl
 ·refine O Z Z (Kh Tryz.underlying187 Z Z Z ?_)
  refine Zb (V ?_)
  refine QL Z ?_
  refine Zd ?_
  refine O Z Z (Zm (v := .pointer (some ⟨b, 0, none⟩)) Z Z ?_)
  refine O Z Z (Zm (v := .pointer (some ⟨b, 0, none⟩)) Z Z ?_)
  refine O Z Z (Qg3 hS Tryz.underlying187 Tryz.underlying213 hj hj0 (by simp) Z Z ?_)
  refine O Z Z (Qg5 (fn := Tryz.f163) Z Z Tryz.func163 Qop (by kernel_rfl) (by kernel_rfl) (by kernel_rfl) Z ?_)
  refine O Z Z (QeY hS Tryz.underlying213 Tryz.underlying187 hj YL Z Z ?_)
  refine O Z Z (QI Z Z ?_)
  refine O Z Z (Zp YF0 Z Z Z ?_)
  refine O Z Z (Qe (ds := [.pointer (some ⟨b, 0, none⟩)]) (es := [.pointer (some ⟨b, 0, none⟩), v]) hS Qnt Z Z Z Z (by intro v hv; simp at hv; subst hv; rfl) (Nat.le_of_ble_eq_true Z) Z ?_)
  intro w' hS'
  refine Zb ?_
  exact ⟨_, Qnb Z, hS'⟩
 ·refine O Z Z (Kh Tryz.underlying187 Z Z Z ?_)
  refine Zb (V ?_)
  refine QB Z ?_
  refine Zc ?_
  refine Zd ?_
  refine O Z Z (Zm (v := .pointer (some ⟨b, 0, none⟩)) Z Z ?_)
  refine O Z Z (QI Z Z ?_)
  refine O Z Z (Zp YF0 Z Z Z ?_)
  refine O Z Z (Zn hS Qnt Z Z Z ?_)
  refine O Z Z (Zm (v := .pointer (some ⟨b, 0, none⟩)) Z Z ?_)
  refine O Z Z (QeD Tryz.underlying187 hj Z Z Z ?_)
  refine Zb (V ?_)
  refine QB Z ?_
  refine Qq ?_
  exact ⟨_, Qnb Z, hS⟩
theorem QdM {w0 w : World} {s : PHeap} {H : List Res} {b : Nat} {xs zs : List Int} {q : ByteArray} (hm : Qjb xs q = some zs) (hS : St w0 s (.bld 190 5 b xs :: H) w) :
  Calls Tryz.prog 133 #[.pointer (some ⟨b, 0, none⟩), .string q] w fun e w' => ∃ u, e = .returned u ∧ (u = .tuple #[.int .i64 (q.size : Int), .nilIface] ∧ St w0 s (.bld 190 5 b zs :: H) w') := by
 obtain ⟨pv, v, hp, hS1⟩ := hS.bld_open
 have hv : v.oneCell' = true := (hS1.perm (.swap _ _ _)).arr_one
 refine Qw Tryz.func133 Z Z ?_
 refine Zc ?_
 refine Zd ?_
 refine O Z Z (Zo (v := .int .i64 0) Z Z ?_)
 refine O Z Z (Zo (v := .nilIface) Z Z ?_)
 refine Zb (V ?_)
 refine Zc ?_
 refine Zd ?_
 refine O Z Z (Zm (v := .pointer (some ⟨b, 0, none⟩)) Z Z ?_)
 refine O Z Z (Exec.call Z Z Tryz.func150 Z Qoq (Zi Z Qk) ((QkK hp hS1 hv).mono ?_))
 rintro _ w2 ⟨u, rfl, hS2⟩
 refine ⟨_, Z, ?_⟩
 refine Zb (V ?_)
 refine Zc ?_
 refine Zd ?_
 refine O Z Z (Zm (v := .pointer (some ⟨b, 0, none⟩)) Z Z ?_)
 refine O Z Z (Zm (v := .pointer (some ⟨b, 0, none⟩)) Z Z ?_)
 refine O Z Z (QI Z Z ?_)
 refine O Z Z (Zp YF1 Z Z Z ?_)
 refine O Z Z (Zn hS2 Qla Z Z Z ?_)
 refine O Z Z (Zm (v := .string q) Z Z ?_)
 refine O Z Z (Qfx (hS2.perm (.swap _ _ _)) Qns Tryz.underlying9 YZ5 Z Z Z hm ?_)
 intro v' w3 hS3
 have hv' : v'.oneCell' = true := hS3.arr_one
 have hc' : v'.cells = #[v'] := by cases v' <;> simp_all [Value.cells, Value.oneCell']
 refine O Z Z (QI Z Z ?_)
 refine O Z Z (Zp YF1 Z Z Z ?_)
 refine O Z Z (Qe (v := v') (ds := [v']) (es := [.pointer (some ⟨b, 0, none⟩), v']) (hS3.perm (.swap _ _ _)) Qla Z Z Z hc' (by intro v hv; simp at hv; subst hv; exact hv') (Nat.le_of_ble_eq_true Z) Z ?_)
 intro w4 hS4
 refine Zb (V ?_)
 refine Zc ?_
 refine Zd ?_
 refine O Z Z (Zm (v := .string q) Z Z ?_)
 refine O Z Z (Qa6 Tryz.underlying9 Z Z ?_)
 refine O Z Z (Zo (v := .int .i64 (q.size : Int)) Z Z ?_)
 refine O Z Z (Zo (v := .nilIface) Z Z ?_)
 refine Zb (V ?_)
 refine Q0 ?_
 exact ⟨_, QbU Z, Z, hS4.bld_close (.inr Z)⟩
theorem Qg0 {w0 w : World} {s : PHeap} {H : List Res} {b : Nat} {xs : List Int} {q : ByteArray} (hm : QfC xs = some q) (hS : St w0 s (.bld 190 5 b xs :: H) w) :
  Calls Tryz.prog 136 #[.pointer (some ⟨b, 0, none⟩)] w fun e w' => ∃ u, e = .returned u ∧ (u = .string q ∧ St w0 s H w') := by
 obtain ⟨pv, v, hp, hS1⟩ := hS.bld_open
 have hx0 := (Qgb hm).1
 refine Qw Tryz.func136 Z Z ?_
 refine Zc ?_
 refine Zd ?_
 refine O Z Z (Zo (v := .string ⟨#[]⟩) Z Z ?_)
 refine Zb (V ?_)
 refine Zc ?_
 refine KT (n0 := 12) (.q 0 (.q 1 (.q 2 (.q 3 (.q 5 (.q 6 (.q 7 (.q 8 (.q 9 (.e 4 [5, 6, 7, 8, 9] (.e 10 [] (.q 11 .done)))))))))))) YM (by kernel_rfl) (by kernel_rfl) ?_
 have hS2 := hS1.drew
 have hA := hS2.perm (.swap _ _ _)
 refine Qm Z Z (Zm (v := .pointer (some ⟨b, 0, none⟩)) Z Z ⟨Z, ?_⟩)
 refine Qm Z Z (QI Z Z ⟨Z, ?_⟩)
 refine Qm Z Z (Zp YF1 Z Z Z ⟨Z, ?_⟩)
 refine Qm Z Z (Zn hS2 Qla Z Z Z ⟨Z, ?_⟩)
 refine Qm Z Z (Zm (v := .pointer (some ⟨b, 0, none⟩)) Z Z ⟨Z, ?_⟩)
 refine Qm Z Z (QI Z Z ⟨Z, ?_⟩)
 refine Qm Z Z (Zp YF1 Z Z Z ⟨Z, ?_⟩)
 refine Qm Z Z (Zn hS2 Qla Z Z Z ⟨Z, ?_⟩)
 refine Qm Z Z (QP hA Qns Z Z ⟨Z, ?_⟩)
 refine JQ Z Z (Qfw hA hx0 Z Z ?_)
 intro g cap hv
 refine ⟨(Qb (Q4 Z Z (Zm (v := .pointer (some ⟨b, 0, none⟩)) Z Z ⟨Z, Z⟩)) (Qb (Q4 Z Z (QI Z Z ⟨Z, Z⟩)) (Qb (Q4 Z Z (Zp YF1 Z Z Z ⟨Z, Z⟩)) (Qb (Q4 Z Z (Zn hS2 Qla Z Z Z ⟨Z, Z⟩)) (Qb (Q4 Z Z (QP hA Qns Z Z ⟨Z, Z⟩)) QV))))), ?_⟩
 refine JQ Z Z (Qef hA hv Tryz.underlying205 YC5 Z Z Z hm ?_)
 intro w' hS3
 refine ⟨QV, ?_⟩
 refine Qm Z Z (Zo (v := .string q) Z Z ⟨Z, ?_⟩)
 refine Zb (V ?_)
 refine Q0 ?_
 exact ⟨_, QW Z, Z, hS3.drop⟩
end Go.Pw
