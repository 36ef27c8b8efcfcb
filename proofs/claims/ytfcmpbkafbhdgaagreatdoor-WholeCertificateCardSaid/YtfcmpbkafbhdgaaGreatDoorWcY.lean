/- -/
import Derived.Test.YtfcmpbkafbhdgaaGreatDoorLE
import Derived.Test.YtfcmpbkafbhdgaaGreatDoorLC
import Derived.Test.YtfcmpbkafbhdgaaGreatDoorProg
import Derived.KernelRfl
set_option maxRecDepth 100000
set_option maxHeartbeats 4000000
set_option linter.unusedSimpArgs false
set_option linter.unusedVariables false
namespace Go.Pw
open Go.Proofs
theorem YF0 : Qdv Tryz.prog 81 0 = some 0 := by kernel_rfl
theorem YF1 : Qdv Tryz.prog 81 1 = some 1 := by kernel_rfl
theorem QlI : Yx Tryz.prog 78 = some (false, 1) := by kernel_rfl
theorem Qjf : Yx Tryz.prog 79 = some (false, 1) := by kernel_rfl
theorem QkR : QA Tryz.prog 79 = some (5, 1, 1) := by kernel_rfl
theorem YZ5 : Jl Tryz.prog 5 = some (.int .u8 0) := by kernel_rfl
theorem YM : Tryz.prog.follows .mixedOrders = true := by kernel_rfl
theorem Qne : (Tryz.f61.name == "runtime.NumGoroutine") = false := by kernel_rfl
theorem Qnd : (Tryz.f86.name == "runtime.NumGoroutine") = false := by kernel_rfl
theorem YL : liesAt Tryz.prog Tryz.prog.depth 81 (2 / Tryz.prog.cellsOf 81) 0 81 1 = true := by kernel_rfl
theorem Qnf : ∃ j, Tryz.prog.info? 81 = some j ∧ j.size ≠ 0 := by
 have h : (Tryz.prog.info? 81).map (·.size) = some 2 := by kernel_rfl
 obtain ⟨j, h1, h2⟩ := Option.map_eq_some_iff.1 h
 exact ⟨j, h1, by omega⟩
theorem YC5 : Tryz.prog.cellsOf 5 = 1 := by kernel_rfl
theorem Qj5 {w0 w : World} {s : PHeap} {H : List Res} {b : Nat} {pv v : Value} (hp : QgJ b pv) (hS : St w0 s (.box b 81 [pv, v] :: H) w) (hv : v.oneCell' = true) :
  Calls Tryz.prog 61 #[.pointer (some ⟨b, 0, none⟩)] w fun e w' => ∃ u, e = .returned u ∧ St w0 s (.box b 81 [.pointer (some ⟨b, 0, none⟩), v] :: H) w' := by
 obtain ⟨j, hj, hj0⟩ := Qnf
 refine Qb Tryz.func61 Z Z ?_
 refine Zc ?_
 refine Zd ?_
 refine Za Z Z (Zm (v := .pointer (some ⟨b, 0, none⟩)) Z Z ?_)
 refine Za Z Z (QR Z Z ?_)
 refine Za Z Z (Zp YF0 Z Z Z ?_)
 refine Za Z Z (Zn hS QlI Z Z Z ?_)
 rcases hp with rfl | rfl
 ·refine Za Z Z (Qb6 Tryz.underlying78 Z Z Z ?_)
  refine Zb (Ze ?_)
  refine KB Z ?_
  refine Zd ?_
  refine Za Z Z (Zm (v := .pointer (some ⟨b, 0, none⟩)) Z Z ?_)
  refine Za Z Z (Zm (v := .pointer (some ⟨b, 0, none⟩)) Z Z ?_)
  refine Za Z Z (QfW hS Tryz.underlying78 Tryz.underlying152 hj hj0 (by simp) Z Z ?_)
  refine Za Z Z (QfY (fn := Tryz.f86) Z Z Tryz.func86 Qnd (by kernel_rfl) (by kernel_rfl) (by kernel_rfl) Z ?_)
  refine Za Z Z (Qew hS Tryz.underlying152 Tryz.underlying78 hj YL Z Z ?_)
  refine Za Z Z (QR Z Z ?_)
  refine Za Z Z (Zp YF0 Z Z Z ?_)
  refine Za Z Z (Qp (ds := [.pointer (some ⟨b, 0, none⟩)]) (es := [.pointer (some ⟨b, 0, none⟩), v]) hS QlI Z Z Z Z (by intro v hv; simp at hv; subst hv; rfl) (Nat.le_of_ble_eq_true Z) Z ?_)
  intro w' hS'
  refine Zb ?_
  exact ⟨_, Qgn Z, hS'⟩
 ·refine Za Z Z (Qb6 Tryz.underlying78 Z Z Z ?_)
  refine Zb (Ze ?_)
  refine K6 Z ?_
  refine Zc ?_
  refine Zd ?_
  refine Za Z Z (Zm (v := .pointer (some ⟨b, 0, none⟩)) Z Z ?_)
  refine Za Z Z (QR Z Z ?_)
  refine Za Z Z (Zp YF0 Z Z Z ?_)
  refine Za Z Z (Zn hS QlI Z Z Z ?_)
  refine Za Z Z (Zm (v := .pointer (some ⟨b, 0, none⟩)) Z Z ?_)
  refine Za Z Z (QdX Tryz.underlying78 hj Z Z Z ?_)
  refine Zb (Ze ?_)
  refine K6 Z ?_
  refine QT ?_
  exact ⟨_, Qgn Z, hS⟩
theorem Y4 {w0 w : World} {s : PHeap} {H : List Res} {b : Nat} {xs zs : List Int} {q : ByteArray} (hm : QdZ xs q = some zs) (hS : St w0 s (.bld 81 5 b xs :: H) w) :
  Calls Tryz.prog 29 #[.pointer (some ⟨b, 0, none⟩), .string q] w fun e w' => ∃ u, e = .returned u ∧ (u = .tuple #[.int .i64 (q.size : Int), .nilIface] ∧ St w0 s (.bld 81 5 b zs :: H) w') := by
 obtain ⟨pv, v, hp, hS1⟩ := hS.bld_open
 have hv : v.oneCell' = true := (hS1.perm (.swap _ _ _)).arr_one
 refine Qb Tryz.func29 Z Z ?_
 refine Zc ?_
 refine Zd ?_
 refine Za Z Z (Zo (v := .int .i64 0) Z Z ?_)
 refine Za Z Z (Zo (v := .nilIface) Z Z ?_)
 refine Zb (Ze ?_)
 refine Zc ?_
 refine Zd ?_
 refine Za Z Z (Zm (v := .pointer (some ⟨b, 0, none⟩)) Z Z ?_)
 refine Za Z Z (Exec.call Z Z Tryz.func61 Z Qne (Zi Z Qw) ((Qj5 hp hS1 hv).mono ?_))
 rintro _ w2 ⟨u, rfl, hS2⟩
 refine ⟨_, Z, ?_⟩
 refine Zb (Ze ?_)
 refine Zc ?_
 refine Zd ?_
 refine Za Z Z (Zm (v := .pointer (some ⟨b, 0, none⟩)) Z Z ?_)
 refine Za Z Z (Zm (v := .pointer (some ⟨b, 0, none⟩)) Z Z ?_)
 refine Za Z Z (QR Z Z ?_)
 refine Za Z Z (Zp YF1 Z Z Z ?_)
 refine Za Z Z (Zn hS2 Qjf Z Z Z ?_)
 refine Za Z Z (Zm (v := .string q) Z Z ?_)
 refine Za Z Z (QeN (hS2.perm (.swap _ _ _)) QkR Tryz.underlying9 YZ5 Z Z Z hm ?_)
 intro v' w3 hS3
 have hv' : v'.oneCell' = true := hS3.arr_one
 have hc' : v'.cells = #[v'] := by cases v' <;> simp_all [Value.cells, Value.oneCell']
 refine Za Z Z (QR Z Z ?_)
 refine Za Z Z (Zp YF1 Z Z Z ?_)
 refine Za Z Z (Qp (v := v') (ds := [v']) (es := [.pointer (some ⟨b, 0, none⟩), v']) (hS3.perm (.swap _ _ _)) Qjf Z Z Z hc' (by intro v hv; simp at hv; subst hv; exact hv') (Nat.le_of_ble_eq_true Z) Z ?_)
 intro w4 hS4
 refine Zb (Ze ?_)
 refine Zc ?_
 refine Zd ?_
 refine Za Z Z (Zm (v := .string q) Z Z ?_)
 refine Za Z Z (QC Tryz.underlying9 Z Z ?_)
 refine Za Z Z (Zo (v := .int .i64 (q.size : Int)) Z Z ?_)
 refine Za Z Z (Zo (v := .nilIface) Z Z ?_)
 refine Zb (Ze ?_)
 refine Qa3 ?_
 exact ⟨_, KA Z, Z, hS4.bld_close (.inr Z)⟩
theorem QfQ {w0 w : World} {s : PHeap} {H : List Res} {b : Nat} {xs : List Int} {q : ByteArray} (hm : Qff xs = some q) (hS : St w0 s (.bld 81 5 b xs :: H) w) :
  Calls Tryz.prog 32 #[.pointer (some ⟨b, 0, none⟩)] w fun e w' => ∃ u, e = .returned u ∧ (u = .string q ∧ St w0 s H w') := by
 obtain ⟨pv, v, hp, hS1⟩ := hS.bld_open
 have hx0 := (Qfy hm).1
 refine Qb Tryz.func32 Z Z ?_
 refine Zc ?_
 refine Zd ?_
 refine Za Z Z (Zo (v := .string ⟨#[]⟩) Z Z ?_)
 refine Zb (Ze ?_)
 refine Zc ?_
 refine KG (n0 := 12) (.q 0 (.q 1 (.q 2 (.q 3 (.q 5 (.q 6 (.q 7 (.q 8 (.q 9 (.e 4 [5, 6, 7, 8, 9] (.e 10 [] (.q 11 .done)))))))))))) YM (by kernel_rfl) (by kernel_rfl) ?_
 have hS2 := hS1.drew
 have hA := hS2.perm (.swap _ _ _)
 refine J1 Z Z (Zm (v := .pointer (some ⟨b, 0, none⟩)) Z Z ⟨Z, ?_⟩)
 refine J1 Z Z (QR Z Z ⟨Z, ?_⟩)
 refine J1 Z Z (Zp YF1 Z Z Z ⟨Z, ?_⟩)
 refine J1 Z Z (Zn hS2 Qjf Z Z Z ⟨Z, ?_⟩)
 refine J1 Z Z (Zm (v := .pointer (some ⟨b, 0, none⟩)) Z Z ⟨Z, ?_⟩)
 refine J1 Z Z (QR Z Z ⟨Z, ?_⟩)
 refine J1 Z Z (Zp YF1 Z Z Z ⟨Z, ?_⟩)
 refine J1 Z Z (Zn hS2 Qjf Z Z Z ⟨Z, ?_⟩)
 refine J1 Z Z (Qv hA QkR Z Z ⟨Z, ?_⟩)
 refine QeF Z Z (QeL hA hx0 Z Z ?_)
 intro g cap hv
 refine ⟨(Kq (Qcf Z Z (Zm (v := .pointer (some ⟨b, 0, none⟩)) Z Z ⟨Z, Z⟩)) (Kq (Qcf Z Z (QR Z Z ⟨Z, Z⟩)) (Kq (Qcf Z Z (Zp YF1 Z Z Z ⟨Z, Z⟩)) (Kq (Qcf Z Z (Zn hS2 Qjf Z Z Z ⟨Z, Z⟩)) (Kq (Qcf Z Z (Qv hA QkR Z Z ⟨Z, Z⟩)) YQ))))), ?_⟩
 refine QeF Z Z (Qdo hA hv Tryz.underlying127 YC5 Z Z Z hm ?_)
 intro w' hS3
 refine ⟨YQ, ?_⟩
 refine J1 Z Z (Zo (v := .string q) Z Z ⟨Z, ?_⟩)
 refine Zb (Ze ?_)
 refine Qa3 ?_
 exact ⟨_, Qaf Z, Z, hS3.drop⟩
theorem QhW {w0 w : World} {s : PHeap} {H : List Res} {b : Nat} {xs : List Int} (hS : St w0 s (.bld 81 5 b xs :: H) w) :
  Calls Tryz.prog 31 #[.pointer (some ⟨b, 0, none⟩)] w fun e w' => ∃ u, e = .returned u ∧ (u = .int .i64 (xs.length : Int) ∧ St w0 s (.bld 81 5 b xs :: H) w') := by
 obtain ⟨pv, v, hp, hS1⟩ := hS.bld_open
 have hA := hS1.perm (.swap _ _ _)
 refine Qb Tryz.func31 Z Z ?_
 refine Zc ?_
 refine Zd ?_
 refine Za Z Z (Zo (v := .int .i64 0) Z Z ?_)
 refine Zb (Ze ?_)
 refine Zc ?_
 refine Zd ?_
 refine Za Z Z (Zm (v := .pointer (some ⟨b, 0, none⟩)) Z Z ?_)
 refine Za Z Z (QR Z Z ?_)
 refine Za Z Z (Zp YF1 Z Z Z ?_)
 refine Za Z Z (Zn hS1 Qjf Z Z Z ?_)
 refine Za Z Z (Qv hA QkR Z Z ?_)
 refine Za Z Z (Zo (v := .int .i64 (xs.length : Int)) Z Z ?_)
 refine Zb (Ze ?_)
 refine Qa3 ?_
 exact ⟨_, Qaf Z, Z, hS1.bld_close hp⟩
end Go.Pw
