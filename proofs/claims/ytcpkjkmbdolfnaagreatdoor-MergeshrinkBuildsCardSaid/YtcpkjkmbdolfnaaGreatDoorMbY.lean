/- -/
import Derived.Test.YtcpkjkmbdolfnaaGreatDoorLE
import Derived.Test.YtcpkjkmbdolfnaaGreatDoorLC
import Derived.Test.YtcpkjkmbdolfnaaGreatDoorProg
import Derived.KernelRfl
set_option maxRecDepth 100000
set_option maxHeartbeats 4000000
set_option linter.unusedSimpArgs false
set_option linter.unusedVariables false
namespace Go.Pw
open Go.Proofs
theorem YF0 : Qdv Tryz.prog 179 0 = some 0 := by kernel_rfl
theorem YF1 : Qdv Tryz.prog 179 1 = some 1 := by kernel_rfl
theorem QnY : Yx Tryz.prog 176 = some (false, 1) := by kernel_rfl
theorem QlF : Yx Tryz.prog 177 = some (false, 1) := by kernel_rfl
theorem QnX : QV Tryz.prog 177 = some (5, 1, 1) := by kernel_rfl
theorem YZ5 : Jp Tryz.prog 5 = some (.int .u8 0) := by kernel_rfl
theorem YM : Tryz.prog.follows .mixedOrders = true := by kernel_rfl
theorem Qpa : (Tryz.f138.name == "runtime.NumGoroutine") = false := by kernel_rfl
theorem QoZ : (Tryz.f151.name == "runtime.NumGoroutine") = false := by kernel_rfl
theorem YL : liesAt Tryz.prog Tryz.prog.depth 179 (2 / Tryz.prog.cellsOf 179) 0 179 1 = true := by kernel_rfl
theorem Qpb : ∃ j, Tryz.prog.info? 179 = some j ∧ j.size ≠ 0 := by
 have h : (Tryz.prog.info? 179).map (·.size) = some 2 := by kernel_rfl
 obtain ⟨j, h1, h2⟩ := Option.map_eq_some_iff.1 h
 exact ⟨j, h1, by omega⟩
theorem YC5 : Tryz.prog.cellsOf 5 = 1 := by kernel_rfl
theorem Ql2 {w0 w : World} {s : PHeap} {H : List Res} {b : Nat} {pv v : Value} (hp : QhY b pv) (hS : St w0 s (.box b 179 [pv, v] :: H) w) (hv : v.oneCell' = true) :
  Calls Tryz.prog 138 #[.pointer (some ⟨b, 0, none⟩)] w fun e w' => ∃ u, e = .returned u ∧ St w0 s (.box b 179 [.pointer (some ⟨b, 0, none⟩), v] :: H) w' := by
 obtain ⟨j, hj, hj0⟩ := Qpb
 refine Qj Tryz.func138 Z Z ?_
 refine Zc ?_
 refine Zd ?_
 refine Za Z Z (Zm (v := .pointer (some ⟨b, 0, none⟩)) Z Z ?_)
 refine Za Z Z (Jv Z Z ?_)
 refine Za Z Z (Zp YF0 Z Z Z ?_)
 refine Za Z Z (Zn hS QnY Z Z Z ?_)
 rcases hp with rfl | rfl
 ·refine Za Z Z (QaY Tryz.underlying176 Z Z Z ?_)
  refine Zb (Ze ?_)
  refine QaO Z ?_
  refine Zd ?_
  refine Za Z Z (Zm (v := .pointer (some ⟨b, 0, none⟩)) Z Z ?_)
  refine Za Z Z (Zm (v := .pointer (some ⟨b, 0, none⟩)) Z Z ?_)
  refine Za Z Z (Qhf hS Tryz.underlying176 Tryz.underlying202 hj hj0 (by simp) Z Z ?_)
  refine Za Z Z (Qhi (fn := Tryz.f151) Z Z Tryz.func151 QoZ (by kernel_rfl) (by kernel_rfl) (by kernel_rfl) Z ?_)
  refine Za Z Z (Qfw hS Tryz.underlying202 Tryz.underlying176 hj YL Z Z ?_)
  refine Za Z Z (Jv Z Z ?_)
  refine Za Z Z (Zp YF0 Z Z Z ?_)
  refine Za Z Z (Qq (ds := [.pointer (some ⟨b, 0, none⟩)]) (es := [.pointer (some ⟨b, 0, none⟩), v]) hS QnY Z Z Z Z (by intro v hv; simp at hv; subst hv; rfl) (Nat.le_of_ble_eq_true Z) Z ?_)
  intro w' hS'
  refine Zb ?_
  exact ⟨_, Qn3 Z, hS'⟩
 ·refine Za Z Z (QaY Tryz.underlying176 Z Z Z ?_)
  refine Zb (Ze ?_)
  refine Qba Z ?_
  refine Zc ?_
  refine Zd ?_
  refine Za Z Z (Zm (v := .pointer (some ⟨b, 0, none⟩)) Z Z ?_)
  refine Za Z Z (Jv Z Z ?_)
  refine Za Z Z (Zp YF0 Z Z Z ?_)
  refine Za Z Z (Zn hS QnY Z Z Z ?_)
  refine Za Z Z (Zm (v := .pointer (some ⟨b, 0, none⟩)) Z Z ?_)
  refine Za Z Z (QeW Tryz.underlying176 hj Z Z Z ?_)
  refine Zb (Ze ?_)
  refine Qba Z ?_
  refine J3 ?_
  exact ⟨_, Qn3 Z, hS⟩
theorem QdT {w0 w : World} {s : PHeap} {H : List Res} {b : Nat} {xs zs : List Int} {q : ByteArray} (hm : QjD xs q = some zs) (hS : St w0 s (.bld 179 5 b xs :: H) w) :
  Calls Tryz.prog 121 #[.pointer (some ⟨b, 0, none⟩), .string q] w fun e w' => ∃ u, e = .returned u ∧ (u = .tuple #[.int .i64 (q.size : Int), .nilIface] ∧ St w0 s (.bld 179 5 b zs :: H) w') := by
 obtain ⟨pv, v, hp, hS1⟩ := hS.bld_open
 have hv : v.oneCell' = true := (hS1.perm (.swap _ _ _)).arr_one
 refine Qj Tryz.func121 Z Z ?_
 refine Zc ?_
 refine Zd ?_
 refine Za Z Z (Zo (v := .int .i64 0) Z Z ?_)
 refine Za Z Z (Zo (v := .nilIface) Z Z ?_)
 refine Zb (Ze ?_)
 refine Zc ?_
 refine Zd ?_
 refine Za Z Z (Zm (v := .pointer (some ⟨b, 0, none⟩)) Z Z ?_)
 refine Za Z Z (Exec.call Z Z Tryz.func138 Z Qpa (Zi Z QT) ((Ql2 hp hS1 hv).mono ?_))
 rintro _ w2 ⟨u, rfl, hS2⟩
 refine ⟨_, Z, ?_⟩
 refine Zb (Ze ?_)
 refine Zc ?_
 refine Zd ?_
 refine Za Z Z (Zm (v := .pointer (some ⟨b, 0, none⟩)) Z Z ?_)
 refine Za Z Z (Zm (v := .pointer (some ⟨b, 0, none⟩)) Z Z ?_)
 refine Za Z Z (Jv Z Z ?_)
 refine Za Z Z (Zp YF1 Z Z Z ?_)
 refine Za Z Z (Zn hS2 QlF Z Z Z ?_)
 refine Za Z Z (Zm (v := .string q) Z Z ?_)
 refine Za Z Z (QfQ (hS2.perm (.swap _ _ _)) QnX Tryz.underlying9 YZ5 Z Z Z hm ?_)
 intro v' w3 hS3
 have hv' : v'.oneCell' = true := hS3.arr_one
 have hc' : v'.cells = #[v'] := by cases v' <;> simp_all [Value.cells, Value.oneCell']
 refine Za Z Z (Jv Z Z ?_)
 refine Za Z Z (Zp YF1 Z Z Z ?_)
 refine Za Z Z (Qq (v := v') (ds := [v']) (es := [.pointer (some ⟨b, 0, none⟩), v']) (hS3.perm (.swap _ _ _)) QlF Z Z Z hc' (by intro v hv; simp at hv; subst hv; exact hv') (Nat.le_of_ble_eq_true Z) Z ?_)
 intro w4 hS4
 refine Zb (Ze ?_)
 refine Zc ?_
 refine Zd ?_
 refine Za Z Z (Zm (v := .string q) Z Z ?_)
 refine Za Z Z (Qa9 Tryz.underlying9 Z Z ?_)
 refine Za Z Z (Zo (v := .int .i64 (q.size : Int)) Z Z ?_)
 refine Za Z Z (Zo (v := .nilIface) Z Z ?_)
 refine Zb (Ze ?_)
 refine Qh6 ?_
 exact ⟨_, Qb4 Z, Z, hS4.bld_close (.inr Z)⟩
theorem Qha {w0 w : World} {s : PHeap} {H : List Res} {b : Nat} {xs : List Int} {q : ByteArray} (hm : Qgg xs = some q) (hS : St w0 s (.bld 179 5 b xs :: H) w) :
  Calls Tryz.prog 124 #[.pointer (some ⟨b, 0, none⟩)] w fun e w' => ∃ u, e = .returned u ∧ (u = .string q ∧ St w0 s H w') := by
 obtain ⟨pv, v, hp, hS1⟩ := hS.bld_open
 have hx0 := (Qg9 hm).1
 refine Qj Tryz.func124 Z Z ?_
 refine Zc ?_
 refine Zd ?_
 refine Za Z Z (Zo (v := .string ⟨#[]⟩) Z Z ?_)
 refine Zb (Ze ?_)
 refine Zc ?_
 refine Jz (n0 := 12) (.q 0 (.q 1 (.q 2 (.q 3 (.q 5 (.q 6 (.q 7 (.q 8 (.q 9 (.e 4 [5, 6, 7, 8, 9] (.e 10 [] (.q 11 .done)))))))))))) YM (by kernel_rfl) (by kernel_rfl) ?_
 have hS2 := hS1.drew
 have hA := hS2.perm (.swap _ _ _)
 refine YE Z Z (Zm (v := .pointer (some ⟨b, 0, none⟩)) Z Z ⟨Z, ?_⟩)
 refine YE Z Z (Jv Z Z ⟨Z, ?_⟩)
 refine YE Z Z (Zp YF1 Z Z Z ⟨Z, ?_⟩)
 refine YE Z Z (Zn hS2 QlF Z Z Z ⟨Z, ?_⟩)
 refine YE Z Z (Zm (v := .pointer (some ⟨b, 0, none⟩)) Z Z ⟨Z, ?_⟩)
 refine YE Z Z (Jv Z Z ⟨Z, ?_⟩)
 refine YE Z Z (Zp YF1 Z Z Z ⟨Z, ?_⟩)
 refine YE Z Z (Zn hS2 QlF Z Z Z ⟨Z, ?_⟩)
 refine YE Z Z (Qw hA QnX Z Z ⟨Z, ?_⟩)
 refine QkU Z Z (QfP hA hx0 Z Z ?_)
 intro g cap hv
 refine ⟨(Qa (Qi Z Z (Zm (v := .pointer (some ⟨b, 0, none⟩)) Z Z ⟨Z, Z⟩)) (Qa (Qi Z Z (Jv Z Z ⟨Z, Z⟩)) (Qa (Qi Z Z (Zp YF1 Z Z Z ⟨Z, Z⟩)) (Qa (Qi Z Z (Zn hS2 QlF Z Z Z ⟨Z, Z⟩)) (Qa (Qi Z Z (Qw hA QnX Z Z ⟨Z, Z⟩)) Q1))))), ?_⟩
 refine QkU Z Z (Qer hA hv Tryz.underlying194 YC5 Z Z Z hm ?_)
 intro w' hS3
 refine ⟨Q1, ?_⟩
 refine YE Z Z (Zo (v := .string q) Z Z ⟨Z, ?_⟩)
 refine Zb (Ze ?_)
 refine Qh6 ?_
 exact ⟨_, Yc Z, Z, hS3.drop⟩
end Go.Pw
