/- -/
import Derived.Test.YtjbjflndiajoiaaGreatDoorLE
import Derived.Test.YtjbjflndiajoiaaGreatDoorLC
import Derived.Test.YtjbjflndiajoiaaGreatDoorProg
import Derived.KernelRfl
set_option maxRecDepth 100000
set_option maxHeartbeats 4000000
set_option linter.unusedSimpArgs false
set_option linter.unusedVariables false
namespace Go.Pw
open Go.Proofs
theorem YF0 : Qe4 Tryz.prog 173 0 = some 0 := by kernel_rfl
theorem YF1 : Qe4 Tryz.prog 173 1 = some 1 := by kernel_rfl
theorem QpB : YB Tryz.prog 170 = some (false, 1) := by kernel_rfl
theorem Qma : YB Tryz.prog 171 = some (false, 1) := by kernel_rfl
theorem Qo0 : QZ Tryz.prog 171 = some (5, 1, 1) := by kernel_rfl
theorem YZ5 : Ji Tryz.prog 5 = some (.int .u8 0) := by kernel_rfl
theorem YM : Tryz.prog.follows .mixedOrders = true := by kernel_rfl
theorem QqR : (Tryz.f133.name == "runtime.NumGoroutine") = false := by kernel_rfl
theorem QqQ : (Tryz.f167.name == "runtime.NumGoroutine") = false := by kernel_rfl
theorem YL : liesAt Tryz.prog Tryz.prog.depth 173 (2 / Tryz.prog.cellsOf 173) 0 173 1 = true := by kernel_rfl
theorem QqS : ∃ j, Tryz.prog.info? 173 = some j ∧ j.size ≠ 0 := by
 have h : (Tryz.prog.info? 173).map (·.size) = some 2 := by kernel_rfl
 obtain ⟨j, h1, h2⟩ := Option.map_eq_some_iff.1 h
 exact ⟨j, h1, by omega⟩
theorem YC5 : Tryz.prog.cellsOf 5 = 1 := by kernel_rfl
theorem QmB {w0 w : World} {s : PHeap} {H : List Res} {b : Nat} {pv v : Value} (hp : Qji b pv) (hS : St w0 s (.box b 173 [pv, v] :: H) w) (hv : v.oneCell' = true) :
  Calls Tryz.prog 133 #[.pointer (some ⟨b, 0, none⟩)] w fun e w' => ∃ u, e = .returned u ∧ St w0 s (.box b 173 [.pointer (some ⟨b, 0, none⟩), v] :: H) w' := by
 obtain ⟨j, hj, hj0⟩ := QqS
 refine Qd Tryz.func133 Z Z ?_
 refine Zc ?_
 refine Zd ?_
 refine Za Z Z (Zm (v := .pointer (some ⟨b, 0, none⟩)) Z Z ?_)
 refine Za Z Z (QV Z Z ?_)
 refine Za Z Z (Zp YF0 Z Z Z ?_)
 refine Za Z Z (Zn hS QpB Z Z Z ?_)
 rcases hp with rfl | rfl
 ·refine Za Z Z (QbK Tryz.underlying170 Z Z Z ?_)
  refine Zb (Ze ?_)
  refine QcA Z ?_
  refine Zd ?_
  refine Za Z Z (Zm (v := .pointer (some ⟨b, 0, none⟩)) Z Z ?_)
  refine Za Z Z (Zm (v := .pointer (some ⟨b, 0, none⟩)) Z Z ?_)
  refine Za Z Z (Qik hS Tryz.underlying170 Tryz.underlying248 hj hj0 (by simp) Z Z ?_)
  refine Za Z Z (Qim (fn := Tryz.f167) Z Z Tryz.func167 QqQ (by kernel_rfl) (by kernel_rfl) (by kernel_rfl) Z ?_)
  refine Za Z Z (Qg0 hS Tryz.underlying248 Tryz.underlying170 hj YL Z Z ?_)
  refine Za Z Z (QV Z Z ?_)
  refine Za Z Z (Zp YF0 Z Z Z ?_)
  refine Za Z Z (Qq (ds := [.pointer (some ⟨b, 0, none⟩)]) (es := [.pointer (some ⟨b, 0, none⟩), v]) hS QpB Z Z Z Z (by intro v hv; simp at hv; subst hv; rfl) (Nat.le_of_ble_eq_true Z) Z ?_)
  intro w' hS'
  refine Zb ?_
  exact ⟨_, Qhg Z, hS'⟩
 ·refine Za Z Z (QbK Tryz.underlying170 Z Z Z ?_)
  refine Zb (Ze ?_)
  refine YW Z ?_
  refine Zc ?_
  refine Zd ?_
  refine Za Z Z (Zm (v := .pointer (some ⟨b, 0, none⟩)) Z Z ?_)
  refine Za Z Z (QV Z Z ?_)
  refine Za Z Z (Zp YF0 Z Z Z ?_)
  refine Za Z Z (Zn hS QpB Z Z Z ?_)
  refine Za Z Z (Zm (v := .pointer (some ⟨b, 0, none⟩)) Z Z ?_)
  refine Za Z Z (QfZ Tryz.underlying170 hj Z Z Z ?_)
  refine Zb (Ze ?_)
  refine YW Z ?_
  refine Jt ?_
  exact ⟨_, Qhg Z, hS⟩
theorem YT {w0 w : World} {s : PHeap} {H : List Res} {b : Nat} {xs zs : List Int} {q : ByteArray} (hm : Qhf xs q = some zs) (hS : St w0 s (.bld 173 5 b xs :: H) w) :
  Calls Tryz.prog 94 #[.pointer (some ⟨b, 0, none⟩), .string q] w fun e w' => ∃ u, e = .returned u ∧ (u = .tuple #[.int .i64 (q.size : Int), .nilIface] ∧ St w0 s (.bld 173 5 b zs :: H) w') := by
 obtain ⟨pv, v, hp, hS1⟩ := hS.bld_open
 have hv : v.oneCell' = true := (hS1.perm (.swap _ _ _)).arr_one
 refine Qd Tryz.func94 Z Z ?_
 refine Zc ?_
 refine Zd ?_
 refine Za Z Z (Zo (v := .int .i64 0) Z Z ?_)
 refine Za Z Z (Zo (v := .nilIface) Z Z ?_)
 refine Zb (Ze ?_)
 refine Zc ?_
 refine Zd ?_
 refine Za Z Z (Zm (v := .pointer (some ⟨b, 0, none⟩)) Z Z ?_)
 refine Za Z Z (Exec.call Z Z Tryz.func133 Z QqR (Zi Z Qw) ((QmB hp hS1 hv).mono ?_))
 rintro _ w2 ⟨u, rfl, hS2⟩
 refine ⟨_, Z, ?_⟩
 refine Zb (Ze ?_)
 refine Zc ?_
 refine Zd ?_
 refine Za Z Z (Zm (v := .pointer (some ⟨b, 0, none⟩)) Z Z ?_)
 refine Za Z Z (Zm (v := .pointer (some ⟨b, 0, none⟩)) Z Z ?_)
 refine Za Z Z (QV Z Z ?_)
 refine Za Z Z (Zp YF1 Z Z Z ?_)
 refine Za Z Z (Zn hS2 Qma Z Z Z ?_)
 refine Za Z Z (Zm (v := .string q) Z Z ?_)
 refine Za Z Z (QgQ (hS2.perm (.swap _ _ _)) Qo0 Tryz.underlying9 YZ5 Z Z Z hm ?_)
 intro v' w3 hS3
 have hv' : v'.oneCell' = true := hS3.arr_one
 have hc' : v'.cells = #[v'] := by cases v' <;> simp_all [Value.cells, Value.oneCell']
 refine Za Z Z (QV Z Z ?_)
 refine Za Z Z (Zp YF1 Z Z Z ?_)
 refine Za Z Z (Qq (v := v') (ds := [v']) (es := [.pointer (some ⟨b, 0, none⟩), v']) (hS3.perm (.swap _ _ _)) Qma Z Z Z hc' (by intro v hv; simp at hv; subst hv; exact hv') (Nat.le_of_ble_eq_true Z) Z ?_)
 intro w4 hS4
 refine Zb (Ze ?_)
 refine Zc ?_
 refine Zd ?_
 refine Za Z Z (Zm (v := .string q) Z Z ?_)
 refine Za Z Z (Qbs Tryz.underlying9 Z Z ?_)
 refine Za Z Z (Zo (v := .int .i64 (q.size : Int)) Z Z ?_)
 refine Za Z Z (Zo (v := .nilIface) Z Z ?_)
 refine Zb (Ze ?_)
 refine Qhh ?_
 exact ⟨_, QaL Z, Z, hS4.bld_close (.inr Z)⟩
theorem Qeu {w0 w : World} {s : PHeap} {H : List Res} {b : Nat} {xs : List Int} {q : ByteArray} (hm : Qg1 xs = some q) (hS : St w0 s (.bld 173 5 b xs :: H) w) :
  Calls Tryz.prog 97 #[.pointer (some ⟨b, 0, none⟩)] w fun e w' => ∃ u, e = .returned u ∧ (u = .string q ∧ St w0 s H w') := by
 obtain ⟨pv, v, hp, hS1⟩ := hS.bld_open
 have hx0 := (QhB hm).1
 refine Qd Tryz.func97 Z Z ?_
 refine Zc ?_
 refine Zd ?_
 refine Za Z Z (Zo (v := .string ⟨#[]⟩) Z Z ?_)
 refine Zb (Ze ?_)
 refine Zc ?_
 refine JE (n0 := 12) (.q 0 (.q 1 (.q 2 (.q 3 (.q 5 (.q 6 (.q 7 (.q 8 (.q 9 (.e 4 [5, 6, 7, 8, 9] (.e 10 [] (.q 11 .done)))))))))))) YM (by kernel_rfl) (by kernel_rfl) ?_
 have hS2 := hS1.drew
 have hA := hS2.perm (.swap _ _ _)
 refine Qaq Z Z (Zm (v := .pointer (some ⟨b, 0, none⟩)) Z Z ⟨Z, ?_⟩)
 refine Qaq Z Z (QV Z Z ⟨Z, ?_⟩)
 refine Qaq Z Z (Zp YF1 Z Z Z ⟨Z, ?_⟩)
 refine Qaq Z Z (Zn hS2 Qma Z Z Z ⟨Z, ?_⟩)
 refine Qaq Z Z (Zm (v := .pointer (some ⟨b, 0, none⟩)) Z Z ⟨Z, ?_⟩)
 refine Qaq Z Z (QV Z Z ⟨Z, ?_⟩)
 refine Qaq Z Z (Zp YF1 Z Z Z ⟨Z, ?_⟩)
 refine Qaq Z Z (Zn hS2 Qma Z Z Z ⟨Z, ?_⟩)
 refine Qaq Z Z (Q0 hA Qo0 Z Z ⟨Z, ?_⟩)
 refine Qmb Z Z (QgP hA hx0 Z Z ?_)
 intro g cap hv
 refine ⟨(Qh (Q1 Z Z (Zm (v := .pointer (some ⟨b, 0, none⟩)) Z Z ⟨Z, Z⟩)) (Qh (Q1 Z Z (QV Z Z ⟨Z, Z⟩)) (Qh (Q1 Z Z (Zp YF1 Z Z Z ⟨Z, Z⟩)) (Qh (Q1 Z Z (Zn hS2 Qma Z Z Z ⟨Z, Z⟩)) (Qh (Q1 Z Z (Q0 hA Qo0 Z Z ⟨Z, Z⟩)) J5))))), ?_⟩
 refine Qmb Z Z (Qft hA hv Tryz.underlying214 YC5 Z Z Z hm ?_)
 intro w' hS3
 refine ⟨J5, ?_⟩
 refine Qaq Z Z (Zo (v := .string q) Z Z ⟨Z, ?_⟩)
 refine Zb (Ze ?_)
 refine Qhh ?_
 exact ⟨_, KR Z, Z, hS3.drop⟩
theorem QkG {w0 w : World} {s : PHeap} {H : List Res} {b : Nat} {xs : List Int} (hS : St w0 s (.bld 173 5 b xs :: H) w) :
  Calls Tryz.prog 96 #[.pointer (some ⟨b, 0, none⟩)] w fun e w' => ∃ u, e = .returned u ∧ (u = .int .i64 (xs.length : Int) ∧ St w0 s (.bld 173 5 b xs :: H) w') := by
 obtain ⟨pv, v, hp, hS1⟩ := hS.bld_open
 have hA := hS1.perm (.swap _ _ _)
 refine Qd Tryz.func96 Z Z ?_
 refine Zc ?_
 refine Zd ?_
 refine Za Z Z (Zo (v := .int .i64 0) Z Z ?_)
 refine Zb (Ze ?_)
 refine Zc ?_
 refine Zd ?_
 refine Za Z Z (Zm (v := .pointer (some ⟨b, 0, none⟩)) Z Z ?_)
 refine Za Z Z (QV Z Z ?_)
 refine Za Z Z (Zp YF1 Z Z Z ?_)
 refine Za Z Z (Zn hS1 Qma Z Z Z ?_)
 refine Za Z Z (Q0 hA Qo0 Z Z ?_)
 refine Za Z Z (Zo (v := .int .i64 (xs.length : Int)) Z Z ?_)
 refine Zb (Ze ?_)
 refine Qhh ?_
 exact ⟨_, KR Z, Z, hS1.bld_close hp⟩
end Go.Pw
