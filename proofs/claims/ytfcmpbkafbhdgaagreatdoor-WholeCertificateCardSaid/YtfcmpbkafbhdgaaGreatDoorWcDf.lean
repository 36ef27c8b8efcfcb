/- -/
import Derived.Test.YtfcmpbkafbhdgaaGreatDoorWc8
import Derived.Test.YtfcmpbkafbhdgaaGreatDoorLF
import Derived.Test.YtfcmpbkafbhdgaaGreatDoorLC
import Derived.Test.YtfcmpbkafbhdgaaGreatDoorProg
import Derived.KernelRfl
set_option maxRecDepth 100000
set_option maxHeartbeats 4000000
set_option linter.unusedSimpArgs false
set_option linter.unusedVariables false
namespace Go.Pw
open Go.Proofs
theorem QgG : QA Tryz.prog 23 = some (52, 2, 16) := by kernel_rfl
theorem Qnn : Jl Tryz.prog 52 = some (.agg #[.int .i64 0, .int .i64 0]) := by kernel_rfl
theorem DMx : Tryz.prog.follows .mixedOrders = true := by kernel_rfl
theorem QkA {w0 w : World} {s : PHeap} {H : List Res} {xs : List Fact} {i j : Int} {v : Value} {r : List Fact} (hm : Qfi xs i j = some r) (hS : St w0 s (Res.arr encFact 52 v xs :: H) w) :
  Calls Tryz.prog 37 #[v, Value.int .i64 i, Value.int .i64 j] w fun e w' => ∃ u, e = .returned u ∧ ((fun (l : List Fact) => ∃ (s' : PHeap) (v' : Value), PHeap.le s s' ∧ St w0 s' (Res.arr encFact 52 v' l :: H) w' ∧ u = v') r) := by
 unfold Qfi at hm
 split at hm
 ·rename_i hc
  obtain ⟨h0, hij, hj, hpos⟩ := hc
  have hr := Zu hm
  subst hr
  refine Qb Tryz.func37 Z Z ?_
  refine Zc ?_
  refine Zd ?_
  refine Za Z Z (Zo (v := .slice none 0 0) Z Z ?_)
  refine Zb (Ze ?_)
  refine Zc ?_
  refine Zd ?_
  refine Za Z Z (Zm (v := v) Z Z ?_)
  refine Za Z Z (Zm (v := .int .i64 i) Z Z ?_)
  refine Za Z Z (Zm (v := .int .i64 j) Z Z ?_)
  refine Za Z Z (Zm (v := v) Z Z ?_)
  refine Za Z Z (Qv hS QgG Z Z ?_)
  refine Za Z Z (QcW (E := encFact) hS QgG Z Z Z Z Z h0 hij hj (Int.le_refl _) hpos ?_)
  intro u0
  refine Zb (Ze ?_)
  refine Zc ?_
  refine Zc ?_
  refine Zd ?_
  refine Za Z Z (Zm (v := .int .i64 i) Z Z ?_)
  refine Za Z Z (Zm (v := .int .i64 j) Z Z ?_)
  refine Za Z Z (Exec.eql Z Z Z ?_)
  refine Zb (Ze ?_)
  by_cases he : i = j
  ·subst he
   refine KB (congrArg Value.bool (decide_eq_true Z)) ?_
   refine Zc ?_
   refine Zd ?_
   refine Za Z Z (Zm (v := v) Z Z ?_)
   refine Za Z Z (Zo (v := v) Z Z ?_)
   refine Zb (Ze ?_)
   refine Qa3 (Qcl ?_)
   refine ⟨_, Qaf Z, s, v, Zv _, ?_, Z⟩
   rw [List.take_append_drop]
   exact hS
  ·refine K6 (congrArg Value.bool (decide_eq_false he)) ?_
   refine QT (Ze ?_)
   refine Zc ?_
   refine Zd ?_
   refine Za Z Z (Zm (v := v) Z Z ?_)
   refine Za Z Z (Qv hS QgG Z Z ?_)
   refine Za Z Z (Zo (v := .int .i64 (xs.length : Int)) Z Z ?_)
   refine Zb (Ze ?_)
   refine Zc ?_
   refine KG (n0 := 8) (.q 0 (.q 1 (.q 2 (.q 3 (.q 4 (.q 5 (.e 6 [] (.e 7 [] .done)))))))) DMx (by kernel_rfl) (by kernel_rfl) ?_
   have hS2 := hS.drew
   have hvi : Yy xs 0 i = some i.toNat := by unfold Yy; rw [if_pos ⟨Int.le_refl _, h0, by omega, hpos⟩]; simp
   have hvj : Yy xs j (xs.length : Int) = some (xs.length - j.toNat) := by unfold Yy; rw [if_pos ⟨by omega, by omega, Int.le_refl _, hpos⟩]; congr 1; omega
   refine J1 Z Z (Zm (v := v) Z Z ⟨Z, ?_⟩)
   refine J1 Z Z (Zm (v := .int .i64 i) Z Z ⟨Z, ?_⟩)
   refine J1 Z Z (Qaz hS2 QgG Z Z Z hvi fun u1 hu1 => ⟨Z, ?_⟩)
   refine J1 Z Z (Zm (v := v) Z Z ⟨Z, ?_⟩)
   refine J1 Z Z (Zm (v := .int .i64 j) Z Z ⟨Z, ?_⟩)
   refine J1 Z Z (Qan hS2 QgG Z Z Z hvj fun u2 hu2 => ⟨Z, ?_⟩)
   refine QeF Z Z (Qbp (i := i.toNat) (j := j.toNat) hS2 QgG hu1 hu2 (by omega) (by omega) hpos Z Z Z ?_)
   intro u3 w3 hu3 hS3
   refine ⟨YQ, ?_⟩
   refine QeF Z Z (Zo (v := u3) Z Z ⟨YQ, ?_⟩)
   refine Zb (Ze ?_)
   have hn : i.toNat + (xs.length - j.toNat) ≤ xs.length := by omega
   have hl3 : (xs.take i.toNat ++ xs.drop j.toNat ++ xs.drop (xs.length - (j.toNat - i.toNat))).length = xs.length := by simp; omega
   refine Zc ?_
   refine Zd ?_
   refine Za Z Z (Zm (v := u3) Z Z ?_)
   refine Za Z Z (Zm (v := u3) Z Z ?_)
   refine Za Z Z (QbR QgG hu3 Z Z ?_)
   refine Za Z Z (Zm (v := .int .i64 (xs.length : Int)) Z Z ?_)
   refine Za Z Z (Qcd hS3 (by omega) hu3 QgG Z Z Z Z (by omega) (by omega) (by omega) fun u4 hu4 => ?_)
   refine Za Z Z (QaO (y := Fact.mk 0 0) hS3 hu4 (by omega) QgG Qnn (⟨[_], [_], Z, Z, Z⟩) Z Z ?_)
   intro w4 hS4
   refine Zb (Ze ?_)
   refine Zc ?_
   refine Zd ?_
   refine Za Z Z (Zm (v := u3) Z Z ?_)
   refine Za Z Z (Zo (v := u3) Z Z ?_)
   refine Zb (Ze ?_)
   refine Qa3 ?_
   refine ⟨_, Qaf Z, s, u3, Zv _, ?_, Z⟩
   have h5 := hS4.arr_head (m := i.toNat + (xs.length - j.toNat)) hu3 (by simp; omega)
   have hl2 : (xs.take i.toNat ++ xs.drop j.toNat).length = i.toNat + (xs.length - j.toNat) := by simp; omega
   have e5 : ((((i.toNat + (xs.length - j.toNat) : Nat) : Int)).toNat) = i.toNat + (xs.length - j.toNat) := by omega
   rw [e5, List.append_assoc, List.take_left' (by rw [List.length_take, List.length_append, hl2]; omega), ← hl2, List.take_left' rfl] at h5
   exact h5
 ·cases hm
end Go.Pw
