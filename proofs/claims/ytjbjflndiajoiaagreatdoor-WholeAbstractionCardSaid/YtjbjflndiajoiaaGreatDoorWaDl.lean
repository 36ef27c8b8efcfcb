/- -/
import Derived.Test.YtjbjflndiajoiaaGreatDoorWa5
import Derived.Test.YtjbjflndiajoiaaGreatDoorL20
import Derived.Test.YtjbjflndiajoiaaGreatDoorLC
import Derived.Test.YtjbjflndiajoiaaGreatDoorProg
import Derived.KernelRfl
set_option maxRecDepth 100000
set_option maxHeartbeats 4000000
set_option linter.unusedSimpArgs false
set_option linter.unusedVariables false
namespace Go.Pw
open Go.Proofs
theorem Qje : QZ Tryz.prog 56 = some (4, 1, 1) := by kernel_rfl
theorem DZ4 : Ji Tryz.prog 4 = some (.bool false) := by kernel_rfl
theorem DMx : Tryz.prog.follows .mixedOrders = true := by kernel_rfl
theorem Qog {w0 w : World} {s : PHeap} {H : List Res} {xs : List Bool} {i j : Int} {v : Value} {r : List Bool} (hm : Qho xs i j = some r) (hS : St w0 s (Res.arr encBool 4 v xs :: H) w) :
  Calls Tryz.prog 116 #[v, Value.int .i64 i, Value.int .i64 j] w fun e w' => ∃ u, e = .returned u ∧ ((fun (l : List Bool) => ∃ (s' : PHeap) (v' : Value), PHeap.le s s' ∧ St w0 s' (Res.arr encBool 4 v' l :: H) w' ∧ u = v') r) := by
 unfold Qho at hm
 split at hm
 ·rename_i hc
  obtain ⟨h0, hij, hj, hpos⟩ := hc
  have hr := Zu hm
  subst hr
  refine Qd Tryz.func116 Z Z ?_
  refine Zc ?_
  refine Zd ?_
  refine Za Z Z (Zo (v := .slice none 0 0) Z Z ?_)
  refine Zb (Ze ?_)
  refine Zc ?_
  refine Zd ?_
  refine Za Z Z (Zm (v := v) Z Z ?_)
  refine Za Z Z (Zm (v := .int .i64 i) Z Z ?_)
  refine Za Z Z (Zm (v := .int .i64 j) Z Z ?_)
  refine Za Z Z (Zm (v := v) Z Z ?_)
  refine Za Z Z (Q0 hS Qje Z Z ?_)
  refine Za Z Z (Qi7 (E := encBool) hS Qje Z Z Z Z Z h0 hij hj (Int.le_refl _) hpos ?_)
  intro u0
  refine Zb (Ze ?_)
  refine Zc ?_
  refine Zc ?_
  refine Zd ?_
  refine Za Z Z (Zm (v := .int .i64 i) Z Z ?_)
  refine Za Z Z (Zm (v := .int .i64 j) Z Z ?_)
  refine Za Z Z (Exec.eql Z Z Z ?_)
  refine Zb (Ze ?_)
  by_cases he : i = j
  ·subst he
   refine QcA (congrArg Value.bool (decide_eq_true Z)) ?_
   refine Zc ?_
   refine Zd ?_
   refine Za Z Z (Zm (v := v) Z Z ?_)
   refine Za Z Z (Zo (v := v) Z Z ?_)
   refine Zb (Ze ?_)
   refine Qhh (QkW ?_)
   refine ⟨_, KR Z, s, v, Zv _, ?_, Z⟩
   rw [List.take_append_drop]
   exact hS
  ·refine YW (congrArg Value.bool (decide_eq_false he)) ?_
   refine Jt (Ze ?_)
   refine Zc ?_
   refine Zd ?_
   refine Za Z Z (Zm (v := v) Z Z ?_)
   refine Za Z Z (Q0 hS Qje Z Z ?_)
   refine Za Z Z (Zo (v := .int .i64 (xs.length : Int)) Z Z ?_)
   refine Zb (Ze ?_)
   refine Zc ?_
   refine JE (n0 := 8) (.q 0 (.q 1 (.q 2 (.q 3 (.q 4 (.q 5 (.e 6 [] (.e 7 [] .done)))))))) DMx (by kernel_rfl) (by kernel_rfl) ?_
   have hS2 := hS.drew
   have hvi : Qa3 xs 0 i = some i.toNat := by unfold Qa3; rw [if_pos ⟨Int.le_refl _, h0, by omega, hpos⟩]; simp
   have hvj : Qa3 xs j (xs.length : Int) = some (xs.length - j.toNat) := by unfold Qa3; rw [if_pos ⟨by omega, by omega, Int.le_refl _, hpos⟩]; congr 1; omega
   refine Qaq Z Z (Zm (v := v) Z Z ⟨Z, ?_⟩)
   refine Qaq Z Z (Zm (v := .int .i64 i) Z Z ⟨Z, ?_⟩)
   refine Qaq Z Z (QaY hS2 Qje Z Z Z hvi fun u1 hu1 => ⟨Z, ?_⟩)
   refine Qaq Z Z (Zm (v := v) Z Z ⟨Z, ?_⟩)
   refine Qaq Z Z (Zm (v := .int .i64 j) Z Z ⟨Z, ?_⟩)
   refine Qaq Z Z (Yn hS2 Qje Z Z Z hvj fun u2 hu2 => ⟨Z, ?_⟩)
   refine Qmb Z Z (Qga (i := i.toNat) (j := j.toNat) hS2 Qje hu1 hu2 (by omega) (by omega) hpos Z Z Z ?_)
   intro u3 w3 hu3 hS3
   refine ⟨J5, ?_⟩
   refine Qmb Z Z (Zo (v := u3) Z Z ⟨J5, ?_⟩)
   refine Zb (Ze ?_)
   have hn : i.toNat + (xs.length - j.toNat) ≤ xs.length := by omega
   have hl3 : (xs.take i.toNat ++ xs.drop j.toNat ++ xs.drop (xs.length - (j.toNat - i.toNat))).length = xs.length := by simp; omega
   refine Zc ?_
   refine Zd ?_
   refine Za Z Z (Zm (v := u3) Z Z ?_)
   refine Za Z Z (Zm (v := u3) Z Z ?_)
   refine Za Z Z (Qbr Qje hu3 Z Z ?_)
   refine Za Z Z (Zm (v := .int .i64 (xs.length : Int)) Z Z ?_)
   refine Za Z Z (QgO hS3 (by omega) hu3 Qje Z Z Z Z (by omega) (by omega) (by omega) fun u4 hu4 => ?_)
   refine Za Z Z (Qbz (y := false) hS3 hu4 (by omega) Qje DZ4 Z Z Z ?_)
   intro w4 hS4
   refine Zb (Ze ?_)
   refine Zc ?_
   refine Zd ?_
   refine Za Z Z (Zm (v := u3) Z Z ?_)
   refine Za Z Z (Zo (v := u3) Z Z ?_)
   refine Zb (Ze ?_)
   refine Qhh ?_
   refine ⟨_, KR Z, s, u3, Zv _, ?_, Z⟩
   have h5 := hS4.arr_head (m := i.toNat + (xs.length - j.toNat)) hu3 (by simp; omega)
   have hl2 : (xs.take i.toNat ++ xs.drop j.toNat).length = i.toNat + (xs.length - j.toNat) := by simp; omega
   have e5 : ((((i.toNat + (xs.length - j.toNat) : Nat) : Int)).toNat) = i.toNat + (xs.length - j.toNat) := by omega
   rw [e5, List.append_assoc, List.take_left' (by rw [List.length_take, List.length_append, hl2]; omega), ← hl2, List.take_left' rfl] at h5
   exact h5
 ·cases hm
end Go.Pw
