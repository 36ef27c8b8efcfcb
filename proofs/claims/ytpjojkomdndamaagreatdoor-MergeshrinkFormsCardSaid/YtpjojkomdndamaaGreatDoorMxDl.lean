/- -/
import Derived.Test.YtpjojkomdndamaaGreatDoorMx5
import Derived.Test.YtpjojkomdndamaaGreatDoorL20
import Derived.Test.YtpjojkomdndamaaGreatDoorL10
import Derived.Test.YtpjojkomdndamaaGreatDoorProg
import Derived.KernelRfl
set_option maxRecDepth 100000
set_option maxHeartbeats 4000000
set_option linter.unusedSimpArgs false
set_option linter.unusedVariables false
namespace Go.Pw
open Go.Proofs
theorem Qhv : Je Tryz.prog 36 = some (4, 1, 1) := by kernel_rfl
theorem DZ4 : JL Tryz.prog 4 = some (.bool false) := by kernel_rfl
theorem DMx : Tryz.prog.follows .mixedOrders = true := by kernel_rfl
theorem Qma {w0 w : World} {s : PHeap} {H : List Res} {xs : List Bool} {i j : Int} {v : Value} {r : List Bool} (hm : QfK xs i j = some r) (hS : St w0 s (Res.arr encBool 4 v xs :: H) w) :
  Calls Tryz.prog 111 #[v, Value.int .i64 i, Value.int .i64 j] w fun e w' => ∃ u, e = .returned u ∧ ((fun (l : List Bool) => ∃ (s' : PHeap) (v' : Value), PHeap.le s s' ∧ St w0 s' (Res.arr encBool 4 v' l :: H) w' ∧ u = v') r) := by
 unfold QfK at hm
 split at hm
 ·rename_i hc
  obtain ⟨h0, hij, hj, hpos⟩ := hc
  have hr := Zu hm
  subst hr
  refine Qw Tryz.func111 Z Z ?_
  refine Zc ?_
  refine Zd ?_
  refine O Z Z (Zo (v := .slice none 0 0) Z Z ?_)
  refine Zb (V ?_)
  refine Zc ?_
  refine Zd ?_
  refine O Z Z (Zm (v := v) Z Z ?_)
  refine O Z Z (Zm (v := .int .i64 i) Z Z ?_)
  refine O Z Z (Zm (v := .int .i64 j) Z Z ?_)
  refine O Z Z (Zm (v := v) Z Z ?_)
  refine O Z Z (QP hS Qhv Z Z ?_)
  refine O Z Z (QgK (E := encBool) hS Qhv Z Z Z Z Z h0 hij hj (Int.le_refl _) hpos ?_)
  intro u0
  refine Zb (V ?_)
  refine Zc ?_
  refine Zc ?_
  refine Zd ?_
  refine O Z Z (Zm (v := .int .i64 i) Z Z ?_)
  refine O Z Z (Zm (v := .int .i64 j) Z Z ?_)
  refine O Z Z (Exec.eql Z Z Z ?_)
  refine Zb (V ?_)
  by_cases he : i = j
  ·subst he
   refine QL (congrArg Value.bool (decide_eq_true Z)) ?_
   refine Zc ?_
   refine Zd ?_
   refine O Z Z (Zm (v := v) Z Z ?_)
   refine O Z Z (Zo (v := v) Z Z ?_)
   refine Zb (V ?_)
   refine Q0 (Qi ?_)
   refine ⟨_, QW Z, s, v, Zv _, ?_, Z⟩
   rw [List.take_append_drop]
   exact hS
  ·refine QB (congrArg Value.bool (decide_eq_false he)) ?_
   refine Qq (V ?_)
   refine Zc ?_
   refine Zd ?_
   refine O Z Z (Zm (v := v) Z Z ?_)
   refine O Z Z (QP hS Qhv Z Z ?_)
   refine O Z Z (Zo (v := .int .i64 (xs.length : Int)) Z Z ?_)
   refine Zb (V ?_)
   refine Zc ?_
   refine KT (n0 := 8) (.q 0 (.q 1 (.q 2 (.q 3 (.q 4 (.q 5 (.e 6 [] (.e 7 [] .done)))))))) DMx (by kernel_rfl) (by kernel_rfl) ?_
   have hS2 := hS.drew
   have hvi : QaG xs 0 i = some i.toNat := by unfold QaG; rw [if_pos ⟨Int.le_refl _, h0, by omega, hpos⟩]; simp
   have hvj : QaG xs j (xs.length : Int) = some (xs.length - j.toNat) := by unfold QaG; rw [if_pos ⟨by omega, by omega, Int.le_refl _, hpos⟩]; congr 1; omega
   refine Qm Z Z (Zm (v := v) Z Z ⟨Z, ?_⟩)
   refine Qm Z Z (Zm (v := .int .i64 i) Z Z ⟨Z, ?_⟩)
   refine Qm Z Z (Qcc hS2 Qhv Z Z Z hvi fun u1 hu1 => ⟨Z, ?_⟩)
   refine Qm Z Z (Zm (v := v) Z Z ⟨Z, ?_⟩)
   refine Qm Z Z (Zm (v := .int .i64 j) Z Z ⟨Z, ?_⟩)
   refine Qm Z Z (Yf hS2 Qhv Z Z Z hvj fun u2 hu2 => ⟨Z, ?_⟩)
   refine JQ Z Z (QeE (i := i.toNat) (j := j.toNat) hS2 Qhv hu1 hu2 (by omega) (by omega) hpos Z Z Z ?_)
   intro u3 w3 hu3 hS3
   refine ⟨QV, ?_⟩
   refine JQ Z Z (Zo (v := u3) Z Z ⟨QV, ?_⟩)
   refine Zb (V ?_)
   have hn : i.toNat + (xs.length - j.toNat) ≤ xs.length := by omega
   have hl3 : (xs.take i.toNat ++ xs.drop j.toNat ++ xs.drop (xs.length - (j.toNat - i.toNat))).length = xs.length := by simp; omega
   refine Zc ?_
   refine Zd ?_
   refine O Z Z (Zm (v := u3) Z Z ?_)
   refine O Z Z (Zm (v := u3) Z Z ?_)
   refine O Z Z (Qa5 Qhv hu3 Z Z ?_)
   refine O Z Z (Zm (v := .int .i64 (xs.length : Int)) Z Z ?_)
   refine O Z Z (Qfv hS3 (by omega) hu3 Qhv Z Z Z Z (by omega) (by omega) (by omega) fun u4 hu4 => ?_)
   refine O Z Z (Qa9 (y := false) hS3 hu4 (by omega) Qhv DZ4 Z Z Z ?_)
   intro w4 hS4
   refine Zb (V ?_)
   refine Zc ?_
   refine Zd ?_
   refine O Z Z (Zm (v := u3) Z Z ?_)
   refine O Z Z (Zo (v := u3) Z Z ?_)
   refine Zb (V ?_)
   refine Q0 ?_
   refine ⟨_, QW Z, s, u3, Zv _, ?_, Z⟩
   have h5 := hS4.arr_head (m := i.toNat + (xs.length - j.toNat)) hu3 (by simp; omega)
   have hl2 : (xs.take i.toNat ++ xs.drop j.toNat).length = i.toNat + (xs.length - j.toNat) := by simp; omega
   have e5 : ((((i.toNat + (xs.length - j.toNat) : Nat) : Int)).toNat) = i.toNat + (xs.length - j.toNat) := by omega
   rw [e5, List.append_assoc, List.take_left' (by rw [List.length_take, List.length_append, hl2]; omega), ← hl2, List.take_left' rfl] at h5
   exact h5
 ·cases hm
end Go.Pw
