/- -/
import Derived.Test.YtfcmpbkafbhdgaaGreatDoorWc2
import Derived.Test.YtfcmpbkafbhdgaaGreatDoorLF
import Derived.Test.YtfcmpbkafbhdgaaGreatDoorLH
import Derived.Test.YtfcmpbkafbhdgaaGreatDoorProg
import Derived.KernelRfl
set_option maxRecDepth 100000
set_option maxHeartbeats 4000000
set_option linter.unusedSimpArgs false
set_option linter.unusedVariables false
namespace Go.Pw
open Go.Proofs
theorem Qbx : QA Tryz.prog 70 = some (23, Enc.sz (Qa encFact), 24) := by kernel_rfl
theorem Qmn : Jl Tryz.prog 23 = some (.slice none 0 0) := by kernel_rfl
theorem Qm6 : (Tryz.f123.name == "runtime.NumGoroutine") = false := by kernel_rfl
theorem QmA : Extern.findNext Tryz.f123 = none := by kernel_rfl
theorem Qm8 : Extern.find Tryz.f123 = some (Extern.SlicesOverlaps.overlaps #[70, 70] #[4]) := by kernel_rfl
theorem IMx : Tryz.prog.follows .mixedOrders = true := by kernel_rfl
theorem II3 : Tryz.prog.underlying 3 = some (.int .i64) := by kernel_rfl
theorem Qkz {w0 w : World} {s : PHeap} {H : List Res} {xs : List (List Fact)} {i : Int} {ys : List (List Fact)} {v v2 : Value} {r : List (List Fact)} (hm : QgL xs i ys = some r) (hS : St w0 s (Res.arr (Qa encFact) 23 v xs :: H) w) (ha : SliceRep (Qa encFact) s v2 ys) :
  Calls Tryz.prog 99 #[v, Value.int .i64 i, v2] w fun e w' => ∃ u, e = .returned u ∧ ((fun (l : List (List Fact)) => ∃ (s' : PHeap) (v' : Value), PHeap.le s s' ∧ St w0 s' (Res.arr (Qa encFact) 23 v' l :: H) w' ∧ u = v') r) := by
 unfold QgL at hm
 split at hm
 ·rename_i hc
  obtain ⟨h0, hi, hb⟩ := hc
  have hr := Zu hm
  subst hr
  refine Qb Tryz.func99 Z Z ?_
  refine Zc ?_
  refine Zd ?_
  refine Za Z Z (Zo (v := .slice none 0 0) Z Z ?_)
  refine Zb (Ze ?_)
  refine Zc ?_
  refine Zd ?_
  refine Za Z Z (Zm (v := v) Z Z ?_)
  refine Za Z Z (Zm (v := .int .i64 i) Z Z ?_)
  refine Za Z Z (Qct hS Qbx Z Z Z h0 hi fun u0 => ?_)
  refine Zb (Ze ?_)
  refine Zc ?_
  refine Zd ?_
  refine Za Z Z (Zm (v := v2) Z Z ?_)
  refine Za Z Z (Zr Qbx Z Z ha ?_)
  refine Za Z Z (Zo (v := .int .i64 (ys.length : Int)) Z Z ?_)
  refine Zb (Ze ?_)
  refine Zc ?_
  refine Zc ?_
  refine Zd ?_
  refine Za Z Z (Zm (v := .int .i64 (ys.length : Int)) Z Z ?_)
  refine Za Z Z (Exec.eql Z Z Z ?_)
  refine Zb (Ze ?_)
  by_cases hm0 : (ys.length : Int) = 0
  ·refine KB (congrArg Value.bool (decide_eq_true hm0)) ?_
   refine Zc ?_
   refine Zd ?_
   refine Za Z Z (Zm (v := v) Z Z ?_)
   refine Za Z Z (Zo (v := v) Z Z ?_)
   refine Zb (Ze ?_)
   refine Qa3 (Qcl ?_)
   refine ⟨_, Qaf Z, s, v, Zv _, ?_, Z⟩
   have hy0 : ys = [] := List.eq_nil_of_length_eq_zero (by omega)
   rw [hy0, List.append_nil, List.take_append_drop]
   exact hS
  ·refine K6 (congrArg Value.bool (decide_eq_false hm0)) ?_
   refine QT (Ze ?_)
   have hy0 : 0 < ys.length := by omega
   refine Zc ?_
   refine Zd ?_
   refine Za Z Z (Zm (v := v) Z Z ?_)
   refine Za Z Z (Qv hS Qbx Z Z ?_)
   refine Za Z Z (Zo (v := .int .i64 (xs.length : Int)) Z Z ?_)
   refine Zb (Ze ?_)
   refine Zc ?_
   refine Zc ?_
   refine Zd ?_
   refine Za Z Z (Zm (v := .int .i64 i) Z Z ?_)
   refine Za Z Z (Zm (v := .int .i64 (xs.length : Int)) Z Z ?_)
   refine Za Z Z (Exec.eql Z Z Z ?_)
   refine Zb (Ze ?_)
   by_cases hin : i = (xs.length : Int)
   ·refine KB (congrArg Value.bool (decide_eq_true hin)) ?_
    refine Zc ?_
    refine Zd ?_
    refine Za Z Z (Zm (v := v) Z Z ?_)
    refine Za Z Z (Zm (v := v2) Z Z ?_)
    refine Za Z Z (Kp (zs := xs ++ ys) hS Qbx Qmn Z (by decide) Z Z Z ha (by unfold app; rw [if_pos hb]) fun v' w' hS' => ?_)
    refine Za Z Z (Zo (v := v') Z Z ?_)
    refine Zb (Ze ?_)
    refine Qa3 (Qcl ?_)
    refine ⟨_, Qaf Z, s, v', Zv _, ?_, Z⟩
    have e1 : i.toNat = xs.length := by omega
    rw [e1, List.take_length, List.drop_length, List.append_nil]
    exact hS'
   ·refine K6 (congrArg Value.bool (decide_eq_false hin)) ?_
    refine QT (Ze ?_)
    obtain ⟨g, cap, cs, rfl, hnc, hcm, hcl, hrx, hB⟩ := hS.arr_open (by omega)
    have hsz : Enc.sz (Qa encFact) = 1 := rfl
    have hw1 : IntKind.i64.wrap ((xs.length : Int) + (ys.length : Int)) = ((xs.length + ys.length : Nat) : Int) := by rw [IntKind.wrap_i64]; omega
    have hw3 : IntKind.i64.wrap (i + (ys.length : Int)) = ((i.toNat + ys.length : Nat) : Int) := by rw [IntKind.wrap_i64]; omega
    have hw2 : IntKind.i64.wrap (IntKind.i64.wrap ((xs.length : Int) + (ys.length : Int)) - i) = ((xs.length + ys.length - i.toNat : Nat) : Int) := by rw [hw1, IntKind.wrap_i64]; omega
    have hone : ∀ u ∈ (cs.drop (i.toNat * Enc.sz (Qa encFact))).take ((xs.length - i.toNat) * Enc.sz (Qa encFact)), u.oneCell' = true := by
     intro u hu
     refine hrx.one u ?_
     rw [Nat.sub_mul, ← List.drop_take] at hu
     exact List.mem_of_mem_drop hu
    have hil : i.toNat ≤ xs.length := by omega
    have hrl : (xs.take i.toNat ++ ys ++ xs.drop i.toNat).length = xs.length + ys.length := by simp; omega
    refine Zc ?_
    refine Zc ?_
    refine Zd ?_
    refine Za Z Z (Zm (v := .int .i64 (xs.length : Int)) Z Z ?_)
    refine Za Z Z (Zm (v := .int .i64 (ys.length : Int)) Z Z ?_)
    refine Za Z Z (Exec.add Z Z Z ?_)
    refine Za Z Z (Zm (v := .slice (some ⟨g, 0, none⟩) xs.length cap) Z Z ?_)
    refine Za Z Z (QdM Qbx Z Z ?_)
    refine Za Z Z (Exec.gtr Z Z Z ?_)
    refine Zb (Ze ?_)
    by_cases hg : cap < xs.length + ys.length
    ·refine KB (congrArg Value.bool (decide_eq_true (by rw [hw1]; omega))) ?_
     refine Zc ?_
     refine Zd ?_
     refine Za Z Z (Zm (v := .slice (some ⟨g, 0, none⟩) xs.length cap) Z Z ?_)
     refine Za Z Z (Zm (v := .int .i64 i) Z Z ?_)
     refine Za Z Z (Qao Qbx Z Z Z h0 (by omega) ?_)
     refine Za Z Z (Zm (v := .int .i64 (xs.length : Int)) Z Z ?_)
     refine Za Z Z (Zm (v := .int .i64 (ys.length : Int)) Z Z ?_)
     refine Za Z Z (Exec.add Z Z Z ?_)
     refine Za Z Z (Zm (v := .int .i64 i) Z Z ?_)
     refine Za Z Z (Exec.sub Z Z Z ?_)
     refine Za Z Z (Qbo (k := xs.length + ys.length - i.toNat) hB Qbx Qmn II3 Z (by decide) (by decide) Z Z (congrArg (Value.int .i64) hw2) (by rw [hsz] at hcl ⊢; omega) (by omega) (by omega) (by omega) fun b c zs w1 hbc hcm1 hzl hS1 => ?_)
     refine Za Z Z (Zo (v := .slice (some ⟨b, 0, none⟩) (i.toNat + (xs.length + ys.length - i.toNat)) c) Z Z ?_)
     refine Zb (Ze ?_)
     have hcl1 : (cs.take (i.toNat * Enc.sz (Qa encFact)) ++ zs).length = c * Enc.sz (Qa encFact) := by
      rw [List.length_append, List.length_take, hzl, hcl]; rw [hsz]; omega
     refine Zc ?_
     refine Zd ?_
     refine Za Z Z (Zm (v := .slice (some ⟨b, 0, none⟩) (i.toNat + (xs.length + ys.length - i.toNat)) c) Z Z ?_)
     refine Za Z Z (Zm (v := .int .i64 i) Z Z ?_)
     refine Za Z Z (QQ Qbx Z Z Z h0 (by omega) (by omega) (by omega) ?_)
     refine Za Z Z (Zm (v := v2) Z Z ?_)
     refine Za Z Z (Qap hS1 Qbx Z Z Z ha hy0 (by omega) (by rw [hcl1, hsz]; omega) fun ycs w2 hry hyl hS2 => ?_)
     refine Zb (Ze ?_)
     have hcl2 : ((cs.take (i.toNat * Enc.sz (Qa encFact)) ++ zs).take (i.toNat * Enc.sz (Qa encFact)) ++ ycs ++ (cs.take (i.toNat * Enc.sz (Qa encFact)) ++ zs).drop (i.toNat * Enc.sz (Qa encFact) + ys.length * Enc.sz (Qa encFact))).length = c * Enc.sz (Qa encFact) := by
      rw [List.length_append, List.length_append, List.length_take, List.length_drop, hcl1, hyl, hsz]; omega
     refine Zc ?_
     refine KG (n0 := 9) (.q 0 (.q 1 (.q 2 (.q 3 (.q 4 (.q 5 (.q 6 (.q 7 (.e 8 [] .done))))))))) IMx (by kernel_rfl) (by kernel_rfl) ?_
     have hS3 := hS2.drew
     refine J1 Z Z (Zm (v := .slice (some ⟨b, 0, none⟩) (i.toNat + (xs.length + ys.length - i.toNat)) c) Z Z ⟨Z, ?_⟩)
     refine J1 Z Z (Zm (v := .int .i64 i) Z Z ⟨Z, ?_⟩)
     refine J1 Z Z (Zm (v := .int .i64 (ys.length : Int)) Z Z ⟨Z, ?_⟩)
     refine J1 Z Z (Exec.add Z Z Z ⟨Z, ?_⟩)
     refine J1 Z Z (QQ (l := ((i.toNat + ys.length : Nat) : Int)) Qbx Z Z (congrArg (Value.int .i64) hw3) (by omega) (by omega) (by omega) (by omega) ⟨Z, ?_⟩)
     refine J1 Z Z (Zm (v := .slice (some ⟨g, 0, none⟩) xs.length cap) Z Z ⟨Z, ?_⟩)
     refine J1 Z Z (Zm (v := .int .i64 i) Z Z ⟨Z, ?_⟩)
     refine J1 Z Z (QQ Qbx Z Z Z h0 hi (by omega) hnc ⟨Z, ?_⟩)
     refine QeF Z Z (Qab (n := xs.length - i.toNat) hS3 hS3.f1 Qbx Z Z Z (show Nat.min (xs.length - i.toNat) (i.toNat + (xs.length + ys.length - i.toNat) - (i.toNat + ys.length)) = xs.length - i.toNat from Nat.min_eq_left (by omega)) (by rw [hcl, hsz]; omega) (show (i.toNat + ys.length) * Enc.sz (Qa encFact) + _ ≤ _ by rw [hcl2, hsz]; omega) hone fun w4 hS4 => ⟨YQ, ?_⟩)
     refine Zb (Ze ?_)
     refine Zc ?_
     refine Zd ?_
     refine Za Z Z (Zm (v := .slice (some ⟨b, 0, none⟩) (i.toNat + (xs.length + ys.length - i.toNat)) c) Z Z ?_)
     refine Za Z Z (Zo (v := .slice (some ⟨b, 0, none⟩) (i.toNat + (xs.length + ys.length - i.toNat)) c) Z Z ?_)
     refine Zb (Ze ?_)
     refine Qa3 ?_
     refine ⟨_, Qaf Z, s, _, Zv _, ?_, Z⟩
     have hS5 := hS4.f1.drop
     have hp : (i.toNat + ys.length) * Enc.sz (Qa encFact) = i.toNat * Enc.sz (Qa encFact) + ys.length * Enc.sz (Qa encFact) := Nat.add_mul ..
     have hS6 : St w0 s (Res.box b 23 _ :: H) w4 := hS5
     have ht := Qgz cs zs ycs ((cs.drop (i.toNat * Enc.sz (Qa encFact))).take ((xs.length - i.toNat) * Enc.sz (Qa encFact))) (i.toNat * Enc.sz (Qa encFact)) (ys.length * Enc.sz (Qa encFact)) ((xs.length - i.toNat) * Enc.sz (Qa encFact)) hyl (by rw [List.length_take, List.length_drop, hcl, hsz]; omega) (by rw [hcl, hsz]; omega) (by rw [hzl, hsz]; omega)
     have h7 := hS5.arr_close (E := (Qa encFact)) (ys := xs.take i.toNat ++ ys ++ xs.drop i.toNat) (cap := c) (by rw [hrl]; omega) hcm1 ?_ ?_
     ·have e5 : (xs.take i.toNat ++ ys ++ xs.drop i.toNat).length = i.toNat + (xs.length + ys.length - i.toNat) := by rw [hrl]; omega
      rw [e5] at h7
      exact h7
     ·simp only [Int.toNat_natCast]
      rw [List.length_append, List.length_append, List.length_take, List.length_drop, List.length_take, List.length_drop, hcl2, hcl, hsz]; omega
     ·have e6 : (xs.take i.toNat ++ ys ++ xs.drop i.toNat).length * Enc.sz (Qa encFact) = i.toNat * Enc.sz (Qa encFact) + ys.length * Enc.sz (Qa encFact) + (xs.length - i.toNat) * Enc.sz (Qa encFact) := by rw [hrl, hsz]; omega
      rw [e6]
      simp only [Int.toNat_natCast, hp]
      rw [ht]
      exact Qd5 hil hrx hry
    ·refine K6 (congrArg Value.bool (decide_eq_false (by rw [hw1]; omega))) ?_
     refine QT (Ze ?_)
     refine Zc ?_
     refine Zd ?_
     refine Za Z Z (Zm (v := .slice (some ⟨g, 0, none⟩) xs.length cap) Z Z ?_)
     refine Za Z Z (Zm (v := .int .i64 (xs.length : Int)) Z Z ?_)
     refine Za Z Z (Zm (v := .int .i64 (ys.length : Int)) Z Z ?_)
     refine Za Z Z (Exec.add Z Z Z ?_)
     refine Za Z Z (Qao (h := ((xs.length + ys.length : Nat) : Int)) Qbx Z Z (congrArg (Value.int .i64) hw1) (by omega) (by omega) ?_)
     refine Za Z Z (Zo (v := .slice (some ⟨g, 0, none⟩) (xs.length + ys.length) cap) Z Z ?_)
     refine Zb (Ze ?_)
     refine Zc ?_
     refine Zc ?_
     refine Zd ?_
     refine Za Z Z (Zm (v := v2) Z Z ?_)
     refine Za Z Z (Zm (v := .slice (some ⟨g, 0, none⟩) (xs.length + ys.length) cap) Z Z ?_)
     refine Za Z Z (Zm (v := .int .i64 i) Z Z ?_)
     refine Za Z Z (Zm (v := .int .i64 (ys.length : Int)) Z Z ?_)
     refine Za Z Z (Exec.add Z Z Z ?_)
     refine Za Z Z (QQ (l := ((i.toNat + ys.length : Nat) : Int)) Qbx Z Z (congrArg (Value.int .i64) hw3) (by omega) (by omega) (by omega) (by omega) ?_)
     refine Za Z Z (QfM hB Qbx hy0 ha (by rw [hcl, hsz]; omega) Z Z Tryz.func123 Qm6 Z QmA Qm8 Z Z ?_)
     refine Za Z Z (Exec.not Z Z ?_)
     refine Zb (Ze ?_)
     refine KB Z ?_
     refine Zc ?_
     refine KG (n0 := 9) (.q 0 (.q 1 (.q 2 (.q 3 (.q 4 (.q 5 (.q 6 (.q 7 (.e 8 [] .done))))))))) IMx (by kernel_rfl) (by kernel_rfl) ?_
     have hS3 := hB.drew
     refine J1 Z Z (Zm (v := .slice (some ⟨g, 0, none⟩) (xs.length + ys.length) cap) Z Z ⟨Z, ?_⟩)
     refine J1 Z Z (Zm (v := .int .i64 i) Z Z ⟨Z, ?_⟩)
     refine J1 Z Z (Zm (v := .int .i64 (ys.length : Int)) Z Z ⟨Z, ?_⟩)
     refine J1 Z Z (Exec.add Z Z Z ⟨Z, ?_⟩)
     refine J1 Z Z (QQ (l := ((i.toNat + ys.length : Nat) : Int)) Qbx Z Z (congrArg (Value.int .i64) hw3) (by omega) (by omega) (by omega) (by omega) ⟨Z, ?_⟩)
     refine J1 Z Z (Zm (v := .slice (some ⟨g, 0, none⟩) (xs.length + ys.length) cap) Z Z ⟨Z, ?_⟩)
     refine J1 Z Z (Zm (v := .int .i64 i) Z Z ⟨Z, ?_⟩)
     refine J1 Z Z (QQ Qbx Z Z Z h0 (by omega) (by omega) (by omega) ⟨Z, ?_⟩)
     refine QeF Z Z (Qab (n := xs.length - i.toNat) hS3 hS3 Qbx Z Z Z (show Nat.min (xs.length + ys.length - i.toNat) (xs.length + ys.length - (i.toNat + ys.length)) = xs.length - i.toNat from (Nat.min_eq_right (by omega)).trans (by omega)) (by rw [hcl, hsz]; omega) (show (i.toNat + ys.length) * Enc.sz (Qa encFact) + _ ≤ _ by rw [hcl, hsz]; omega) hone fun w4 hS4 => ⟨YQ, ?_⟩)
     refine Zb (Ze ?_)
     have hp : (i.toNat + ys.length) * Enc.sz (Qa encFact) = i.toNat * Enc.sz (Qa encFact) + ys.length * Enc.sz (Qa encFact) := Nat.add_mul ..
     simp only [Int.toNat_natCast, hp] at hS4
     have hcl2 : (cs.take (i.toNat * Enc.sz (Qa encFact) + ys.length * Enc.sz (Qa encFact)) ++ (cs.drop (i.toNat * Enc.sz (Qa encFact))).take ((xs.length - i.toNat) * Enc.sz (Qa encFact)) ++ cs.drop (i.toNat * Enc.sz (Qa encFact) + ys.length * Enc.sz (Qa encFact) + (xs.length - i.toNat) * Enc.sz (Qa encFact))).length = cap * Enc.sz (Qa encFact) := by
      rw [List.length_append, List.length_append, List.length_take, List.length_take, List.length_drop, List.length_drop, hcl, hsz]; omega
     refine Zc ?_
     refine Zd ?_
     refine Za Z Z (Zm (v := .slice (some ⟨g, 0, none⟩) (xs.length + ys.length) cap) Z Z ?_)
     refine Za Z Z (Zm (v := .int .i64 i) Z Z ?_)
     refine Za Z Z (QQ Qbx Z Z Z h0 (by omega) (by omega) (by omega) ?_)
     refine Za Z Z (Zm (v := v2) Z Z ?_)
     refine Za Z Z (Qap hS4 Qbx Z Z Z ha hy0 (by omega) (by rw [hcl2, hsz]; omega) fun ycs w5 hry hyl hS5 => ?_)
     refine Zb (Ze ?_)
     refine Zc ?_
     refine Zd ?_
     refine Za Z Z (Zm (v := .slice (some ⟨g, 0, none⟩) (xs.length + ys.length) cap) Z Z ?_)
     refine Za Z Z (Zo (v := .slice (some ⟨g, 0, none⟩) (xs.length + ys.length) cap) Z Z ?_)
     refine Zb (Ze ?_)
     refine Qa3 ?_
     refine ⟨_, Qaf Z, s, _, Zv _, ?_, Z⟩
     have ht := Qf1 cs ycs (i.toNat * Enc.sz (Qa encFact)) (ys.length * Enc.sz (Qa encFact)) ((xs.length - i.toNat) * Enc.sz (Qa encFact)) hyl (by rw [hcl, hsz]; omega)
     have h7 := hS5.arr_close (E := (Qa encFact)) (ys := xs.take i.toNat ++ ys ++ xs.drop i.toNat) (cap := cap) (by rw [hrl]; omega) hcm ?_ ?_
     ·rw [hrl] at h7
      exact h7
     ·rw [List.length_append, List.length_append, List.length_take, List.length_drop, hcl2, hyl, hsz]; omega
     ·have e6 : (xs.take i.toNat ++ ys ++ xs.drop i.toNat).length * Enc.sz (Qa encFact) = i.toNat * Enc.sz (Qa encFact) + ys.length * Enc.sz (Qa encFact) + (xs.length - i.toNat) * Enc.sz (Qa encFact) := by rw [hrl, hsz]; omega
      rw [e6, ht]
      exact Qd5 hil hrx hry
 ·cases hm
end Go.Pw
