/- -/
import Derived.Test.YtfcmpbkafbhdgaaGreatDoorWc9
import Derived.Test.YtfcmpbkafbhdgaaGreatDoorLF
import Derived.Test.YtfcmpbkafbhdgaaGreatDoorLH
import Derived.Test.YtfcmpbkafbhdgaaGreatDoorWcDf
import Derived.Test.YtfcmpbkafbhdgaaGreatDoorLC
import Derived.Test.YtfcmpbkafbhdgaaGreatDoorProg
import Derived.KernelRfl
set_option maxRecDepth 100000
set_option maxHeartbeats 4000000
set_option linter.unusedSimpArgs false
set_option linter.unusedVariables false
namespace Go.Pw
open Go.Proofs
theorem QgF : QA Tryz.prog 31 = some (69, 2, 32) := by kernel_rfl
theorem Qnm : Jl Tryz.prog 69 = some (.agg #[.slice none 0 0, .int .i64 0]) := by kernel_rfl
theorem Qj1 {w0 w : World} {s : PHeap} {H : List Res} {xs : List (Value × Int)} {i j : Int} {v : Value} {r : List (Value × Int)} (hm : (if 0 ≤ i ∧ i ≤ j ∧ j ≤ xs.length ∧ 0 < xs.length then some (xs.take i.toNat ++ xs.drop j.toNat) else none) = some r) (hS : St w0 s (Res.arr (encRaw.pair (Qc .i64)) 69 v xs :: H) w) :
  Calls Tryz.prog 38 #[v, Value.int .i64 i, Value.int .i64 j] w fun e w' => ∃ u, e = .returned u ∧ ((fun (l : List (Value × Int)) => ∃ (s' : PHeap) (v' : Value), PHeap.le s s' ∧ St w0 s' (Res.arr (encRaw.pair (Qc .i64)) 69 v' l :: H) w' ∧ u = v') r) := by
 split at hm
 ·rename_i hc
  obtain ⟨h0, hij, hj, hpos⟩ := hc
  have hr := Zu hm
  subst hr
  refine Qb Tryz.func38 Z Z ?_
  refine Zc ?_
  refine Zd ?_
  refine Za Z Z (Zo (v := .slice none 0 0) Z Z ?_)
  refine Zb (Ze ?_)
  refine Zc ?_
  refine Zd ?_
  refine Za Z Z (Zm (v := v) Z Z ?_)
  refine Za Z Z (Zm (v := .int .i64 i) Z Z ?_)
  refine Za Z Z (Zm (v := .int .i64 j) Z Z ?_)
  refine Za Z Z (Zm (v := v) Z Z ?_)
  refine Za Z Z (Qv hS QgF Z Z ?_)
  refine Za Z Z (QcW (E := (encRaw.pair (Qc .i64))) hS QgF Z Z Z Z Z h0 hij hj (Int.le_refl _) hpos ?_)
  intro u0
  refine Zb (Ze ?_)
  refine Zc ?_
  refine Zc ?_
  refine Zd ?_
  refine Za Z Z (Zm (v := .int .i64 i) Z Z ?_)
  refine Za Z Z (Zm (v := .int .i64 j) Z Z ?_)
  refine Za Z Z (Exec.eql Z Z Z ?_)
  refine Zb (Ze ?_)
  by_cases he : i = j
  ·subst he
   refine KB (congrArg Value.bool (decide_eq_true Z)) ?_
   refine Zc ?_
   refine Zd ?_
   refine Za Z Z (Zm (v := v) Z Z ?_)
   refine Za Z Z (Zo (v := v) Z Z ?_)
   refine Zb (Ze ?_)
   refine Qa3 (Qcl ?_)
   refine ⟨_, Qaf Z, s, v, Zv _, ?_, Z⟩
   rw [List.take_append_drop]
   exact hS
  ·refine K6 (congrArg Value.bool (decide_eq_false he)) ?_
   refine QT (Ze ?_)
   refine Zc ?_
   refine Zd ?_
   refine Za Z Z (Zm (v := v) Z Z ?_)
   refine Za Z Z (Qv hS QgF Z Z ?_)
   refine Za Z Z (Zo (v := .int .i64 (xs.length : Int)) Z Z ?_)
   refine Zb (Ze ?_)
   refine Zc ?_
   refine KG (n0 := 8) (.q 0 (.q 1 (.q 2 (.q 3 (.q 4 (.q 5 (.e 6 [] (.e 7 [] .done)))))))) DMx (by kernel_rfl) (by kernel_rfl) ?_
   have hS2 := hS.drew
   have hvi : Yy xs 0 i = some i.toNat := by unfold Yy; rw [if_pos ⟨Int.le_refl _, h0, by omega, hpos⟩]; simp
   have hvj : Yy xs j (xs.length : Int) = some (xs.length - j.toNat) := by unfold Yy; rw [if_pos ⟨by omega, by omega, Int.le_refl _, hpos⟩]; congr 1; omega
   refine J1 Z Z (Zm (v := v) Z Z ⟨Z, ?_⟩)
   refine J1 Z Z (Zm (v := .int .i64 i) Z Z ⟨Z, ?_⟩)
   refine J1 Z Z (Qaz hS2 QgF Z Z Z hvi fun u1 hu1 => ⟨Z, ?_⟩)
   refine J1 Z Z (Zm (v := v) Z Z ⟨Z, ?_⟩)
   refine J1 Z Z (Zm (v := .int .i64 j) Z Z ⟨Z, ?_⟩)
   refine J1 Z Z (Qan hS2 QgF Z Z Z hvj fun u2 hu2 => ⟨Z, ?_⟩)
   refine QeF Z Z (Qbp (i := i.toNat) (j := j.toNat) hS2 QgF hu1 hu2 (by omega) (by omega) hpos Z Z Z ?_)
   intro u3 w3 hu3 hS3
   refine ⟨YQ, ?_⟩
   refine QeF Z Z (Zo (v := u3) Z Z ⟨YQ, ?_⟩)
   refine Zb (Ze ?_)
   have hn : i.toNat + (xs.length - j.toNat) ≤ xs.length := by omega
   have hl3 : (xs.take i.toNat ++ xs.drop j.toNat ++ xs.drop (xs.length - (j.toNat - i.toNat))).length = xs.length := by simp; omega
   refine Zc ?_
   refine Zd ?_
   refine Za Z Z (Zm (v := u3) Z Z ?_)
   refine Za Z Z (Zm (v := u3) Z Z ?_)
   refine Za Z Z (QbR QgF hu3 Z Z ?_)
   refine Za Z Z (Zm (v := .int .i64 (xs.length : Int)) Z Z ?_)
   refine Za Z Z (Qcd hS3 (by omega) hu3 QgF Z Z Z Z (by omega) (by omega) (by omega) fun u4 hu4 => ?_)
   refine Za Z Z (QaO (y := ((Value.slice none 0 0, 0) : Value × Int)) hS3 hu4 (by omega) QgF Qnm (⟨[_], [_], Z, ⟨Z, Z⟩, Z⟩) Z Z ?_)
   intro w4 hS4
   refine Zb (Ze ?_)
   refine Zc ?_
   refine Zd ?_
   refine Za Z Z (Zm (v := u3) Z Z ?_)
   refine Za Z Z (Zo (v := u3) Z Z ?_)
   refine Zb (Ze ?_)
   refine Qa3 ?_
   refine ⟨_, Qaf Z, s, u3, Zv _, ?_, Z⟩
   have h5 := hS4.arr_head (m := i.toNat + (xs.length - j.toNat)) hu3 (by simp; omega)
   have hl2 : (xs.take i.toNat ++ xs.drop j.toNat).length = i.toNat + (xs.length - j.toNat) := by simp; omega
   have e5 : ((((i.toNat + (xs.length - j.toNat) : Nat) : Int)).toNat) = i.toNat + (xs.length - j.toNat) := by omega
   rw [e5, List.append_assoc, List.take_left' (by rw [List.length_take, List.length_append, hl2]; omega), ← hl2, List.take_left' rfl] at h5
   exact h5
 ·cases hm
theorem Qk9 {w0 w : World} {s : PHeap} {H : List Res} {xs : List Nogood} {i j : Int} {v : Value} {r : List Nogood} (hm : Qfh xs i j = some r) (hS : St w0 s (Res.sg encFact (Qc .i64) (fun (b : Nogood) => b.Facts) (fun (b : Nogood) => b.Dist) 52 69 v xs :: H) w) :
  Calls Tryz.prog 38 #[v, Value.int .i64 i, Value.int .i64 j] w fun e w' => ∃ u, e = .returned u ∧ ((fun (l : List Nogood) => ∃ (s' : PHeap) (v' : Value), PHeap.le s s' ∧ St w0 s' (Res.sg encFact (Qc .i64) (fun (b : Nogood) => b.Facts) (fun (b : Nogood) => b.Dist) 52 69 v' l :: H) w' ∧ u = v') r) := by
 unfold Qfh at hm
 split at hm
 ·rename_i hc
  cases hm
  obtain ⟨hs, hl, h⟩ := hS.sg_split
  have hz : (hs.zip (xs.map fun b => b.Dist)).length = xs.length := Qa8 hl _
  refine (Qj1 (r := (hs.zip (xs.map fun b => b.Dist)).take i.toNat ++ (hs.zip (xs.map fun b => b.Dist)).drop j.toNat) (by rw [hz, if_pos hc]) h).mono ?_
  rintro e w' ⟨u, rfl, s', v', hle, h2, rfl⟩
  refine ⟨_, Z, s', u, hle, ?_, Z⟩
  refine QbL (hs := hs.take i.toNat ++ hs.drop j.toNat) ?_
  have h3 := (h2.f1.rows_out i.toNat j.toNat (by omega)).f1
  rw [List.map_append, List.map_append, List.map_take, List.map_take, List.map_drop, List.map_drop, List.zip_append (by simp [hl])]
  simp only [List.zip_eq_zipWith, List.take_zipWith, List.drop_zipWith] at h3 ⊢
  exact h3
 ·cases hm
end Go.Pw
