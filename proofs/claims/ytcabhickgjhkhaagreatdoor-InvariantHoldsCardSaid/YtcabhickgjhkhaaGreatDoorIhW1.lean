/-
  The library's slices.Delete of a slice of strings, as the walks call it.
-/
import Derived.Test.YtcabhickgjhkhaaGreatDoorIh0
import Derived.Test.YtcabhickgjhkhaaGreatDoorL20
import Derived.Test.YtcabhickgjhkhaaGreatDoorL10
import Derived.Test.YtcabhickgjhkhaaGreatDoorProg
import Derived.KernelRfl
set_option maxRecDepth 100000
set_option maxHeartbeats 4000000
set_option linter.unusedSimpArgs false
set_option linter.unusedVariables false
namespace Go.Pw
open Go.Proofs
theorem DS54 : tySlice Tryz.prog 54 = some (9, 1, 16) := by kernel_rfl
theorem DZ9 : tyZero Tryz.prog 9 = some (.string ⟨#[]⟩) := by kernel_rfl
theorem DMx : Tryz.prog.follows .mixedOrders = true := by kernel_rfl
theorem delS_sim {w0 w : World} {s : PHeap} {H : List Res} {xs : List ByteArray} {i j : Int} {v : Value} {r : List ByteArray} (hm : delS_p xs i j = some r) (hS : St w0 s (Res.arr encStr 9 v xs :: H) w) :
    Calls Tryz.prog 75 #[v, Value.int .i64 i, Value.int .i64 j] w fun e w' => ∃ u, e = .returned u ∧ ((fun (l : List ByteArray) => ∃ (s' : PHeap) (v' : Value), PHeap.le s s' ∧ St w0 s' (Res.arr encStr 9 v' l :: H) w' ∧ u = v') r) := by
  unfold delS_p at hm
  split at hm
  · rename_i hc
    obtain ⟨h0, hij, hj, hpos⟩ := hc
    have hr := Zu hm
    subst hr
    refine calls_of_W Tryz.func75 rfl rfl ?_
    refine Zc ?_
    refine Zd ?_
    refine Za rfl rfl (Zo (v := .slice none 0 0) rfl rfl ?_)
    refine Zb (Ze ?_)
    refine Zc ?_
    refine Zd ?_
    refine Za rfl rfl (Zm (v := v) rfl rfl ?_)
    refine Za rfl rfl (Zm (v := .int .i64 i) rfl rfl ?_)
    refine Za rfl rfl (Zm (v := .int .i64 j) rfl rfl ?_)
    refine Za rfl rfl (Zm (v := v) rfl rfl ?_)
    refine Za rfl rfl (Exec.len_arr hS DS54 rfl rfl ?_)
    refine Za rfl rfl (Exec.sub_full (E := encStr) hS DS54 rfl rfl rfl rfl rfl h0 hij hj (Int.le_refl _) hpos ?_)
    intro u0
    refine Zb (Ze ?_)
    refine Zc ?_
    refine Zc ?_
    refine Zd ?_
    refine Za rfl rfl (Zm (v := .int .i64 i) rfl rfl ?_)
    refine Za rfl rfl (Zm (v := .int .i64 j) rfl rfl ?_)
    refine Za rfl rfl (Exec.eql rfl rfl rfl ?_)
    refine Zb (Ze ?_)
    by_cases he : i = j
    · subst he
      refine W_true (congrArg Value.bool (decide_eq_true rfl)) ?_
      refine Zc ?_
      refine Zd ?_
      refine Za rfl rfl (Zm (v := v) rfl rfl ?_)
      refine Za rfl rfl (Zo (v := v) rfl rfl ?_)
      refine Zb (Ze ?_)
      refine W_ret (at_ret ?_)
      refine ⟨_, ret1 rfl, s, v, Zv _, ?_, rfl⟩
      rw [List.take_append_drop]
      exact hS
    · refine W_false (congrArg Value.bool (decide_eq_false he)) ?_
      refine W_skip (Ze ?_)
      refine Zc ?_
      refine Zd ?_
      refine Za rfl rfl (Zm (v := v) rfl rfl ?_)
      refine Za rfl rfl (Exec.len_arr hS DS54 rfl rfl ?_)
      refine Za rfl rfl (Zo (v := .int .i64 (xs.length : Int)) rfl rfl ?_)
      refine Zb (Ze ?_)
      refine Zc ?_
      refine W_dl (n0 := 8) (.q 0 (.q 1 (.q 2 (.q 3 (.q 4 (.q 5 (.e 6 [] (.e 7 [] .done)))))))) DMx (by kernel_rfl) (by kernel_rfl) ?_
      have hS2 := hS.drew
      have hvi : view xs 0 i = some i.toNat := by unfold view; rw [if_pos ⟨Int.le_refl _, h0, by omega, hpos⟩]; simp
      have hvj : view xs j (xs.length : Int) = some (xs.length - j.toNat) := by unfold view; rw [if_pos ⟨by omega, by omega, Int.le_refl _, hpos⟩]; congr 1; omega
      refine DL_q rfl rfl (Zm (v := v) rfl rfl ⟨rfl, ?_⟩)
      refine DL_q rfl rfl (Zm (v := .int .i64 i) rfl rfl ⟨rfl, ?_⟩)
      refine DL_q rfl rfl (Exec.sub_to hS2 DS54 rfl rfl rfl hvi fun u1 hu1 => ⟨rfl, ?_⟩)
      refine DL_q rfl rfl (Zm (v := v) rfl rfl ⟨rfl, ?_⟩)
      refine DL_q rfl rfl (Zm (v := .int .i64 j) rfl rfl ⟨rfl, ?_⟩)
      refine DL_q rfl rfl (Exec.sub_from hS2 DS54 rfl rfl rfl hvj fun u2 hu2 => ⟨rfl, ?_⟩)
      refine DL_e rfl rfl (Exec.append_shift (i := i.toNat) (j := j.toNat) hS2 DS54 hu1 hu2 (by omega) (by omega) hpos rfl rfl rfl ?_)
      intro u3 w3 hu3 hS3
      refine ⟨ag_nil, ?_⟩
      refine DL_e rfl rfl (Zo (v := u3) rfl rfl ⟨ag_nil, ?_⟩)
      refine Zb (Ze ?_)
      have hn : i.toNat + (xs.length - j.toNat) ≤ xs.length := by omega
      have hl3 : (xs.take i.toNat ++ xs.drop j.toNat ++ xs.drop (xs.length - (j.toNat - i.toNat))).length = xs.length := by simp; omega
      refine Zc ?_
      refine Zd ?_
      refine Za rfl rfl (Zm (v := u3) rfl rfl ?_)
      refine Za rfl rfl (Zm (v := u3) rfl rfl ?_)
      refine Za rfl rfl (Exec.len_sub DS54 hu3 rfl rfl ?_)
      refine Za rfl rfl (Zm (v := .int .i64 (xs.length : Int)) rfl rfl ?_)
      refine Za rfl rfl (Exec.sub_beyond hS3 (by omega) hu3 DS54 rfl rfl rfl rfl (by omega) (by omega) (by omega) fun u4 hu4 => ?_)
      refine Za rfl rfl (Exec.clear_sub (E := encStr) (y := (⟨#[]⟩ : ByteArray)) hS3 hu4 (by omega) DS54 DZ9 rfl rfl rfl ?_)
      intro w4 hS4
      refine Zb (Ze ?_)
      refine Zc ?_
      refine Zd ?_
      refine Za rfl rfl (Zm (v := u3) rfl rfl ?_)
      refine Za rfl rfl (Zo (v := u3) rfl rfl ?_)
      refine Zb (Ze ?_)
      refine W_ret ?_
      refine ⟨_, ret1 rfl, s, u3, Zv _, ?_, rfl⟩
      have h5 := hS4.arr_head (m := i.toNat + (xs.length - j.toNat)) hu3 (by simp; omega)
      have hl2 : (xs.take i.toNat ++ xs.drop j.toNat).length = i.toNat + (xs.length - j.toNat) := by simp; omega
      have e5 : ((((i.toNat + (xs.length - j.toNat) : Nat) : Int)).toNat) = i.toNat + (xs.length - j.toNat) := by omega
      rw [e5, List.append_assoc, List.take_left' (by rw [List.length_take, List.length_append, hl2]; omega), ← hl2, List.take_left' rfl] at h5
      exact h5
  · cases hm
end Go.Pw
/-
  The walks (printed by my generator).
-/
set_option maxRecDepth 100000
set_option maxHeartbeats 4000000
namespace Go.Pw
open Go.Proofs
theorem hmix : Tryz.prog.follows .mixedOrders = true := by kernel_rfl
theorem F56_0 : tyField Tryz.prog 56 0 = some 0 := by kernel_rfl
end Go.Pw
