/-
  The library's slices.Delete of a slice of strings, as the walks call it.
-/
import Derived.Test.YtcabhickgjhkhaaGreatDoorIs0
import Derived.Test.YtcabhickgjhkhaaGreatDoorL20
import Derived.Test.YtcabhickgjhkhaaGreatDoorL10
import Derived.Test.YtcabhickgjhkhaaGreatDoorProg
import Derived.KernelRfl
import Derived.Test.YtcabhickgjhkhaaGreatDoorLI
import Derived.Shelf.Strconv.Quote
set_option maxRecDepth 100000
set_option maxHeartbeats 4000000
set_option linter.unusedSimpArgs false
set_option linter.unusedVariables false
namespace Go.Pw
open Go.Proofs
theorem DS54 : tySlice Tryz.prog 54 = some (9, 1, 16) := by kernel_rfl
theorem DZ9 : tyZero Tryz.prog 9 = some (.string ⟨#[]⟩) := by kernel_rfl
theorem DMx : Tryz.prog.follows .mixedOrders = true := by kernel_rfl
theorem delS_sim {w0 w : World} {s : PHeap} {H : List Res} {xs : List ByteArray} {i j : Int} {v : Value} {r : List ByteArray} (hm : delS_p xs i j = some r) (hS : St w0 s (Res.arr encStr 9 v xs :: H) w) :
    Calls Tryz.prog 75 #[v, Value.int .i64 i, Value.int .i64 j] w fun e w' => ∃ u, e = .returned u ∧ ((fun (l : List ByteArray) => ∃ (s' : PHeap) (v' : Value), PHeap.le s s' ∧ St w0 s' (Res.arr encStr 9 v' l :: H) w' ∧ u = v') r) := by
  unfold delS_p at hm
  split at hm
  · rename_i hc
    obtain ⟨h0, hij, hj, hpos⟩ := hc
    have hr := Zu hm
    subst hr
    refine calls_of_W Tryz.func75 rfl rfl ?_
    refine Zc ?_
    refine Zd ?_
    refine Za rfl rfl (Zo (v := .slice none 0 0) rfl rfl ?_)
    refine Zb (Ze ?_)
    refine Zc ?_
    refine Zd ?_
    refine Za rfl rfl (Zm (v := v) rfl rfl ?_)
    refine Za rfl rfl (Zm (v := .int .i64 i) rfl rfl ?_)
    refine Za rfl rfl (Zm (v := .int .i64 j) rfl rfl ?_)
    refine Za rfl rfl (Zm (v := v) rfl rfl ?_)
    refine Za rfl rfl (Exec.len_arr hS DS54 rfl rfl ?_)
    refine Za rfl rfl (Exec.sub_full (E := encStr) hS DS54 rfl rfl rfl rfl rfl h0 hij hj (Int.le_refl _) hpos ?_)
    intro u0
    refine Zb (Ze ?_)
    refine Zc ?_
    refine Zc ?_
    refine Zd ?_
    refine Za rfl rfl (Zm (v := .int .i64 i) rfl rfl ?_)
    refine Za rfl rfl (Zm (v := .int .i64 j) rfl rfl ?_)
    refine Za rfl rfl (Exec.eql rfl rfl rfl ?_)
    refine Zb (Ze ?_)
    by_cases he : i = j
    · subst he
      refine W_true (congrArg Value.bool (decide_eq_true rfl)) ?_
      refine Zc ?_
      refine Zd ?_
      refine Za rfl rfl (Zm (v := v) rfl rfl ?_)
      refine Za rfl rfl (Zo (v := v) rfl rfl ?_)
      refine Zb (Ze ?_)
      refine W_ret (at_ret ?_)
      refine ⟨_, ret1 rfl, s, v, Zv _, ?_, rfl⟩
      rw [List.take_append_drop]
      exact hS
    · refine W_false (congrArg Value.bool (decide_eq_false he)) ?_
      refine W_skip (Ze ?_)
      refine Zc ?_
      refine Zd ?_
      refine Za rfl rfl (Zm (v := v) rfl rfl ?_)
      refine Za rfl rfl (Exec.len_arr hS DS54 rfl rfl ?_)
      refine Za rfl rfl (Zo (v := .int .i64 (xs.length : Int)) rfl rfl ?_)
      refine Zb (Ze ?_)
      refine Zc ?_
      refine W_dl (n0 := 8) (.q 0 (.q 1 (.q 2 (.q 3 (.q 4 (.q 5 (.e 6 [] (.e 7 [] .done)))))))) DMx (by kernel_rfl) (by kernel_rfl) ?_
      have hS2 := hS.drew
      have hvi : view xs 0 i = some i.toNat := by unfold view; rw [if_pos ⟨Int.le_refl _, h0, by omega, hpos⟩]; simp
      have hvj : view xs j (xs.length : Int) = some (xs.length - j.toNat) := by unfold view; rw [if_pos ⟨by omega, by omega, Int.le_refl _, hpos⟩]; congr 1; omega
      refine DL_q rfl rfl (Zm (v := v) rfl rfl ⟨rfl, ?_⟩)
      refine DL_q rfl rfl (Zm (v := .int .i64 i) rfl rfl ⟨rfl, ?_⟩)
      refine DL_q rfl rfl (Exec.sub_to hS2 DS54 rfl rfl rfl hvi fun u1 hu1 => ⟨rfl, ?_⟩)
      refine DL_q rfl rfl (Zm (v := v) rfl rfl ⟨rfl, ?_⟩)
      refine DL_q rfl rfl (Zm (v := .int .i64 j) rfl rfl ⟨rfl, ?_⟩)
      refine DL_q rfl rfl (Exec.sub_from hS2 DS54 rfl rfl rfl hvj fun u2 hu2 => ⟨rfl, ?_⟩)
      refine DL_e rfl rfl (Exec.append_shift (i := i.toNat) (j := j.toNat) hS2 DS54 hu1 hu2 (by omega) (by omega) hpos rfl rfl rfl ?_)
      intro u3 w3 hu3 hS3
      refine ⟨ag_nil, ?_⟩
      refine DL_e rfl rfl (Zo (v := u3) rfl rfl ⟨ag_nil, ?_⟩)
      refine Zb (Ze ?_)
      have hn : i.toNat + (xs.length - j.toNat) ≤ xs.length := by omega
      have hl3 : (xs.take i.toNat ++ xs.drop j.toNat ++ xs.drop (xs.length - (j.toNat - i.toNat))).length = xs.length := by simp; omega
      refine Zc ?_
      refine Zd ?_
      refine Za rfl rfl (Zm (v := u3) rfl rfl ?_)
      refine Za rfl rfl (Zm (v := u3) rfl rfl ?_)
      refine Za rfl rfl (Exec.len_sub DS54 hu3 rfl rfl ?_)
      refine Za rfl rfl (Zm (v := .int .i64 (xs.length : Int)) rfl rfl ?_)
      refine Za rfl rfl (Exec.sub_beyond hS3 (by omega) hu3 DS54 rfl rfl rfl rfl (by omega) (by omega) (by omega) fun u4 hu4 => ?_)
      refine Za rfl rfl (Exec.clear_sub (E := encStr) (y := (⟨#[]⟩ : ByteArray)) hS3 hu4 (by omega) DS54 DZ9 rfl rfl rfl ?_)
      intro w4 hS4
      refine Zb (Ze ?_)
      refine Zc ?_
      refine Zd ?_
      refine Za rfl rfl (Zm (v := u3) rfl rfl ?_)
      refine Za rfl rfl (Zo (v := u3) rfl rfl ?_)
      refine Zb (Ze ?_)
      refine W_ret ?_
      refine ⟨_, ret1 rfl, s, u3, Zv _, ?_, rfl⟩
      have h5 := hS4.arr_head (m := i.toNat + (xs.length - j.toNat)) hu3 (by simp; omega)
      have hl2 : (xs.take i.toNat ++ xs.drop j.toNat).length = i.toNat + (xs.length - j.toNat) := by simp; omega
      have e5 : ((((i.toNat + (xs.length - j.toNat) : Nat) : Int)).toNat) = i.toNat + (xs.length - j.toNat) := by omega
      rw [e5, List.append_assoc, List.take_left' (by rw [List.length_take, List.length_append, hl2]; omega), ← hl2, List.take_left' rfl] at h5
      exact h5
  · cases hm
end Go.Pw
/-
  The walks (printed by my generator).
-/
set_option maxRecDepth 100000
set_option maxHeartbeats 4000000
namespace Go.Pw
open Go.Proofs
theorem hmix : Tryz.prog.follows .mixedOrders = true := by kernel_rfl
theorem F56_0 : tyField Tryz.prog 56 0 = some 0 := by kernel_rfl
end Go.Pw
/-
  strconv.Itoa, by the shelf's contract.
-/
set_option maxRecDepth 100000
set_option maxHeartbeats 4000000
namespace Go.Pw
open Go.Proofs Go.Shelf Go.RowKit Go.Lib
def lay76_ren : Go.Shelf.Ren := ⟨fun | 171 => 76 | 243 => 87 | 246 => 109 | 283 => 120 | 284 => 121 | 285 => 122 | 286 => 123 | 129 => 100 | 317 => 128 | 318 => 129 | 319 => 130 | 320 => 131 | 337 => 134 | 338 => 135 | n => n, fun | 3 => 3 | 9 => 9 | 2 => 2 | 4 => 4 | 171 => 172 | 0 => 0 | 53 => 155 | 37 => 49 | 5 => 5 | 173 => 174 | 212 => 185 | 51 => 153 | 20 => 20 | 213 => 186 | 46 => 118 | 232 => 192 | 233 => 193 | n => n, fun | 17 => 0 | 18 => 1 | 19 => 2 | n => n⟩
theorem lay76 : Go.Proofs.LaysM.n171 Tryz.prog lay76_ren := {
  mixed := by kernel_rfl,
  f129 := Tryz.func100.trans (congrArg some (by kernel_rfl)),
  f171 := Tryz.func76.trans (congrArg some (by kernel_rfl)),
  f243 := Tryz.func87.trans (congrArg some (by kernel_rfl)),
  f246 := Tryz.func109.trans (congrArg some (by kernel_rfl)),
  f283 := Tryz.func120.trans (congrArg some (by kernel_rfl)),
  f284 := Tryz.func121.trans (congrArg some (by kernel_rfl)),
  f285 := Tryz.func122.trans (congrArg some (by kernel_rfl)),
  f286 := Tryz.func123.trans (congrArg some (by kernel_rfl)),
  f317 := Tryz.func128.trans (congrArg some (by kernel_rfl)),
  f318 := Tryz.func129.trans (congrArg some (by kernel_rfl)),
  f319 := Tryz.func130.trans (congrArg some (by kernel_rfl)),
  f320 := Tryz.func131.trans (congrArg some (by kernel_rfl)),
  f337 := Tryz.func134.trans (congrArg some (by kernel_rfl)),
  f338 := Tryz.func135.trans (congrArg some (by kernel_rfl)),
  t0 := Tryz.underlying0,
  a0 := Tryz.isAgg0,
  z0 := Tryz.sizeOf0,
  v0 := Tryz.zeroValue0,
  t2 := Tryz.underlying2,
  a2 := Tryz.isAgg2,
  z2 := Tryz.sizeOf2,
  v2 := Tryz.zeroValue2,
  t3 := Tryz.underlying3,
  a3 := Tryz.isAgg3,
  z3 := Tryz.sizeOf3,
  v3 := Tryz.zeroValue3,
  t4 := Tryz.underlying4,
  a4 := Tryz.isAgg4,
  z4 := Tryz.sizeOf4,
  v4 := Tryz.zeroValue4,
  t5 := Tryz.underlying5,
  a5 := Tryz.isAgg5,
  z5 := Tryz.sizeOf5,
  v5 := Tryz.zeroValue5,
  t9 := Tryz.underlying9,
  a9 := Tryz.isAgg9,
  z9 := Tryz.sizeOf9,
  v9 := Tryz.zeroValue9,
  t20 := Tryz.underlying20,
  a20 := Tryz.isAgg20,
  z20 := Tryz.sizeOf20,
  v20 := Tryz.zeroValue20,
  t37 := Tryz.underlying49,
  a37 := Tryz.isAgg49,
  z37 := Tryz.sizeOf49,
  v37 := Tryz.zeroValue49,
  t46 := Tryz.underlying118,
  a46 := Tryz.isAgg118,
  z46 := Tryz.sizeOf118,
  v46 := Tryz.zeroValue118,
  t51 := Tryz.underlying153,
  a51 := Tryz.isAgg153,
  z51 := Tryz.sizeOf153,
  v51 := Tryz.zeroValue153,
  t53 := Tryz.underlying155,
  a53 := Tryz.isAgg155,
  z53 := Tryz.sizeOf155,
  v53 := Tryz.zeroValue155,
  t171 := Tryz.underlying172,
  a171 := Tryz.isAgg172,
  z171 := Tryz.sizeOf172,
  v171 := Tryz.zeroValue172,
  t173 := Tryz.underlying174,
  a173 := Tryz.isAgg174,
  z173 := Tryz.sizeOf174,
  v173 := Tryz.zeroValue174,
  t212 := Tryz.underlying185,
  a212 := Tryz.isAgg185,
  z212 := Tryz.sizeOf185,
  v212 := Tryz.zeroValue185,
  t213 := Tryz.underlying186,
  a213 := Tryz.isAgg186,
  z213 := Tryz.sizeOf186,
  t232 := Tryz.underlying192,
  a232 := Tryz.isAgg192,
  z232 := Tryz.sizeOf192,
  v232 := Tryz.zeroValue192,
  t233 := Tryz.underlying193,
  a233 := Tryz.isAgg193,
  z233 := Tryz.sizeOf193,
  v233 := Tryz.zeroValue193,
  g17 := by kernel_rfl,
  g18 := by kernel_rfl,
  g19 := by kernel_rfl,
  i0 := by kernel_rfl,
  i2 := by kernel_rfl,
  i3 := by kernel_rfl,
  i4 := by kernel_rfl,
  i5 := by kernel_rfl,
  i9 := by kernel_rfl,
  i20 := by kernel_rfl,
  i37 := by kernel_rfl,
  i46 := by kernel_rfl,
  i51 := by kernel_rfl,
  i53 := by kernel_rfl,
  i171 := by kernel_rfl,
  i173 := by kernel_rfl,
  i212 := by kernel_rfl,
  i232 := by kernel_rfl,
  i233 := by kernel_rfl,
  m17 := by kernel_rfl,
  m18 := by kernel_rfl,
  m19 := by kernel_rfl }
theorem strconv_Itoa_sim {w0 w : World} {s : PHeap} {H : List Res} {n : Int} {r : ByteArray} (hm : strconv_Itoa_p n = some r) (hS : St w0 s H w) (ht : TabR Tryz.prog w0 s) :
    Calls Tryz.prog 76 #[.int .i64 n] w fun e w' => ∃ v, e = .returned v ∧ ((fun (y : ByteArray) => ∃ (s' : PHeap), PHeap.le s s' ∧ St w0 s' H w' ∧ v = Value.string y) r) := by
  unfold strconv_Itoa_p at hm
  split at hm
  · rename_i hc
    have hr := Zu hm
    subst hr
    refine (Any.strconv_Itoa lay76 n hc.1 hc.2 w (ht.1.here hS)).mono ?_
    rintro e w' ⟨rfl, k, os, rfl⟩
    exact ⟨_, rfl, s, Zv _, hS.grown k os, rfl⟩
  · cases hm
end Go.Pw
/-
  The walks (printed by my generator).
-/
set_option maxRecDepth 100000
set_option maxHeartbeats 4000000
namespace Go.Pw
open Go.Proofs
theorem Z140 : tyZero Tryz.prog 140 = some (Value.agg #[Value.pointer none, Value.slice none 0 0]) := by kernel_rfl
end Go.Pw
/-
  strconv.Quote, by the shelf's contract.
-/
set_option maxRecDepth 100000
set_option maxHeartbeats 4000000
namespace Go.Pw
open Go.Proofs Go.Shelf Go.RowKit Go.Lib
def lay89_ren : Go.Shelf.Ren := ⟨fun | 177 => 89 | 250 => 111 | 289 => 125 | 197 => 132 | 323 => 133 | 260 => 136 | 339 => 137 | 340 => 138 | 242 => 139 | 119 => 140 | 345 => 141 | 346 => 142 | 278 => 143 | n => n, fun | 9 => 9 | 5 => 5 | 4 => 4 | 3 => 3 | 37 => 49 | 21 => 21 | 105 => 187 | 46 => 118 | 119 => 194 | 0 => 0 | 139 => 197 | 138 => 196 | 49 => 198 | 234 => 199 | 131 => 42 | 51 => 153 | 236 => 201 | n => n, fun | 3 => 3 | 4 => 4 | 20 => 5 | 21 => 6 | 22 => 7 | 23 => 8 | 24 => 9 | n => n⟩
theorem lay89 : Go.Proofs.Lays.n177 Tryz.prog lay89_ren := {
  mixed := by kernel_rfl,
  f119 := Tryz.func140.trans (congrArg some (by kernel_rfl)),
  f177 := Tryz.func89.trans (congrArg some (by kernel_rfl)),
  f197 := Tryz.func132.trans (congrArg some (by kernel_rfl)),
  f242 := Tryz.func139.trans (congrArg some (by kernel_rfl)),
  f250 := Tryz.func111.trans (congrArg some (by kernel_rfl)),
  f260 := Tryz.func136.trans (congrArg some (by kernel_rfl)),
  f278 := Tryz.func143.trans (congrArg some (by kernel_rfl)),
  f289 := Tryz.func125.trans (congrArg some (by kernel_rfl)),
  f323 := Tryz.func133.trans (congrArg some (by kernel_rfl)),
  f339 := Tryz.func137.trans (congrArg some (by kernel_rfl)),
  f340 := Tryz.func138.trans (congrArg some (by kernel_rfl)),
  f345 := Tryz.func141.trans (congrArg some (by kernel_rfl)),
  f346 := Tryz.func142.trans (congrArg some (by kernel_rfl)),
  t0 := Tryz.underlying0,
  a0 := Tryz.isAgg0,
  z0 := Tryz.sizeOf0,
  v0 := Tryz.zeroValue0,
  t3 := Tryz.underlying3,
  a3 := Tryz.isAgg3,
  z3 := Tryz.sizeOf3,
  v3 := Tryz.zeroValue3,
  t4 := Tryz.underlying4,
  a4 := Tryz.isAgg4,
  z4 := Tryz.sizeOf4,
  v4 := Tryz.zeroValue4,
  t5 := Tryz.underlying5,
  a5 := Tryz.isAgg5,
  z5 := Tryz.sizeOf5,
  v5 := Tryz.zeroValue5,
  t9 := Tryz.underlying9,
  a9 := Tryz.isAgg9,
  z9 := Tryz.sizeOf9,
  v9 := Tryz.zeroValue9,
  t21 := Tryz.underlying21,
  a21 := Tryz.isAgg21,
  z21 := Tryz.sizeOf21,
  v21 := Tryz.zeroValue21,
  t37 := Tryz.underlying49,
  a37 := Tryz.isAgg49,
  z37 := Tryz.sizeOf49,
  v37 := Tryz.zeroValue49,
  t46 := Tryz.underlying118,
  a46 := Tryz.isAgg118,
  z46 := Tryz.sizeOf118,
  v46 := Tryz.zeroValue118,
  t49 := Tryz.underlying198,
  a49 := Tryz.isAgg198,
  z49 := Tryz.sizeOf198,
  v49 := Tryz.zeroValue198,
  t51 := Tryz.underlying153,
  a51 := Tryz.isAgg153,
  z51 := Tryz.sizeOf153,
  v51 := Tryz.zeroValue153,
  t105 := Tryz.underlying187,
  a105 := Tryz.isAgg187,
  z105 := Tryz.sizeOf187,
  v105 := Tryz.zeroValue187,
  t119 := Tryz.underlying194,
  a119 := Tryz.isAgg194,
  z119 := Tryz.sizeOf194,
  t131 := Tryz.underlying42,
  a131 := Tryz.isAgg42,
  z131 := Tryz.sizeOf42,
  v131 := Tryz.zeroValue42,
  t138 := Tryz.underlying196,
  a138 := Tryz.isAgg196,
  z138 := Tryz.sizeOf196,
  v138 := Tryz.zeroValue196,
  t139 := Tryz.underlying197,
  a139 := Tryz.isAgg197,
  z139 := Tryz.sizeOf197,
  v139 := Tryz.zeroValue197,
  t234 := Tryz.underlying199,
  a234 := Tryz.isAgg199,
  z234 := Tryz.sizeOf199,
  v234 := Tryz.zeroValue199,
  t236 := Tryz.underlying201,
  a236 := Tryz.isAgg201,
  z236 := Tryz.sizeOf201,
  v236 := Tryz.zeroValue201,
  g3 := by kernel_rfl,
  g4 := by kernel_rfl,
  g20 := by kernel_rfl,
  g21 := by kernel_rfl,
  g22 := by kernel_rfl,
  g23 := by kernel_rfl,
  g24 := by kernel_rfl }
theorem strconv_Quote_sim {w0 w : World} {s : PHeap} {H : List Res} {q : ByteArray} {r : ByteArray} (hm : strconv_Quote_p q = some r) (hS : St w0 s H w) (ht : TabR Tryz.prog w0 s) :
    Calls Tryz.prog 89 #[.string q] w fun e w' => ∃ v, e = .returned v ∧ ((fun (y : ByteArray) => ∃ (s' : PHeap), PHeap.le s s' ∧ St w0 s' H w' ∧ v = Value.string y) r) := by
  unfold strconv_Quote_p at hm
  split at hm
  · rename_i hc
    have hr := Zu hm
    subst hr
    have hq := ht.here hS
    refine (Any.strconv_Quote lay89 (by kernel_rfl) Lib.goPrintTabs q w hc hq.print hq.utf).mono ?_
    rintro e w' ⟨rfl, hb⟩
    exact ⟨_, rfl, s, Zv _, hS.below0 ht.2.1 hb, rfl⟩
  · cases hm
end Go.Pw
/-
  The walks (printed by my generator).
-/
set_option maxRecDepth 100000
set_option maxHeartbeats 4000000
namespace Go.Pw
open Go.Proofs
end Go.Pw
