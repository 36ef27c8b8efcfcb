/- -/
import Derived.Test.YtpjojkomdndamaaGreatDoorMsPw
import Derived.Test.YtpjojkomdndamaaGreatDoorMsPr2
import Derived.KernelRfl
set_option linter.unusedSimpArgs false
set_option linter.unusedVariables false
namespace Go.Pw
open Go.Proofs Go.RowKit Go.Shelf
attribute [local go_sem] Oper.semAt_some
theorem Qnf : Tryz.prog.follows .mixedOrders = true := by kernel_rfl
theorem T22 : Je Tryz.prog 22 = some (3, 1, 8) := by kernel_rfl
theorem G3 : JU Tryz.prog 3 = some (false, 1) := by kernel_rfl
theorem G22 : JU Tryz.prog 22 = some (false, 1) := by kernel_rfl
theorem F55 : Jt Tryz.prog 26 0 = some 0 := by kernel_rfl
def Qid (tv : List Int) (k : Int) (st : List Int × Int) : Option (List Int × Int) := (Jc tv k).bind fun d => (must (!decide (d = 0))).bind fun _ => (Kv st.1 k (st.2.tmod d)).bind fun s' => some (s', IntKind.i64.wrap (st.2.tdiv d))
def Qcm (tv : List Int) : List (Nat × Int) → List Int × Int → Option (List Int × Int)
 | [], st => some st
 | x :: l, st => (Qid tv x.2 st).bind (Qcm tv l)
theorem Qhd (tv : List Int) (x : Nat × Int) : ∀ (l : List (Nat × Int)) (st : List Int × Int), Qcm tv (l ++ [x]) st = (Qcm tv l st).bind (Qid tv x.2)
 | [], st => by simp [Qcm]
 | y :: l, st => by
  simp only [List.cons_append, Qcm]
  cases Qid tv y.2 st with
  | none => rfl
  | some st' => simp only [Option.bind_some]; exact Qhd tv x l st'
set_option maxRecDepth 100000 in
set_option maxHeartbeats 4000000 in
theorem Qnz (F : Fence) (n : Nat) (h0 : F.fn 79) (h3 : F.fn 105) (h5 : F.fn 129) (hro : F.round = none) (hn : 3 ≤ n) {v v1 v2 v3 v4 : Value} {gb bv ov cv : Nat} {tv zs xs r : List Int} {m m2 : Int} {s : PHeap} {w : World} (hbv : bv < w.heap.size) (hne : bv ≠ gb) (hreach : zs.length ≤ 17592186044415)
  (hs : ∀ b o, s b = some o → w.heap[b]? = some o) (hgs : s gb = none) (hgl : gb < w.heap.size) (a1 : SliceRep (Qa .i64) s v1 tv) (hrow : (Res.arr (Qa .i64) 3 v xs).p (fun _ => none) w [gb])
  (hc : ∀ j, j < zs.length → w.cell? ⟨bv, ov + j, none⟩ = some (.int .i64 (zs[j]?.getD 0))) (ho1 : v.oneCell' = true) (ho2 : v1.oneCell' = true)
  (hrun : ∀ pre x, pre ++ [x] <+: Qai (Qav zs) zs.length → ∃ st, Qcm tv (pre ++ [x]) (xs, m) = some st) (hend : Qcm tv (Qai (Qav zs) zs.length) (xs, m) = some (r, m2)) :
  CallsIn F n Tryz.prog 79 #[.agg #[v1, v2, v3, v4], .slice (some ⟨bv, ov, none⟩) zs.length cv, v, .int .i64 m] w fun e W' => e = .returned (.tuple #[]) ∧ PutW w gb [v1, v2, v3, v4] v (.slice (some ⟨bv, ov, none⟩) zs.length cv) r m2 W' := by
 have h1 : 1 ≤ n := by omega
 obtain ⟨av, nv, cvv, rfl⟩ : ∃ a k c, v = .slice a k c := by
  obtain ⟨a, c, h⟩ := Qgu hrow
  exact ⟨a, _, c, h⟩
 refine callsIn_of_wp_marks Tryz.func79 Z h0 ?_ hro
 simp only [Tryz.ntmps79, List.size_toArray, List.length_cons, List.length_nil, Nat.reduceAdd, Nat.reduceSub, Array.replicate_succ, Array.replicate_zero, List.push_toArray, List.append_toArray, List.nil_append, List.cons_append]
 gi_wp2_with (gi_at_call 105; refine (Qkc F (n - 1) h3 hro _ _ _ _).mono ?_; rintro e w' ⟨rfl, rfl⟩)
 have hlt4 : ∀ o, (w.alloc o).heap.size = w.heap.size + 1 := fun o => by simp
 refine QeN hro h1 (gf := 129) (lb := #[.pointer (some ⟨w.heap.size + 1 + 1 + 1, 0, none⟩)]) Z h5 (enters_of Tryz.func129 (by kernel_rfl) Z)
  (encs := fun x : Nat × Int => #[Value.int .i64 (x.1 : Int), Value.int .i64 x.2]) (fun _ => rfl)
  (fun pre W => ∃ st, Qcm tv pre (xs, m) = some st ∧ PutW w gb [v1, v2, v3, v4] (.slice av nv cvv) (.slice (some ⟨bv, ov, none⟩) zs.length cv) st.1 st.2 W)
  ?start ?put (Qai (Qav zs) zs.length) ?iter
  (fun x => { tmps := #[.agg #[v1, v2, v3, v4], .slice (some ⟨bv, ov, none⟩) zs.length cv, .slice av nv cvv, Value.int IntKind.i64 m,
     Value.pointer (some { block := w.heap.size, off := 0 }), undef,
     Value.pointer (some { block := w.heap.size + 1, off := 0 }),
     Value.pointer (some { block := w.heap.size + 1 + 1, off := 0 }), undef, .int .i64 x.2, Value.slice (some ⟨bv, ov, none⟩) zs.length cv,
     Value.func (Fn.func 129) #[] #[Value.pointer (some { block := w.heap.size + 1 + 1 + 1, off := 0 })], .int .i64 (x.1 : Int), .int .i64 x.2,
     undef, undef, undef, undef, undef, undef, undef, undef, undef, undef, undef, undef, undef, undef, undef,
     undef, undef], defers := [] }) ?assign ?body ?done
 case start =>
  intro o o'
  suffices hbase : PutW w gb [v1, v2, v3, v4] (.slice av nv cvv) (.slice (some ⟨bv, ov, none⟩) zs.length cv) xs m ((((w.alloc (Obj.cells #[v1, v2, v3, v4] 26)).alloc (Obj.cells #[Value.slice av nv cvv] 22)).alloc (Obj.cells #[Value.int IntKind.i64 m] 3)).alloc (Obj.cells #[Value.slice (some ⟨bv, ov, none⟩) zs.length cv] 22)) from ⟨_, rfl, (hbase.alloc o).alloc o'⟩
  refine ⟨Z, Z, Z, Nat.le_refl _, ?_, ?_, ?_, ?_, ?_, (Res.arr _ _ _ _).loc hrow fun b hb => ?_, fun b hb _ => ?_, hgl⟩
  ·simp
  ·exact (Below.heap_alloc _ _ _ (by simp only [World.size_alloc]; omega)).trans ((Below.heap_alloc _ _ _ (by simp only [World.size_alloc]; omega)).trans ((Below.heap_alloc _ _ _ (by simp only [World.size_alloc]; omega)).trans (World.alloc_heap_new w _)))
  ·have := World.alloc_heap_new (w.alloc (Obj.cells #[v1, v2, v3, v4] 26)) (Obj.cells #[Value.slice av nv cvv] 22)
   rw [World.size_alloc] at this
   exact (Below.heap_alloc _ _ _ (by simp only [World.size_alloc]; omega)).trans ((Below.heap_alloc _ _ _ (by simp only [World.size_alloc]; omega)).trans this)
  ·have := World.alloc_heap_new ((w.alloc (Obj.cells #[v1, v2, v3, v4] 26)).alloc (Obj.cells #[Value.slice av nv cvv] 22)) (Obj.cells #[Value.int IntKind.i64 m] 3)
   rw [World.size_alloc, World.size_alloc] at this
   exact (Below.heap_alloc _ _ _ (by simp only [World.size_alloc]; omega)).trans this
  ·have := World.alloc_heap_new (((w.alloc (Obj.cells #[v1, v2, v3, v4] 26)).alloc (Obj.cells #[Value.slice av nv cvv] 22)).alloc (Obj.cells #[Value.int IntKind.i64 m] 3)) (Obj.cells #[Value.slice (some ⟨bv, ov, none⟩) zs.length cv] 22)
   rw [World.size_alloc, World.size_alloc, World.size_alloc] at this
   exact this
  ·simp only [List.mem_singleton] at hb
   subst hb
   exact (Below.heap_alloc _ _ _ (by simp only [World.size_alloc]; omega)).trans ((Below.heap_alloc _ _ _ (by simp only [World.size_alloc]; omega)).trans ((Below.heap_alloc _ _ _ (by simp only [World.size_alloc]; omega)).trans (Below.heap_alloc _ _ _ hgl)))
  ·exact (Below.heap_alloc _ _ _ (by simp only [World.size_alloc]; omega)).trans ((Below.heap_alloc _ _ _ (by simp only [World.size_alloc]; omega)).trans ((Below.heap_alloc _ _ _ (by simp only [World.size_alloc]; omega)).trans (Below.heap_alloc _ _ _ hb)))
 case put =>
  rintro pre W o ⟨st, hst, hW⟩
  exact ⟨st, hst, hW.putObj o (by simp)⟩
 case iter =>
  intro l J W hJI hY h0
  have hcells : ∀ pre W', J pre W' → W'.cell? ⟨w.heap.size + 1 + 1 + 1, 0, none⟩ = some (.slice (some ⟨bv, ov, none⟩) zs.length cv) ∧ ∀ j, j < zs.length → W'.cell? ⟨bv, ov + j, none⟩ = some (.int .i64 (zs[j]?.getD 0)) := by
   intro pre W' hJ
   obtain ⟨st, _, hW⟩ := hJI pre W' hJ
   refine ⟨by simp [World.cell?, hW.b11], fun j hj => ?_⟩
   rw [World.cell?_of_block (w := w) (hW.old bv hbv hne)]
   exact hc j hj
  refine (Qmh F (n - 1) h5 hro (by omega) l (w.heap.size + 1 + 1 + 1) bv ov cv zs hreach J (fun _ _ => False) hcells (fun pre x W1 hJ hp => ?_) W h0).mono ?_
  ·exact hY pre x W1 hJ hp
  ·rintro e W2 ⟨he, (⟨ys, rfl, h⟩ | ⟨_, _, h⟩)⟩
   ·exact ⟨he, h⟩
   ·exact h.elim
 case assign =>
  intro l x W K hK
  gi_wp2
  exact hK
 case body =>
  rintro l pre x W ⟨⟨ys, k0⟩, hst, hW⟩ hpre
  obtain ⟨st', hst'⟩ := hrun pre x hpre
  have hst2 := hst'
  rw [Qhd, hst] at hst2
  simp only [Option.bind_some, Qid] at hst2
  obtain ⟨d, hd, hst2⟩ := Zg hst2
  obtain ⟨u, hu, hst2⟩ := Zg hst2
  obtain ⟨ys', hz, hst2⟩ := Zg hst2
  have hne0 : d ≠ 0 := by simpa using Q7 hu
  have hst3 := Zu hst2
  subst hst3
  have hS := hW.st
  have hv1 := a1.mono (hW.stays (w0 := w) hs hgs)
  obtain ⟨y0, hy0⟩ : ∃ y0, Jc ys x.2 = some y0 := by
   obtain ⟨g0, g1, _⟩ := Qao hz
   obtain ⟨y0, h⟩ : ∃ y0, ys[x.2.toNat]? = some y0 := ⟨ys[x.2.toNat], by simp [g1]⟩
   exact ⟨y0, by unfold Jc; rw [if_pos g0]; exact h⟩
  obtain ⟨x1, k⟩ := x
  simp only at hd hz hy0 hst'
  gi_wp2
  rename_i hKx
  refine QjP (N := 31) (n0 := 10) (f := fun n => Array.getD _ n undef) (Q := fun e f' W' => e = .normal ∧ PHeap.le (Qf9 w gb W) (Qf9 w gb W) ∧ St W (Qf9 w gb W) [Res.box (w.heap.size + 1 + 1) 3 [.int .i64 k0], Res.box (w.heap.size + 1) 22 [.slice av nv cvv], Res.box w.heap.size 26 [v1, v2, v3, v4], Res.arr (Qa .i64) 3 (.slice av nv cvv) ys'] W' ∧ f' 4 = .pointer (some ⟨w.heap.size, 0, none⟩) ∧ f' 7 = .pointer (some ⟨w.heap.size + 1 + 1, 0, none⟩) ∧ f' 9 = .int .i64 k) (.q 0 (.q 1 (.q 2 (.q 3 (.q 4 (.q 5 (.q 6 (.q 7 (.q 8 (.q 9 .done)))))))))) Qnf (by kernel_rfl) (by kernel_rfl) (by rfl) ⟨Z, Z, fun _ => rfl⟩ ?_ ?_ ?_
  ·rintro e a' W' ⟨f', hf', rfl, _, hS', p4, p7, p9⟩
   refine hKx a' W' ?_
   refine QjP (N := 31) (n0 := 7) (f := f') (Q := fun e f2 W2 => e = .normal ∧ St W (Qf9 w gb W) [Res.box (w.heap.size + 1 + 1) 3 [.int .i64 (IntKind.i64.wrap (k0.tdiv d))], Res.box (w.heap.size + 1) 22 [.slice av nv cvv], Res.box w.heap.size 26 [v1, v2, v3, v4], Res.arr (Qa .i64) 3 (.slice av nv cvv) ys'] W2) (.q 0 (.q 1 (.q 2 (.q 3 (.q 4 (.q 5 (.q 6 .done))))))) Qnf (by kernel_rfl) (by kernel_rfl) (by rfl) hf' ?_ ?_ ?_
   ·rintro e a2 W2 ⟨f2, hf2, rfl, hS2⟩
    obtain ⟨r1, r2, r3⟩ := hW.back (Zv _) hbv hne hS2
    exact ⟨Z, by simpa using r2, _, hst', r1⟩
   ·rintro ⟨_, _, _, _, h, _⟩
    cases h
   ·have hS := hS'.drew
    refine Qm Z Z (Zn hS G3 Z p7 Z ⟨Z, ?_⟩)
    refine Qm Z Z (Zp F55 Z p4 Z ⟨Z, ?_⟩)
    refine Qm Z Z (Zn hS.f2 G22 Z Z Z ⟨Z, ?_⟩)
    refine Qm Z Z (Zm (v := .int .i64 k) Z p9 ⟨Z, ?_⟩)
    refine Qm Z Z (QT T22 Z Z Z hv1 hd ?_)
    intro b off hat hrn
    refine ⟨Z, ?_⟩
    refine Qm Z Z (Zw (E := Qa .i64) hS G3 Z Z Z hat ?_)
    intro v' hv'
    obtain rfl := Qv.1 hv'
    refine ⟨Z, ?_⟩
    refine Qm Z Z (Exec.quo Z Z Z hne0 ⟨Z, ?_⟩)
    refine QG ?_
    refine O Z Z (Qe (ds := [.int .i64 (IntKind.i64.wrap (k0.tdiv d))]) (es := [.int .i64 (IntKind.i64.wrap (k0.tdiv d))]) hS G3 Z p7 Z Z (by simp [Value.oneCell']) (Nat.le_of_ble_eq_true Z) Z ?_)
    intro w1 hS1
    refine Zb ?_
    exact ⟨Z, hS1⟩
  ·rintro ⟨_, _, _, _, h, _⟩
   cases h
  ·have hS := hS.drew
   refine Qm Z Z (Zn hS.f1 G22 Z Z Z ⟨Z, ?_⟩)
   refine Qm Z Z (Zm (v := .int .i64 k) Z Z ⟨Z, ?_⟩)
   refine Qm Z Z (Zn hS G3 Z Z Z ⟨Z, ?_⟩)
   refine Qm Z Z (Zp F55 Z Z Z ⟨Z, ?_⟩)
   refine Qm Z Z (Zn hS.f2 G22 Z Z Z ⟨Z, ?_⟩)
   refine Qm Z Z (Zm (v := .int .i64 k) Z Z ⟨Z, ?_⟩)
   refine Qm Z Z (QT T22 Z Z Z hv1 hd ?_)
   intro b off hat hrn
   refine ⟨Z, ?_⟩
   refine Qm Z Z (Zw (E := Qa .i64) hS G3 Z Z Z hat ?_)
   intro v' hv'
   obtain rfl := Qv.1 hv'
   refine ⟨Z, ?_⟩
   refine Qm Z Z (Exec.rem Z Z Z hne0 ⟨Z, ?_⟩)
   obtain ⟨g', cap, hve⟩ := (hS.f3).arr_at hy0
   refine Qm Z Z (Qd T22 Z hve Z (Qg hy0).1 (Qg hy0).2.1 ⟨Z, ?_⟩)
   refine QG ?_
   refine O Z Z (QQ hS.f3 hve G3 Z Z Z Z (Qv.2 Z) hz ?_)
   intro w1 hS1
   refine Zb ?_
   exact ⟨Z, Zv _, hS1.f3.f3.f3, Z, Z, Z⟩
 case done =>
  rintro W ⟨st, hst, hW⟩ hK
  rw [hend] at hst
  cases hst
  have hD : w.heap.size + 4 ≤ ((((w.alloc (Obj.cells #[v1, v2, v3, v4] 26)).alloc (Obj.cells #[Value.slice av nv cvv] 22)).alloc (Obj.cells #[Value.int IntKind.i64 m] 3)).alloc (Obj.cells #[Value.slice (some ⟨bv, ov, none⟩) zs.length cv] 22)).heap.size := by simp
  generalize ((((w.alloc (Obj.cells #[v1, v2, v3, v4] 26)).alloc (Obj.cells #[Value.slice av nv cvv] 22)).alloc (Obj.cells #[Value.int IntKind.i64 m] 3)).alloc (Obj.cells #[Value.slice (some ⟨bv, ov, none⟩) zs.length cv] 22)).heap.size = D at hK hD ⊢
  gi_wp2
  refine ⟨by simp, .inl ⟨_, _, Z, run_takeDeferred hK, ?_⟩⟩
  exact ⟨_, results_none Z _ _ _, Z, hW.putObj _ hD⟩
end Go.Pw
