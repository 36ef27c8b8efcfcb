/- -/
import Derived.Test.YtjbjflndiajoiaaGreatDoorWsA
import Derived.Test.YtjbjflndiajoiaaGreatDoorWsPr2
import Derived.KernelRfl
import Derived.Sort.EveryDepth
set_option linter.unusedSimpArgs false
set_option linter.unusedVariables false
namespace Go.Pw
open Go.Proofs Go.RowKit Go.Shelf
attribute [local go_sem] Oper.semAt_some
theorem Qpl : Tryz.prog.follows .mixedOrders = true := by kernel_rfl
theorem T22 : QZ Tryz.prog 22 = some (3, 1, 8) := by kernel_rfl
theorem G3 : YB Tryz.prog 3 = some (false, 1) := by kernel_rfl
theorem G22 : YB Tryz.prog 22 = some (false, 1) := by kernel_rfl
theorem F55 : Qe4 Tryz.prog 26 0 = some 0 := by kernel_rfl
def QjQ (tv : List Int) (k : Int) (st : List Int × Int) : Option (List Int × Int) := (Q9 tv k).bind fun d => (must (!decide (d = 0))).bind fun _ => (JL st.1 k (st.2.tmod d)).bind fun s' => some (s', IntKind.i64.wrap (st.2.tdiv d))
def Qdm (tv : List Int) : List (Nat × Int) → List Int × Int → Option (List Int × Int)
 | [], st => some st
 | x :: l, st => (QjQ tv x.2 st).bind (Qdm tv l)
theorem QiL (tv : List Int) (x : Nat × Int) : ∀ (l : List (Nat × Int)) (st : List Int × Int), Qdm tv (l ++ [x]) st = (Qdm tv l st).bind (QjQ tv x.2)
 | [], st => by simp [Qdm]
 | y :: l, st => by
  simp only [List.cons_append, Qdm]
  cases QjQ tv y.2 st with
  | none => rfl
  | some st' => simp only [Option.bind_some]; exact QiL tv x l st'
set_option maxRecDepth 100000 in
set_option maxHeartbeats 4000000 in
theorem QpM (F : Fence) (n : Nat) (h0 : F.fn 45) (h3 : F.fn 72) (h5 : F.fn 102) (hro : F.round = none) (hn : 3 ≤ n) {v v1 v2 v3 v4 : Value} {gb bv ov cv : Nat} {tv zs xs r : List Int} {m m2 : Int} {s : PHeap} {w : World} (hbv : bv < w.heap.size) (hne : bv ≠ gb) (hreach : zs.length ≤ 17592186044415)
  (hs : ∀ b o, s b = some o → w.heap[b]? = some o) (hgs : s gb = none) (hgl : gb < w.heap.size) (a1 : SliceRep (U .i64) s v1 tv) (hrow : (Res.arr (U .i64) 3 v xs).p (fun _ => none) w [gb])
  (hc : ∀ j, j < zs.length → w.cell? ⟨bv, ov + j, none⟩ = some (.int .i64 (zs[j]?.getD 0))) (ho1 : v.oneCell' = true) (ho2 : v1.oneCell' = true)
  (hrun : ∀ pre x, pre ++ [x] <+: QaK (Qbf zs) zs.length → ∃ st, Qdm tv (pre ++ [x]) (xs, m) = some st) (hend : Qdm tv (QaK (Qbf zs) zs.length) (xs, m) = some (r, m2)) :
  CallsIn F n Tryz.prog 45 #[.agg #[v1, v2, v3, v4], .slice (some ⟨bv, ov, none⟩) zs.length cv, v, .int .i64 m] w fun e W' => e = .returned (.tuple #[]) ∧ PutW w gb [v1, v2, v3, v4] v (.slice (some ⟨bv, ov, none⟩) zs.length cv) r m2 W' := by
 have h1 : 1 ≤ n := by omega
 obtain ⟨av, nv, cvv, rfl⟩ : ∃ a k c, v = .slice a k c := by
  obtain ⟨a, c, h⟩ := QhW hrow
  exact ⟨a, _, c, h⟩
 refine callsIn_of_wp_marks Tryz.func45 Z h0 ?_ hro
 simp only [Tryz.ntmps45, List.size_toArray, List.length_cons, List.length_nil, Nat.reduceAdd, Nat.reduceSub, Array.replicate_succ, Array.replicate_zero, List.push_toArray, List.append_toArray, List.nil_append, List.cons_append]
 gi_wp2_with (gi_at_call 72; refine (QlT F (n - 1) h3 hro _ _ _ _).mono ?_; rintro e w' ⟨rfl, rfl⟩)
 have hlt4 : ∀ o, (w.alloc o).heap.size = w.heap.size + 1 := fun o => by simp
 refine Qgk hro h1 (gf := 102) (lb := #[.pointer (some ⟨w.heap.size + 1 + 1 + 1, 0, none⟩)]) Z h5 (enters_of Tryz.func102 (by kernel_rfl) Z)
  (encs := fun x : Nat × Int => #[Value.int .i64 (x.1 : Int), Value.int .i64 x.2]) (fun _ => rfl)
  (fun pre W => ∃ st, Qdm tv pre (xs, m) = some st ∧ PutW w gb [v1, v2, v3, v4] (.slice av nv cvv) (.slice (some ⟨bv, ov, none⟩) zs.length cv) st.1 st.2 W)
  ?start ?put (QaK (Qbf zs) zs.length) ?iter
  (fun x => { tmps := #[.agg #[v1, v2, v3, v4], .slice (some ⟨bv, ov, none⟩) zs.length cv, .slice av nv cvv, Value.int IntKind.i64 m,
     Value.pointer (some { block := w.heap.size, off := 0 }), undef,
     Value.pointer (some { block := w.heap.size + 1, off := 0 }),
     Value.pointer (some { block := w.heap.size + 1 + 1, off := 0 }), undef, .int .i64 x.2, Value.slice (some ⟨bv, ov, none⟩) zs.length cv,
     Value.func (Fn.func 102) #[] #[Value.pointer (some { block := w.heap.size + 1 + 1 + 1, off := 0 })], .int .i64 (x.1 : Int), .int .i64 x.2,
     undef, undef, undef, undef, undef, undef, undef, undef, undef, undef, undef, undef, undef, undef, undef,
     undef, undef], defers := [] }) ?assign ?body ?done
 case start =>
  intro o o'
  suffices hbase : PutW w gb [v1, v2, v3, v4] (.slice av nv cvv) (.slice (some ⟨bv, ov, none⟩) zs.length cv) xs m ((((w.alloc (Obj.cells #[v1, v2, v3, v4] 26)).alloc (Obj.cells #[Value.slice av nv cvv] 22)).alloc (Obj.cells #[Value.int IntKind.i64 m] 3)).alloc (Obj.cells #[Value.slice (some ⟨bv, ov, none⟩) zs.length cv] 22)) from ⟨_, rfl, (hbase.alloc o).alloc o'⟩
  refine ⟨Z, Z, Z, Nat.le_refl _, ?_, ?_, ?_, ?_, ?_, (Res.arr _ _ _ _).loc hrow fun b hb => ?_, fun b hb _ => ?_, hgl⟩
  ·simp
  ·exact (Below.heap_alloc _ _ _ (by simp only [World.size_alloc]; omega)).trans ((Below.heap_alloc _ _ _ (by simp only [World.size_alloc]; omega)).trans ((Below.heap_alloc _ _ _ (by simp only [World.size_alloc]; omega)).trans (World.alloc_heap_new w _)))
  ·have := World.alloc_heap_new (w.alloc (Obj.cells #[v1, v2, v3, v4] 26)) (Obj.cells #[Value.slice av nv cvv] 22)
   rw [World.size_alloc] at this
   exact (Below.heap_alloc _ _ _ (by simp only [World.size_alloc]; omega)).trans ((Below.heap_alloc _ _ _ (by simp only [World.size_alloc]; omega)).trans this)
  ·have := World.alloc_heap_new ((w.alloc (Obj.cells #[v1, v2, v3, v4] 26)).alloc (Obj.cells #[Value.slice av nv cvv] 22)) (Obj.cells #[Value.int IntKind.i64 m] 3)
   rw [World.size_alloc, World.size_alloc] at this
   exact (Below.heap_alloc _ _ _ (by simp only [World.size_alloc]; omega)).trans this
  ·have := World.alloc_heap_new (((w.alloc (Obj.cells #[v1, v2, v3, v4] 26)).alloc (Obj.cells #[Value.slice av nv cvv] 22)).alloc (Obj.cells #[Value.int IntKind.i64 m] 3)) (Obj.cells #[Value.slice (some ⟨bv, ov, none⟩) zs.length cv] 22)
   rw [World.size_alloc, World.size_alloc, World.size_alloc] at this
   exact this
  ·simp only [List.mem_singleton] at hb
   subst hb
   exact (Below.heap_alloc _ _ _ (by simp only [World.size_alloc]; omega)).trans ((Below.heap_alloc _ _ _ (by simp only [World.size_alloc]; omega)).trans ((Below.heap_alloc _ _ _ (by simp only [World.size_alloc]; omega)).trans (Below.heap_alloc _ _ _ hgl)))
  ·exact (Below.heap_alloc _ _ _ (by simp only [World.size_alloc]; omega)).trans ((Below.heap_alloc _ _ _ (by simp only [World.size_alloc]; omega)).trans ((Below.heap_alloc _ _ _ (by simp only [World.size_alloc]; omega)).trans (Below.heap_alloc _ _ _ hb)))
 case put =>
  rintro pre W o ⟨st, hst, hW⟩
  exact ⟨st, hst, hW.putObj o (by simp)⟩
 case iter =>
  intro l J W hJI hY h0
  have hcells : ∀ pre W', J pre W' → W'.cell? ⟨w.heap.size + 1 + 1 + 1, 0, none⟩ = some (.slice (some ⟨bv, ov, none⟩) zs.length cv) ∧ ∀ j, j < zs.length → W'.cell? ⟨bv, ov + j, none⟩ = some (.int .i64 (zs[j]?.getD 0)) := by
   intro pre W' hJ
   obtain ⟨st, _, hW⟩ := hJI pre W' hJ
   refine ⟨by simp [World.cell?, hW.b11], fun j hj => ?_⟩
   rw [World.cell?_of_block (w := w) (hW.old bv hbv hne)]
   exact hc j hj
  refine (Qol F (n - 1) h5 hro (by omega) l (w.heap.size + 1 + 1 + 1) bv ov cv zs hreach J (fun _ _ => False) hcells (fun pre x W1 hJ hp => ?_) W h0).mono ?_
  ·exact hY pre x W1 hJ hp
  ·rintro e W2 ⟨he, (⟨ys, rfl, h⟩ | ⟨_, _, h⟩)⟩
   ·exact ⟨he, h⟩
   ·exact h.elim
 case assign =>
  intro l x W K hK
  gi_wp2
  exact hK
 case body =>
  rintro l pre x W ⟨⟨ys, k0⟩, hst, hW⟩ hpre
  obtain ⟨st', hst'⟩ := hrun pre x hpre
  have hst2 := hst'
  rw [QiL, hst] at hst2
  simp only [Option.bind_some, QjQ] at hst2
  obtain ⟨d, hd, hst2⟩ := V hst2
  obtain ⟨u, hu, hst2⟩ := V hst2
  obtain ⟨ys', hz, hst2⟩ := V hst2
  have hne0 : d ≠ 0 := by simpa using Ql hu
  have hst3 := Zu hst2
  subst hst3
  have hS := hW.st
  have hv1 := a1.mono (hW.stays (w0 := w) hs hgs)
  obtain ⟨y0, hy0⟩ : ∃ y0, Q9 ys x.2 = some y0 := by
   obtain ⟨g0, g1, _⟩ := QaU hz
   obtain ⟨y0, h⟩ : ∃ y0, ys[x.2.toNat]? = some y0 := ⟨ys[x.2.toNat], by simp [g1]⟩
   exact ⟨y0, by unfold Q9; rw [if_pos g0]; exact h⟩
  obtain ⟨x1, k⟩ := x
  simp only at hd hz hy0 hst'
  gi_wp2
  rename_i hKx
  refine QlA (N := 31) (n0 := 10) (f := fun n => Array.getD _ n undef) (Q := fun e f' W' => e = .normal ∧ PHeap.le (Qhc w gb W) (Qhc w gb W) ∧ St W (Qhc w gb W) [Res.box (w.heap.size + 1 + 1) 3 [.int .i64 k0], Res.box (w.heap.size + 1) 22 [.slice av nv cvv], Res.box w.heap.size 26 [v1, v2, v3, v4], Res.arr (U .i64) 3 (.slice av nv cvv) ys'] W' ∧ f' 4 = .pointer (some ⟨w.heap.size, 0, none⟩) ∧ f' 7 = .pointer (some ⟨w.heap.size + 1 + 1, 0, none⟩) ∧ f' 9 = .int .i64 k) (.q 0 (.q 1 (.q 2 (.q 3 (.q 4 (.q 5 (.q 6 (.q 7 (.q 8 (.q 9 .done)))))))))) Qpl (by kernel_rfl) (by kernel_rfl) (by rfl) ⟨Z, Z, fun _ => rfl⟩ ?_ ?_ ?_
  ·rintro e a' W' ⟨f', hf', rfl, _, hS', p4, p7, p9⟩
   refine hKx a' W' ?_
   refine QlA (N := 31) (n0 := 7) (f := f') (Q := fun e f2 W2 => e = .normal ∧ St W (Qhc w gb W) [Res.box (w.heap.size + 1 + 1) 3 [.int .i64 (IntKind.i64.wrap (k0.tdiv d))], Res.box (w.heap.size + 1) 22 [.slice av nv cvv], Res.box w.heap.size 26 [v1, v2, v3, v4], Res.arr (U .i64) 3 (.slice av nv cvv) ys'] W2) (.q 0 (.q 1 (.q 2 (.q 3 (.q 4 (.q 5 (.q 6 .done))))))) Qpl (by kernel_rfl) (by kernel_rfl) (by rfl) hf' ?_ ?_ ?_
   ·rintro e a2 W2 ⟨f2, hf2, rfl, hS2⟩
    obtain ⟨r1, r2, r3⟩ := hW.back (Zv _) hbv hne hS2
    exact ⟨Z, by simpa using r2, _, hst', r1⟩
   ·rintro ⟨_, _, _, _, h, _⟩
    cases h
   ·have hS := hS'.drew
    refine Qaq Z Z (Zn hS G3 Z p7 Z ⟨Z, ?_⟩)
    refine Qaq Z Z (Zp F55 Z p4 Z ⟨Z, ?_⟩)
    refine Qaq Z Z (Zn hS.f2 G22 Z Z Z ⟨Z, ?_⟩)
    refine Qaq Z Z (Zm (v := .int .i64 k) Z p9 ⟨Z, ?_⟩)
    refine Qaq Z Z (Qy T22 Z Z Z hv1 hd ?_)
    intro b off hat hrn
    refine ⟨Z, ?_⟩
    refine Qaq Z Z (Zw (E := U .i64) hS G3 Z Z Z hat ?_)
    intro v' hv'
    obtain rfl := Qg.1 hv'
    refine ⟨Z, ?_⟩
    refine Qaq Z Z (Exec.quo Z Z Z hne0 ⟨Z, ?_⟩)
    refine Qha ?_
    refine Za Z Z (Qq (ds := [.int .i64 (IntKind.i64.wrap (k0.tdiv d))]) (es := [.int .i64 (IntKind.i64.wrap (k0.tdiv d))]) hS G3 Z p7 Z Z (by simp [Value.oneCell']) (Nat.le_of_ble_eq_true Z) Z ?_)
    intro w1 hS1
    refine Zb ?_
    exact ⟨Z, hS1⟩
  ·rintro ⟨_, _, _, _, h, _⟩
   cases h
  ·have hS := hS.drew
   refine Qaq Z Z (Zn hS.f1 G22 Z Z Z ⟨Z, ?_⟩)
   refine Qaq Z Z (Zm (v := .int .i64 k) Z Z ⟨Z, ?_⟩)
   refine Qaq Z Z (Zn hS G3 Z Z Z ⟨Z, ?_⟩)
   refine Qaq Z Z (Zp F55 Z Z Z ⟨Z, ?_⟩)
   refine Qaq Z Z (Zn hS.f2 G22 Z Z Z ⟨Z, ?_⟩)
   refine Qaq Z Z (Zm (v := .int .i64 k) Z Z ⟨Z, ?_⟩)
   refine Qaq Z Z (Qy T22 Z Z Z hv1 hd ?_)
   intro b off hat hrn
   refine ⟨Z, ?_⟩
   refine Qaq Z Z (Zw (E := U .i64) hS G3 Z Z Z hat ?_)
   intro v' hv'
   obtain rfl := Qg.1 hv'
   refine ⟨Z, ?_⟩
   refine Qaq Z Z (Exec.rem Z Z Z hne0 ⟨Z, ?_⟩)
   obtain ⟨g', cap, hve⟩ := (hS.f3).arr_at hy0
   refine Qaq Z Z (Qa T22 Z hve Z (Qb hy0).1 (Qb hy0).2.1 ⟨Z, ?_⟩)
   refine Qha ?_
   refine Za Z Z (Qx hS.f3 hve G3 Z Z Z Z (Qg.2 Z) hz ?_)
   intro w1 hS1
   refine Zb ?_
   exact ⟨Z, Zv _, hS1.f3.f3.f3, Z, Z, Z⟩
 case done =>
  rintro W ⟨st, hst, hW⟩ hK
  rw [hend] at hst
  cases hst
  have hD : w.heap.size + 4 ≤ ((((w.alloc (Obj.cells #[v1, v2, v3, v4] 26)).alloc (Obj.cells #[Value.slice av nv cvv] 22)).alloc (Obj.cells #[Value.int IntKind.i64 m] 3)).alloc (Obj.cells #[Value.slice (some ⟨bv, ov, none⟩) zs.length cv] 22)).heap.size := by simp
  generalize ((((w.alloc (Obj.cells #[v1, v2, v3, v4] 26)).alloc (Obj.cells #[Value.slice av nv cvv] 22)).alloc (Obj.cells #[Value.int IntKind.i64 m] 3)).alloc (Obj.cells #[Value.slice (some ⟨bv, ov, none⟩) zs.length cv] 22)).heap.size = D at hK hD ⊢
  gi_wp2
  refine ⟨by simp, .inl ⟨_, _, Z, run_takeDeferred hK, ?_⟩⟩
  exact ⟨_, results_none Z _ _ _, Z, hW.putObj _ hD⟩
end Go.Pw
/- -/
namespace Go.Pw
open Go.Proofs Go.RowKit Go.Shelf Go.Sort
theorem QnD {w0 w : World} {s : PHeap} {H : List Res} {v v1 v2 v3 v4 : Value} {bv ov cv : Nat} {tv zs xs r : List Int} {m m2 y : Int} (hS : St w0 s (Res.arr (U .i64) 3 v xs :: H) w) (hx : 0 < xs.length) (hbv : s bv ≠ none) (hreach : zs.length ≤ 17592186044415)
  (a1 : SliceRep (U .i64) s v1 tv) (hc : ∀ j, j < zs.length → w.cell? ⟨bv, ov + j, none⟩ = some (.int .i64 (zs[j]?.getD 0))) (ho1 : v.oneCell' = true) (ho2 : v1.oneCell' = true)
  (hrun : ∀ pre x, pre ++ [x] <+: QaK (Qbf zs) zs.length → ∃ st, Qdm tv (pre ++ [x]) (xs, m) = some st) (hend : Qdm tv (QaK (Qbf zs) zs.length) (xs, m) = some (r, m2)) :
  Calls Tryz.prog 45 #[.agg #[v1, v2, v3, v4], .slice (some ⟨bv, ov, none⟩) zs.length cv, v, .int .i64 m] w fun e w' => e = .returned (.tuple #[]) ∧ St w0 s (Res.arr (U .i64) 3 v r :: H) w' := by
 have hS0 := hS
 obtain ⟨bs, hn, hs, b1, b2, e, hrow, h2⟩ := hS.own
 obtain ⟨gb, hgb⟩ : ∃ gb, b1 = [gb] := by
  obtain ⟨cells, q1, q2, rfl⟩ := hrow
  rcases q2.2 with ⟨rfl, h⟩ | ⟨g, cap, cur, rfl, _⟩
  ·omega
  ·exact ⟨g, Z⟩
 subst hgb
 have hgs : s gb = none := hs gb (by rw [e]; simp)
 obtain ⟨ob, hob⟩ : ∃ o, s bv = some o := by
  cases h : s bv with
  | none => exact absurd h hbv
  | some o => exact ⟨o, rfl⟩
 have hbl := (Array.getElem?_eq_some_iff.1 (hS.stay _ _ hob)).1
 have hne : bv ≠ gb := by rintro rfl; exact hbv hgs
 have hgl : gb < w.heap.size := (Res.arr (U .i64) 3 v xs).lt hrow gb (by simp)
 refine (calls_of_every_depth (L := [45, 72, 102]) (n := 3) fun D => QpM (Fence.list [45, 72, 102] (some D)) 3 (by simp [Fence.list]) (by simp [Fence.list]) (by simp [Fence.list]) Z (Nat.le_refl _) hbl hne hreach hS.stay hgs hgl a1 (QcD hrow) hc ho1 ho2 hrun hend).mono ?_
 rintro e W ⟨rfl, h⟩
 refine ⟨Z, hS0.turn h.os h.tape h.output h.drawn (by have := h.size; omega) ?_⟩
 intro c1 hc1
 have hc : c1 = [gb] := by
  obtain ⟨_, _, _, e1⟩ := hc1
  obtain ⟨_, _, _, e2⟩ := hrow
  rw [e1, e2]
 subst hc
 exact ⟨[gb], QcD h.row, by simp, fun b hb => .inl hb, fun b hb hnb => h.old b hb (by simpa using hnb)⟩
end Go.Pw
/- -/
namespace Go.Pw
open Go.Proofs Go.RowKit Go.Shelf Go.Sort
attribute [local go_sem] Oper.semAt_some
set_option maxRecDepth 100000 in
set_option maxHeartbeats 2000000 in
theorem QmC (F : Fence) (n : Nat) (h8 : F.fn 102) (hro : F.round = none) (l Bs cap : Nat) (a : Option Addr) (W : World) (hBs : W.cell? ⟨Bs, 0, none⟩ = some (.slice a 0 cap)) :
  CallsIn F n Tryz.prog 102 #[.func (.yield l) #[] #[], .pointer (some ⟨Bs, 0, none⟩)] W fun e W' => (∃ v, e = .returned v) ∧ W' = W := by
 refine callsIn_of_wp Tryz.func102 Z h8 ?_ hro
 simp only [Tryz.ntmps102, List.size_toArray, List.length_cons, List.length_nil, Nat.reduceAdd, Nat.reduceSub, Array.replicate_succ, Array.replicate_zero, List.push_toArray, List.append_toArray, List.nil_append, List.cons_append]
 gi_wp2
 gi_loopw [3] (fun i wr => i = .int .i64 (-1) ∧ wr = W) (fun _ _ => 0)
 case atStart => exact ⟨by simp, rfl⟩
 case round =>
  obtain ⟨rfl, rfl⟩ := hrel
  gi_wp2
  go_end0
  exact ⟨⟨_, Z⟩, Z⟩
set_option maxRecDepth 100000 in
set_option maxHeartbeats 4000000 in
theorem Qlg (F : Fence) (n : Nat) (h0 : F.fn 45) (h3 : F.fn 72) (h5 : F.fn 102) (hro : F.round = none) (hn : 3 ≤ n) {v1 v2 v3 v4 : Value} {a av : Option Addr} {cap nv cvv : Nat} {m : Int} {w : World} :
  CallsIn F n Tryz.prog 45 #[.agg #[v1, v2, v3, v4], .slice a 0 cap, .slice av nv cvv, .int .i64 m] w fun e W' => e = .returned (.tuple #[]) ∧ Below w.heap.size w W' ∧ w.drawn ≤ W'.drawn := by
 have h1 : 1 ≤ n := by omega
 refine callsIn_of_wp_marks Tryz.func45 Z h0 ?_ hro
 simp only [Tryz.ntmps45, List.size_toArray, List.length_cons, List.length_nil, Nat.reduceAdd, Nat.reduceSub, Array.replicate_succ, Array.replicate_zero, List.push_toArray, List.append_toArray, List.nil_append, List.cons_append]
 gi_wp2_with (gi_at_call 72; refine (QlT F (n - 1) h3 hro _ _ _ _).mono ?_; rintro e w' ⟨rfl, rfl⟩)
 refine Qgk hro h1 (gf := 102) (lb := #[.pointer (some ⟨w.heap.size + 1 + 1 + 1, 0, none⟩)]) Z h5 (enters_of Tryz.func102 (by kernel_rfl) Z)
  (encs := fun x : Nat × Int => #[Value.int .i64 (x.1 : Int), Value.int .i64 x.2]) (fun _ => rfl)
  (fun pre W => Below w.heap.size w W ∧ w.drawn ≤ W.drawn ∧ W.heap[w.heap.size + 1 + 1 + 1]? = some (.cells #[.slice a 0 cap] 22 (0, 0)))
  ?start ?put [] ?iter
  (fun x => { tmps := #[.agg #[v1, v2, v3, v4], .slice a 0 cap, .slice av nv cvv, Value.int IntKind.i64 m,
     Value.pointer (some { block := w.heap.size, off := 0 }), undef,
     Value.pointer (some { block := w.heap.size + 1, off := 0 }),
     Value.pointer (some { block := w.heap.size + 1 + 1, off := 0 }), undef, .int .i64 x.2, Value.slice a 0 cap,
     Value.func (Fn.func 102) #[] #[Value.pointer (some { block := w.heap.size + 1 + 1 + 1, off := 0 })], .int .i64 (x.1 : Int), .int .i64 x.2,
     undef, undef, undef, undef, undef, undef, undef, undef, undef, undef, undef, undef, undef, undef, undef,
     undef, undef], defers := [] }) ?assign ?body ?done
 case start =>
  intro o o'
  refine ⟨?_, Nat.le_refl _, ?_⟩
  ·exact ((((((Below.refl _ w).alloc (Nat.le_refl _) _).alloc (by simp) _).alloc (by simp; omega) _).alloc (by simp; omega) _).alloc (by simp; omega) _).alloc (by simp; omega) _
  ·have := World.alloc_heap_new (((w.alloc (Obj.cells #[v1, v2, v3, v4] 26)).alloc (Obj.cells #[Value.slice av nv cvv] 22)).alloc (Obj.cells #[Value.int IntKind.i64 m] 3)) (Obj.cells #[Value.slice a 0 cap] 22)
   rw [World.size_alloc, World.size_alloc, World.size_alloc] at this
   exact (Below.heap_alloc _ _ _ (by simp only [World.size_alloc]; omega)).trans ((Below.heap_alloc _ _ _ (by simp only [World.size_alloc]; omega)).trans this)
 case put =>
  rintro pre W o ⟨g1, g2, g3⟩
  exact ⟨⟨g1.os, g1.tape, g1.output, Nat.le_trans g1.size (by simp [World.putObj]), fun b hb => (World.putObj_heap_other (by simp; omega)).trans (g1.block b hb)⟩, g2, (World.putObj_heap_other (by simp)).trans g3⟩
 case iter =>
  intro l J W hJI hY h0
  refine (QmC F (n - 1) h5 hro l (w.heap.size + 1 + 1 + 1) cap a W (by simp [World.cell?, (hJI _ _ h0).2.2])).mono ?_
  rintro e W2 ⟨he, rfl⟩
  exact ⟨he, h0⟩
 case assign =>
  intro l x W K hK
  gi_wp2
  exact hK
 case body =>
  rintro l pre x W _ hpre
  simp at hpre
 case done =>
  rintro W ⟨g1, g2, g3⟩ hK
  have hD : w.heap.size ≤ ((((w.alloc (Obj.cells #[v1, v2, v3, v4] 26)).alloc (Obj.cells #[Value.slice av nv cvv] 22)).alloc (Obj.cells #[Value.int IntKind.i64 m] 3)).alloc (Obj.cells #[Value.slice a 0 cap] 22)).heap.size := by simp; omega
  generalize ((((w.alloc (Obj.cells #[v1, v2, v3, v4] 26)).alloc (Obj.cells #[Value.slice av nv cvv] 22)).alloc (Obj.cells #[Value.int IntKind.i64 m] 3)).alloc (Obj.cells #[Value.slice a 0 cap] 22)).heap.size = D at hK hD ⊢
  gi_wp2
  refine ⟨by simp, .inl ⟨_, _, Z, run_takeDeferred hK, ?_⟩⟩
  exact ⟨_, results_none Z _ _ _, Z, ⟨g1.os, g1.tape, g1.output, Nat.le_trans g1.size (by simp [World.putObj]), fun b hb => (World.putObj_heap_other (by omega)).trans (g1.block b hb)⟩, g2⟩
end Go.Pw
/- -/
namespace Go.Pw
def Qov (tv zs : List Int) (i : Nat) (st : List Int × Int) : Option (List Int × Int) := (Q9 zs ((zs.length - 1 - i : Nat) : Int)).bind fun v => QjQ tv v st
theorem Qmt {tv zs : List Int} {i : Nat} (hi : i < zs.length) (st : List Int × Int) : Qov tv zs i st = QjQ tv (Qbf zs i).2 st := by
 unfold Qov Qbf
 have : Q9 zs ((zs.length - 1 - i : Nat) : Int) = some (zs[zs.length - 1 - i]?.getD 0) := by
  unfold Q9
  rw [if_pos (by omega), Int.toNat_natCast]
  have h : zs.length - 1 - i < zs.length := by omega
  simp [h]
 rw [this]
 rfl
theorem Qkq {tv zs : List Int} : ∀ (k i : Nat), i + k ≤ zs.length → ∀ st, forS (Qov tv zs) k i st = Qdm tv ((List.range' i k).map (Qbf zs)) st
 | 0, _, _, st => rfl
 | k + 1, i, h, st => by
  rw [List.range'_succ, List.map_cons]
  simp only [forS, Qdm]
  rw [Qmt (by omega)]
  congr 1
  funext st'
  exact Qkq k (i + 1) (by omega) st'
theorem Qm2 {tv zs : List Int} (st : List Int × Int) : forS (Qov tv zs) zs.length 0 st = Qdm tv (QaK (Qbf zs) zs.length) st := by
 rw [Qkq zs.length 0 (by omega)]
 unfold QaK
 rw [List.range_eq_range']
theorem Qkj {tv : List Int} : ∀ {l k : List (Nat × Int)} {st r : List Int × Int}, l <+: k → Qdm tv k st = some r → ∃ q, Qdm tv l st = some q
 | [], _, st, _, _, _ => ⟨st, rfl⟩
 | x :: l, k, st, r, ⟨t, ht⟩, h => by
  subst ht
  simp only [List.cons_append, Qdm] at h ⊢
  cases hb : QjQ tv x.2 st with
  | none => rw [hb] at h; cases h
  | some st' =>
   rw [hb] at h
   exact Qkj (l := l) (k := l ++ t) ⟨t, Z⟩ h
end Go.Pw
