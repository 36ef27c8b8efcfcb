/- -/
import Derived.Test.YtpjojkomdndamaaGreatDoorMsPv
set_option linter.unusedSimpArgs false
set_option linter.unusedVariables false
namespace Go.Pw
open Go.Proofs Go.RowKit Go.Shelf Go.Sort
attribute [local go_sem] Oper.semAt_some
set_option maxRecDepth 100000 in
set_option maxHeartbeats 2000000 in
theorem QkL (F : Fence) (n : Nat) (h8 : F.fn 129) (hro : F.round = none) (l Bs cap : Nat) (a : Option Addr) (W : World) (hBs : W.cell? ⟨Bs, 0, none⟩ = some (.slice a 0 cap)) :
  CallsIn F n Tryz.prog 129 #[.func (.yield l) #[] #[], .pointer (some ⟨Bs, 0, none⟩)] W fun e W' => (∃ v, e = .returned v) ∧ W' = W := by
 refine callsIn_of_wp Tryz.func129 Z h8 ?_ hro
 simp only [Tryz.ntmps129, List.size_toArray, List.length_cons, List.length_nil, Nat.reduceAdd, Nat.reduceSub, Array.replicate_succ, Array.replicate_zero, List.push_toArray, List.append_toArray, List.nil_append, List.cons_append]
 gi_wp2
 gi_loopw [3] (fun i wr => i = .int .i64 (-1) ∧ wr = W) (fun _ _ => 0)
 case atStart => exact ⟨by simp, rfl⟩
 case round =>
  obtain ⟨rfl, rfl⟩ := hrel
  gi_wp2
  go_end0
  exact ⟨⟨_, Z⟩, Z⟩
set_option maxRecDepth 100000 in
set_option maxHeartbeats 4000000 in
theorem Qjy (F : Fence) (n : Nat) (h0 : F.fn 79) (h3 : F.fn 105) (h5 : F.fn 129) (hro : F.round = none) (hn : 3 ≤ n) {v1 v2 v3 v4 : Value} {a av : Option Addr} {cap nv cvv : Nat} {m : Int} {w : World} :
  CallsIn F n Tryz.prog 79 #[.agg #[v1, v2, v3, v4], .slice a 0 cap, .slice av nv cvv, .int .i64 m] w fun e W' => e = .returned (.tuple #[]) ∧ Below w.heap.size w W' ∧ w.drawn ≤ W'.drawn := by
 have h1 : 1 ≤ n := by omega
 refine callsIn_of_wp_marks Tryz.func79 Z h0 ?_ hro
 simp only [Tryz.ntmps79, List.size_toArray, List.length_cons, List.length_nil, Nat.reduceAdd, Nat.reduceSub, Array.replicate_succ, Array.replicate_zero, List.push_toArray, List.append_toArray, List.nil_append, List.cons_append]
 gi_wp2_with (gi_at_call 105; refine (Qkc F (n - 1) h3 hro _ _ _ _).mono ?_; rintro e w' ⟨rfl, rfl⟩)
 refine QeN hro h1 (gf := 129) (lb := #[.pointer (some ⟨w.heap.size + 1 + 1 + 1, 0, none⟩)]) Z h5 (enters_of Tryz.func129 (by kernel_rfl) Z)
  (encs := fun x : Nat × Int => #[Value.int .i64 (x.1 : Int), Value.int .i64 x.2]) (fun _ => rfl)
  (fun pre W => Below w.heap.size w W ∧ w.drawn ≤ W.drawn ∧ W.heap[w.heap.size + 1 + 1 + 1]? = some (.cells #[.slice a 0 cap] 22 (0, 0)))
  ?start ?put [] ?iter
  (fun x => { tmps := #[.agg #[v1, v2, v3, v4], .slice a 0 cap, .slice av nv cvv, Value.int IntKind.i64 m,
     Value.pointer (some { block := w.heap.size, off := 0 }), undef,
     Value.pointer (some { block := w.heap.size + 1, off := 0 }),
     Value.pointer (some { block := w.heap.size + 1 + 1, off := 0 }), undef, .int .i64 x.2, Value.slice a 0 cap,
     Value.func (Fn.func 129) #[] #[Value.pointer (some { block := w.heap.size + 1 + 1 + 1, off := 0 })], .int .i64 (x.1 : Int), .int .i64 x.2,
     undef, undef, undef, undef, undef, undef, undef, undef, undef, undef, undef, undef, undef, undef, undef,
     undef, undef], defers := [] }) ?assign ?body ?done
 case start =>
  intro o o'
  refine ⟨?_, Nat.le_refl _, ?_⟩
  ·exact ((((((Below.refl _ w).alloc (Nat.le_refl _) _).alloc (by simp) _).alloc (by simp; omega) _).alloc (by simp; omega) _).alloc (by simp; omega) _).alloc (by simp; omega) _
  ·have := World.alloc_heap_new (((w.alloc (Obj.cells #[v1, v2, v3, v4] 26)).alloc (Obj.cells #[Value.slice av nv cvv] 22)).alloc (Obj.cells #[Value.int IntKind.i64 m] 3)) (Obj.cells #[Value.slice a 0 cap] 22)
   rw [World.size_alloc, World.size_alloc, World.size_alloc] at this
   exact (Below.heap_alloc _ _ _ (by simp only [World.size_alloc]; omega)).trans ((Below.heap_alloc _ _ _ (by simp only [World.size_alloc]; omega)).trans this)
 case put =>
  rintro pre W o ⟨g1, g2, g3⟩
  exact ⟨⟨g1.os, g1.tape, g1.output, Nat.le_trans g1.size (by simp [World.putObj]), fun b hb => (World.putObj_heap_other (by simp; omega)).trans (g1.block b hb)⟩, g2, (World.putObj_heap_other (by simp)).trans g3⟩
 case iter =>
  intro l J W hJI hY h0
  refine (QkL F (n - 1) h5 hro l (w.heap.size + 1 + 1 + 1) cap a W (by simp [World.cell?, (hJI _ _ h0).2.2])).mono ?_
  rintro e W2 ⟨he, rfl⟩
  exact ⟨he, h0⟩
 case assign =>
  intro l x W K hK
  gi_wp2
  exact hK
 case body =>
  rintro l pre x W _ hpre
  simp at hpre
 case done =>
  rintro W ⟨g1, g2, g3⟩ hK
  have hD : w.heap.size ≤ ((((w.alloc (Obj.cells #[v1, v2, v3, v4] 26)).alloc (Obj.cells #[Value.slice av nv cvv] 22)).alloc (Obj.cells #[Value.int IntKind.i64 m] 3)).alloc (Obj.cells #[Value.slice a 0 cap] 22)).heap.size := by simp; omega
  generalize ((((w.alloc (Obj.cells #[v1, v2, v3, v4] 26)).alloc (Obj.cells #[Value.slice av nv cvv] 22)).alloc (Obj.cells #[Value.int IntKind.i64 m] 3)).alloc (Obj.cells #[Value.slice a 0 cap] 22)).heap.size = D at hK hD ⊢
  gi_wp2
  refine ⟨by simp, .inl ⟨_, _, Z, run_takeDeferred hK, ?_⟩⟩
  exact ⟨_, results_none Z _ _ _, Z, ⟨g1.os, g1.tape, g1.output, Nat.le_trans g1.size (by simp [World.putObj]), fun b hb => (World.putObj_heap_other (by omega)).trans (g1.block b hb)⟩, g2⟩
end Go.Pw
