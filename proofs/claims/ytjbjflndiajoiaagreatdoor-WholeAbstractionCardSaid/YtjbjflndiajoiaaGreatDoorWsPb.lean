/- -/
import Derived.RangeFuncBox
import Derived.RangeFuncLeaves
import Derived.Shelf.Abstract
import Derived.WalkKit
import Derived.OwnWalkIn
import Derived.TacticsInMore
import Derived.LoopNIn
import Derived.LoopIn
import Derived.Test.YtjbjflndiajoiaaGreatDoorProg
namespace Go.Pw
open Go.Proofs Go.RowKit Go.Shelf
attribute [local go_sem] Oper.semAt_some
def QaK {α : Type} (f : Nat → α) (k : Nat) : List α := (List.range k).map f
theorem Qdw {α : Type} (f : Nat → α) (k : Nat) : QaK f (k + 1) = QaK f k ++ [f k] := by simp [QaK, List.range_succ]
theorem Qk2 {α : Type} (f : Nat → α) (k : Nat) : (QaK f k).length = k := by simp [QaK]
theorem Qhp {α : Type} (f : Nat → α) {k n : Nat} (h : k ≤ n) : QaK f k <+: QaK f n := by
 refine ⟨((List.range n).drop k).map f, ?_⟩
 unfold QaK
 rw [← List.map_append]
 congr 1
 have : List.range k = (List.range n).take k := by rw [List.take_range, Nat.min_eq_left h]
 rw [this, List.take_append_drop]
def Qbf (zs : List Int) (j : Nat) : Nat × Int := (zs.length - 1 - j, zs[zs.length - 1 - j]?.getD 0)
def KeepT (b B : Nat) (W W' : World) : Prop := ∀ x, (x = b ∨ x = B) → (∃ o : Obj, W.heap[x]? = some o ∧ o.isCells = true) → W'.heap[x]? = W.heap[x]?
set_option maxRecDepth 100000 in
set_option maxHeartbeats 2000000 in
theorem Qol (F : Fence) (n : Nat) (h8 : F.fn 102) (hro : F.round = none) (hn : 1 ≤ n) (l Bs b off cap : Nat) (zs : List Int) (hreach : zs.length ≤ 17592186044415) (J Jx : List (Nat × Int) → World → Prop)
  (hJ : ∀ pre W, J pre W → W.cell? ⟨Bs, 0, none⟩ = some (.slice (some ⟨b, off, none⟩) zs.length cap) ∧ ∀ j, j < zs.length → W.cell? ⟨b, off + j, none⟩ = some (.int .i64 (zs[j]?.getD 0)))
  (hY : ∀ pre x W, J pre W → pre ++ [x] <+: QaK (Qbf zs) zs.length → YieldAt F (n - 1) Tryz.prog l #[.int .i64 (x.1 : Int), .int .i64 x.2] W fun e W' =>
   (e = .returned (.bool true) ∧ J (pre ++ [x]) W') ∨ (e = .returned (.bool false) ∧ Jx (pre ++ [x]) W'))
  (W : World) (h0 : J [] W) :
  CallsIn F n Tryz.prog 102 #[.func (.yield l) #[] #[], .pointer (some ⟨Bs, 0, none⟩)] W fun e W' => (∃ v, e = .returned v) ∧
   ((∃ ys, ys = QaK (Qbf zs) zs.length ∧ J ys W') ∨ (∃ pre, (∃ k, k ≤ zs.length ∧ pre = QaK (Qbf zs) k) ∧ Jx pre W')) := by
 obtain ⟨hBs, hc⟩ := hJ _ _ h0
 refine callsIn_of_wp Tryz.func102 rfl h8 ?_ hro
 simp only [Tryz.ntmps102, List.size_toArray, List.length_cons, List.length_nil, Nat.reduceAdd, Nat.reduceSub, Array.replicate_succ, Array.replicate_zero, List.push_toArray, List.append_toArray, List.nil_append, List.cons_append]
 gi_wp2
 gi_loopw [3] (fun i wr => ∃ k : Nat, k ≤ zs.length ∧ i = .int .i64 ((zs.length : Int) - 1 - k) ∧ J (QaK (Qbf zs) k) wr)
  (fun i _ => (intOf i + 1).toNat)
 case atStart => exact ⟨0, Nat.zero_le _, by simp, h0⟩
 case round =>
  obtain ⟨k, hk, rfl, hJs⟩ := hrel
  obtain ⟨hBs', hc'⟩ := hJ _ _ hJs
  by_cases hlt : k < zs.length
  ·obtain ⟨fn, tmps, assign, body, hy, hR⟩ := hY _ (Qbf zs k) wr hJs (by rw [← Qdw]; exact Qhp _ (by omega))
   have hcx := hc' (zs.length - 1 - k) (by omega)
   have e1 : ((zs.length : Int) - 1 - (k : Int)) = ((zs.length - 1 - k : Nat) : Int) := by omega
   rw [e1]
   have hp : Qbf zs k = (zs.length - 1 - k, zs[zs.length - 1 - k]?.getD 0) := rfl
   rw [← Qdw] at hR
   rw [hp] at hy
   dsimp only at hy
   have e2 : ((zs.length : Int) - 1 - ((k + 1 : Nat) : Int)) = ((zs.length - 1 - k : Nat) : Int) - 1 := by omega
   have hjl : zs.length - 1 - k < zs.length := by omega
   generalize zs.length - 1 - k = j at *
   generalize zs[j]?.getD 0 = y at hcx hy
   clear hc'
   gi_wp2
   refine hR.mono ?_
   rintro e W3 (⟨rfl, hJ3⟩ | ⟨rfl, hJx3⟩)
   ·gi_wp2
    go_roundw
    case rel => exact ⟨k + 1, by omega, by rw [e2], hJ3⟩
    case measure => simp [intOf]
   ·gi_wp2
    refine bodyPost_ret (results_none rfl _ _ _) rfl ?_
    exact ⟨⟨_, rfl⟩, .inr ⟨_, ⟨k + 1, by omega, rfl⟩, hJx3⟩⟩
  ·obtain rfl : k = zs.length := by omega
   have e1 : ((zs.length : Int) - 1 - (zs.length : Int)) = -1 := by omega
   rw [e1]
   gi_wp2
   go_end0
   exact ⟨⟨_, rfl⟩, .inl ⟨_, rfl, hJs⟩⟩
theorem KeepT.trans {b B : Nat} {X Y Z : World} (h : KeepT b B X Y) (k : KeepT b B Y Z) : KeepT b B X Z := fun x hx ⟨o, ho, hc⟩ => (k x hx ⟨o, by rw [h x hx ⟨o, ho, hc⟩]; exact ho, hc⟩).trans (h x hx ⟨o, ho, hc⟩)
theorem KeepT.cell {b B : Nat} {X Y : World} (h : KeepT b B X Y) {x off : Nat} (hx : x = b ∨ x = B) {v : Value} (hv : X.cell? ⟨x, off, none⟩ = some v) : Y.cell? ⟨x, off, none⟩ = some v :=
 (World.cell?_of_block (h x hx (cells_of_cell hv))).trans hv
set_option maxHeartbeats 1000000 in
theorem QlT (F : Fence) (n : Nat) (h6 : F.fn 72) (hro : F.round = none) (a : Option Addr) (len cap : Nat) (w : World) :
  CallsIn F n Tryz.prog 72 #[.slice a len cap] w fun e w' => e = .returned (.func (.func 102) #[] #[.pointer (some ⟨w.heap.size, 0, none⟩)]) ∧ w' = w.alloc (.cells #[.slice a len cap] 22) := by
 refine callsIn_of_wp Tryz.func72 rfl h6 ?_ hro
 simp only [Tryz.ntmps72, List.size_toArray, List.length_cons, List.length_nil, Nat.reduceAdd, Nat.reduceSub, Array.replicate_succ, Array.replicate_zero, List.push_toArray, List.append_toArray, List.nil_append, List.cons_append]
 gi_wp2
 go_ret
 exact ⟨rfl, rfl⟩
end Go.Pw
