/- -/
import Derived.Test.YtpjojkomdndamaaGreatDoorMsPb
import Derived.Test.YtpjojkomdndamaaGreatDoorL25
import Derived.Test.YtpjojkomdndamaaGreatDoorL23
import Derived.Test.YtpjojkomdndamaaGreatDoorL13
import Derived.Test.YtpjojkomdndamaaGreatDoorL7
set_option linter.unusedSimpArgs false
set_option linter.unusedVariables false
namespace Go.Pw
open Go.Proofs Go.RowKit Go.Shelf
theorem QbG {s t : PHeap} {w : World} {T : TypeId} {v : Value} {xs : List Int} {bs : List Nat} (h : (Res.arr (Qa .i64) T v xs).p s w bs) : (Res.arr (Qa .i64) T v xs).p t w bs := by
 obtain ⟨cells, h1, h2, h3⟩ := h
 have hrep : ∀ (s : PHeap) (cs : List Value) (x : Int), (Qa .i64).rep s cs x ↔ cs = [Value.int .i64 x] := fun s cs x => Iff.rfl
 exact ⟨cells, by rw [Qei (enc := fun x => [Value.int .i64 x]) hrep h1]; exact Qd0 (enc := fun x => [Value.int .i64 x]) hrep xs, h2, h3⟩
structure PutW (w : World) (gb : Nat) (c4 : List Value) (v vs : Value) (xs : List Int) (m : Int) (W : World) : Prop where
 os : W.os = w.os
 tape : W.tape = w.tape
 output : W.output = w.output
 drawn : w.drawn ≤ W.drawn
 size : w.heap.size + 4 ≤ W.heap.size
 b4 : W.heap[w.heap.size]? = some (.cells c4.toArray 26 (0, 0))
 b6 : W.heap[w.heap.size + 1]? = some (.cells #[v] 22 (0, 0))
 b7 : W.heap[w.heap.size + 1 + 1]? = some (.cells #[.int .i64 m] 3 (0, 0))
 b11 : W.heap[w.heap.size + 1 + 1 + 1]? = some (.cells #[vs] 22 (0, 0))
 row : (Res.arr (Qa .i64) 3 v xs).p (fun _ => none) W [gb]
 old : ∀ b, b < w.heap.size → b ≠ gb → W.heap[b]? = w.heap[b]?
 lt : gb < w.heap.size
def Qf9 (w : World) (gb : Nat) (W : World) : PHeap := fun b => if b = w.heap.size + 1 + 1 ∨ b = w.heap.size + 1 ∨ b = w.heap.size ∨ b = gb then none else W.heap[b]?
theorem PutW.st {w W : World} {gb : Nat} {c4 : List Value} {v vs : Value} {xs : List Int} {m : Int} (h : PutW w gb c4 v vs xs m W) :
  St W (Qf9 w gb W) [Res.box (w.heap.size + 1 + 1) 3 [.int .i64 m], Res.box (w.heap.size + 1) 22 [v], Res.box w.heap.size 26 c4, Res.arr (Qa .i64) 3 v xs] W := by
 have hlt := h.lt
 refine ⟨Z, Z, Z, Nat.le_refl _, Nat.le_refl _, fun b o hb => ?_, [w.heap.size + 1 + 1, w.heap.size + 1, w.heap.size, gb], ?_, ?_, [w.heap.size + 1 + 1], [w.heap.size + 1, w.heap.size, gb], Z, ⟨Z, h.b7⟩, [w.heap.size + 1], [w.heap.size, gb], Z, ⟨Z, h.b6⟩, [w.heap.size], [gb], Z, ⟨Z, h.b4⟩, [gb], [], Z, QbG h.row, Z⟩
 ·unfold Qf9 at hb
  split at hb
  ·cases hb
  ·exact hb
 ·simp; omega
 ·intro b hb
  unfold Qf9
  simp only [List.mem_cons, List.not_mem_nil, or_false] at hb
  rw [if_pos hb]
theorem PutW.stays {w0 w W : World} {s : PHeap} {gb : Nat} {c4 : List Value} {v vs : Value} {xs : List Int} {m : Int} (h : PutW w gb c4 v vs xs m W) (hs : ∀ b o, s b = some o → w.heap[b]? = some o) (hg : s gb = none) : PHeap.le s (Qf9 w gb W) := by
 intro b o hb
 have h1 := hs b o hb
 have hlt := (Array.getElem?_eq_some_iff.1 h1).1
 have hne : b ≠ gb := by rintro rfl; rw [hg] at hb; cases hb
 unfold Qf9
 rw [if_neg (by omega), h.old b hlt hne, h1]
theorem PutW.back {w W W2 : World} {gb bv : Nat} {c4 : List Value} {v vs : Value} {xs ys : List Int} {m k : Int} {t : PHeap} (h : PutW w gb c4 v vs xs m W) (hle : PHeap.le (Qf9 w gb W) t) (hgv : bv < w.heap.size) (hne : bv ≠ gb)
  (hS : St W t [Res.box (w.heap.size + 1 + 1) 3 [.int .i64 k], Res.box (w.heap.size + 1) 22 [v], Res.box w.heap.size 26 c4, Res.arr (Qa .i64) 3 v ys] W2) :
  PutW w gb c4 v vs ys k W2 ∧ KeepsFrom (w.heap.size + 1 + 1 + 1 + 1) W W2 ∧ KeepT bv (w.heap.size + 1 + 1 + 1) W W2 := by
 have hlt := h.lt
 have hsz := h.size
 have hkeep : ∀ b o, b ≠ w.heap.size + 1 + 1 → b ≠ w.heap.size + 1 → b ≠ w.heap.size → b ≠ gb → W.heap[b]? = some o → W2.heap[b]? = some o := by
  intro b o h1 h2 h3 h4 hb
  refine hS.stay b o (hle b o ?_)
  unfold Qf9
  rw [if_neg (by simp [h1, h2, h3, h4])]
  exact hb
 have hsome : ∀ b, b < W.heap.size → ∃ o, W.heap[b]? = some o := fun b hb => ⟨W.heap[b], by simp [hb]⟩
 have hS' := hS
 obtain ⟨bs, hn, hs, b1, b2, e1, ⟨rfl, h7⟩, b3, b4, rfl, ⟨rfl, h6⟩, b5, b6, rfl, ⟨rfl, h4⟩, b8, b9, rfl, hrow, rfl⟩ := hS'.own
 have hb8 : b8 = [gb] := by
  obtain ⟨_, _, _, rfl⟩ := hrow
  obtain ⟨_, _, _, e⟩ := h.row
  exact e.symm
 subst hb8
 refine ⟨⟨hS.os.trans h.os, hS.tape.trans h.tape, hS.output.trans h.output, Nat.le_trans h.drawn hS.drawn, Nat.le_trans h.size hS.size, h4, h6, h7, hkeep _ _ (by omega) (by omega) (by omega) (by omega) h.b11, QbG hrow, fun b hb hne => ?_, hlt⟩, ⟨hS.size, fun k o hk ho hc => hkeep k o (by omega) (by omega) (by omega) (by omega) ho⟩, fun x hx ⟨o, ho, _⟩ => ?_⟩
 ·obtain ⟨o, ho⟩ := hsome b (by omega)
  rw [hkeep b o (by omega) (by omega) (by omega) hne ho, ← ho, h.old b hb hne]
 ·rw [ho]
  rcases hx with rfl | rfl
  ·exact hkeep _ _ (by omega) (by omega) (by omega) hne ho
  ·exact hkeep _ _ (by omega) (by omega) (by omega) (by omega) ho
theorem PutW.alloc {w W : World} {gb : Nat} {c4 : List Value} {v vs : Value} {xs : List Int} {m : Int} (h : PutW w gb c4 v vs xs m W) (o : Obj) : PutW w gb c4 v vs xs m (W.alloc o) := by
 have hk : ∀ b, b < W.heap.size → (W.alloc o).heap[b]? = W.heap[b]? := fun b hb => K2 W o hb
 have hsz := h.size
 have hlt := h.lt
 refine ⟨h.os, h.tape, h.output, h.drawn, Nat.le_trans hsz (by simp), (hk _ (by omega)).trans h.b4, (hk _ (by omega)).trans h.b6, (hk _ (by omega)).trans h.b7, (hk _ (by omega)).trans h.b11, (Res.arr _ _ _ _).loc h.row fun b hb => ?_, fun b hb hne => (hk b (by omega)).trans (h.old b hb hne), hlt⟩
 simp only [List.mem_singleton] at hb
 subst hb
 exact hk _ (by omega)
theorem PutW.putObj {w W : World} {gb : Nat} {c4 : List Value} {v vs : Value} {xs : List Int} {m : Int} (h : PutW w gb c4 v vs xs m W) {l : Nat} (o : Obj) (hl : w.heap.size + 4 ≤ l) : PutW w gb c4 v vs xs m (W.putObj l o) := by
 have hk : ∀ b, b < w.heap.size + 4 → (W.putObj l o).heap[b]? = W.heap[b]? := fun b hb => World.putObj_heap_other (by omega)
 have hsz := h.size
 have hlt := h.lt
 refine ⟨h.os, h.tape, h.output, h.drawn, Nat.le_trans hsz (by simp [World.putObj]), (hk _ (by omega)).trans h.b4, (hk _ (by omega)).trans h.b6, (hk _ (by omega)).trans h.b7, (hk _ (by omega)).trans h.b11, (Res.arr _ _ _ _).loc h.row fun b hb => ?_, fun b hb hne => (hk b (by omega)).trans (h.old b hb hne), hlt⟩
 simp only [List.mem_singleton] at hb
 subst hb
 exact hk _ (by omega)
end Go.Pw
