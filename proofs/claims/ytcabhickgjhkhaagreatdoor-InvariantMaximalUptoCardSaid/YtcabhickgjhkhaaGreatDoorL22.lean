/-
  My walk's base, part 23: a table that stays; a row of strings.Builders that the call owns.
-/
import Derived.Test.YtcabhickgjhkhaaGreatDoorLC
import Derived.Test.YtcabhickgjhkhaaGreatDoorL7
import Derived.Shelf.Strconv.Itoa3
set_option linter.unusedSimpArgs false
namespace Go.Pw
open Go.Proofs
/-! ### the table of powers of ten -/
/-- The library's table lies in what stays. -/
def TabS (P : Program) (s : PHeap) : Prop := ∃ g T fz, P.globalNamed "internal/strconv.uint64pow10" = some g ∧ s g = some (.cells (Lib.pow10Tab.map fun z => Value.int .u64 z).toArray T fz)
theorem TabS.mono {P : Program} {s t : PHeap} (h : TabS P s) (l : PHeap.le s t) : TabS P t := let ⟨g, T, fz, h1, h2⟩ := h; ⟨g, T, fz, h1, l _ _ h2⟩
theorem TabS.here {P : Program} {s : PHeap} {w0 w : World} {H : List Res} (h : TabS P s) (hS : St w0 s H w) : Lib.TabIs P w "internal/strconv.uint64pow10" .u64 Lib.pow10Tab := by
  obtain ⟨g, T, fz, h1, h2⟩ := h
  simp [Lib.TabIs, World.var?, h1, hS.stay g _ h2]
theorem TabS.start {P : Program} {W : World} (h : Lib.TabIs P W "internal/strconv.uint64pow10" .u64 Lib.pow10Tab) : TabS P (σH W) := by
  unfold Lib.TabIs World.var? at h
  obtain ⟨g, h1, h2⟩ := Option.bind_eq_some_iff.1 h
  split at h2
  · rename_i cs T fz he
    cases h2
    exact ⟨g, T, fz, h1, he⟩
  · cases h2
section
variable {P : Program} {ρ : Operand → Value} {o : Oper} {w w0 : World} {s : PHeap} {H : List Res} {K : Value → World → Prop} {T e : TypeId}
/-- New blocks behind the heap, and draws. -/
theorem St.grown (hS : St w0 s H w) (k : Nat) (os : Array Obj) : St w0 s H (Sort.grow (w.drewN k) os) := by
  have hb : ∀ b, b < w.heap.size → (Sort.grow (w.drewN k) os).heap[b]? = w.heap[b]? := fun b hb => by
    rw [Sort.heap_grow_old _ _ (by simpa using hb)]; rfl
  refine ⟨hS.os, hS.tape, hS.output, Nat.le_trans hS.drawn (by simp [Sort.grow, World.drewN]), Nat.le_trans hS.size (by simp [Sort.grow, World.drewN]), fun b o hbo => ?_, ?_⟩
  · have := hS.stay b o hbo
    rw [hb b (Array.getElem?_eq_some_iff.1 this).1]
    exact this
  · obtain ⟨bs, hn, hs, h⟩ := hS.own
    exact ⟨bs, hn, hs, h.loc fun b hm => hb b (h.lt b hm)⟩
/-! ### a row of builders -/
variable {g n : Nat} {oss : List (Option (List Int))}
/-! ### pure words -/
/-! ### the operations -/
end
end Go.Pw
