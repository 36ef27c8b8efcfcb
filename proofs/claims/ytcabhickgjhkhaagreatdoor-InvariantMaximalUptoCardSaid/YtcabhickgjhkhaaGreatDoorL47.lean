/-
  My walk's base, part 47: the tables of strconv.Itoa and strconv.Quote, in what stays.
-/
import Derived.Test.YtcabhickgjhkhaaGreatDoorL22
import Derived.Shelf.Unicode.DecodeSlow
import Derived.Lib.Quote
import Derived.Lib.PrintData
set_option linter.unusedSimpArgs false
set_option linter.unusedVariables false
namespace Go.Pw
open Go.Proofs
theorem cell_kept {W w0 w : World} {s : PHeap} {H : List Res} (hle : PHeap.le (σH W) s) (hS : St w0 s H w) {b i : Nat} {v : Value} (h : W.cell? ⟨b, i, none⟩ = some v) : w.cell? ⟨b, i, none⟩ = some v := by
  have hb := hS.stay b
  have hl := hle b
  unfold World.cell? at h ⊢
  simp only [σH] at hl hb
  cases hw : W.heap[b]? with
  | none => rw [hw] at h; simp at h
  | some o =>
    rw [hb _ (hl _ hw)]
    rw [hw] at h
    exact h
theorem tabSlice_kept {W w0 w : World} {s : PHeap} {H : List Res} (hle : PHeap.le (σH W) s) (hS : St w0 s H w) {g : Nat} {k : IntKind} {t : List Nat} (h : Lib.TabSlice g k t W) : Lib.TabSlice g k t w := by
  obtain ⟨R, o, c, h1, h2⟩ := h
  exact ⟨R, o, c, cell_kept hle hS h1, fun j hj => cell_kept hle hS (h2 j hj)⟩
structure QTab (g20 g21 g22 g23 g3 g4 : Nat) (W : World) : Prop where
  print : Lib.PrintTabsAt g20 g21 g22 g23 Lib.goPrintTabs W
  utf : Lib.Utf8Tabs g3 g4 W
theorem QTab.kept {g20 g21 g22 g23 g3 g4 : Nat} {W w0 w : World} {s : PHeap} {H : List Res} (h : QTab g20 g21 g22 g23 g3 g4 W) (hle : PHeap.le (σH W) s) (hS : St w0 s H w) : QTab g20 g21 g22 g23 g3 g4 w := by
  obtain ⟨⟨h1, h2, h3, h4, h5⟩, h6, h7⟩ := h
  exact ⟨⟨tabSlice_kept hle hS h1, tabSlice_kept hle hS h2, tabSlice_kept hle hS h3, tabSlice_kept hle hS h4, h5⟩, fun c hc => cell_kept hle hS (h6 c hc), fun i hi => ⟨cell_kept hle hS (h7 i hi).1, cell_kept hle hS (h7 i hi).2⟩⟩
/-- Both: the powers of ten, and what Quote asks for (blocks 5 to 8, 3 and 4). -/
def TabQ (P : Program) (s : PHeap) : Prop := TabS P s ∧ ∃ W : World, PHeap.le (σH W) s ∧ QTab 5 6 7 8 3 4 W
theorem TabQ.mono {P : Program} {s t : PHeap} (h : TabQ P s) (l : PHeap.le s t) : TabQ P t := let ⟨h1, W, h2, h3⟩ := h; ⟨h1.mono l, W, h2.trans l, h3⟩
theorem TabQ.here {P : Program} {s : PHeap} {w0 w : World} {H : List Res} (h : TabQ P s) (hS : St w0 s H w) : QTab 5 6 7 8 3 4 w := let ⟨_, W, h2, h3⟩ := h; h3.kept h2 hS
theorem TabQ.start {P : Program} {W : World} (h : Lib.TabIs P W "internal/strconv.uint64pow10" .u64 Lib.pow10Tab) (hq : QTab 5 6 7 8 3 4 W) : TabQ P (σH W) := ⟨TabS.start h, W, Zv _, hq⟩
end Go.Pw
