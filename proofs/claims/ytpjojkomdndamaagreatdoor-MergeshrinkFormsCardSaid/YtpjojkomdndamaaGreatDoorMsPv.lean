/- -/
import Derived.Test.YtpjojkomdndamaaGreatDoorMsPz
import Derived.Sort.EveryDepth
set_option linter.unusedSimpArgs false
set_option linter.unusedVariables false
namespace Go.Pw
open Go.Proofs Go.RowKit Go.Shelf Go.Sort
theorem Ql8 {w0 w : World} {s : PHeap} {H : List Res} {v v1 v2 v3 v4 : Value} {bv ov cv : Nat} {tv zs xs r : List Int} {m m2 y : Int} (hS : St w0 s (Res.arr (Qa .i64) 3 v xs :: H) w) (hx : 0 < xs.length) (hbv : s bv ≠ none) (hreach : zs.length ≤ 17592186044415)
  (a1 : SliceRep (Qa .i64) s v1 tv) (hc : ∀ j, j < zs.length → w.cell? ⟨bv, ov + j, none⟩ = some (.int .i64 (zs[j]?.getD 0))) (ho1 : v.oneCell' = true) (ho2 : v1.oneCell' = true)
  (hrun : ∀ pre x, pre ++ [x] <+: Qai (Qav zs) zs.length → ∃ st, Qcm tv (pre ++ [x]) (xs, m) = some st) (hend : Qcm tv (Qai (Qav zs) zs.length) (xs, m) = some (r, m2)) :
  Calls Tryz.prog 79 #[.agg #[v1, v2, v3, v4], .slice (some ⟨bv, ov, none⟩) zs.length cv, v, .int .i64 m] w fun e w' => e = .returned (.tuple #[]) ∧ St w0 s (Res.arr (Qa .i64) 3 v r :: H) w' := by
 have hS0 := hS
 obtain ⟨bs, hn, hs, b1, b2, e, hrow, h2⟩ := hS.own
 obtain ⟨gb, hgb⟩ : ∃ gb, b1 = [gb] := by
  obtain ⟨cells, q1, q2, rfl⟩ := hrow
  rcases q2.2 with ⟨rfl, h⟩ | ⟨g, cap, cur, rfl, _⟩
  ·omega
  ·exact ⟨g, Z⟩
 subst hgb
 have hgs : s gb = none := hs gb (by rw [e]; simp)
 obtain ⟨ob, hob⟩ : ∃ o, s bv = some o := by
  cases h : s bv with
  | none => exact absurd h hbv
  | some o => exact ⟨o, rfl⟩
 have hbl := (Array.getElem?_eq_some_iff.1 (hS.stay _ _ hob)).1
 have hne : bv ≠ gb := by rintro rfl; exact hbv hgs
 have hgl : gb < w.heap.size := (Res.arr (Qa .i64) 3 v xs).lt hrow gb (by simp)
 refine (calls_of_every_depth (L := [79, 105, 129]) (n := 3) fun D => Qnz (Fence.list [79, 105, 129] (some D)) 3 (by simp [Fence.list]) (by simp [Fence.list]) (by simp [Fence.list]) Z (Nat.le_refl _) hbl hne hreach hS.stay hgs hgl a1 (QbG hrow) hc ho1 ho2 hrun hend).mono ?_
 rintro e W ⟨rfl, h⟩
 refine ⟨Z, hS0.turn h.os h.tape h.output h.drawn (by have := h.size; omega) ?_⟩
 intro c1 hc1
 have hc : c1 = [gb] := by
  obtain ⟨_, _, _, e1⟩ := hc1
  obtain ⟨_, _, _, e2⟩ := hrow
  rw [e1, e2]
 subst hc
 exact ⟨[gb], QbG h.row, by simp, fun b hb => .inl hb, fun b hb hnb => h.old b hb (by simpa using hnb)⟩
end Go.Pw
