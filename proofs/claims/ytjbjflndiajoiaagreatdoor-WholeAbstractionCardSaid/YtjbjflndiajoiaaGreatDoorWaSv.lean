/- -/
import Derived.Test.YtjbjflndiajoiaaGreatDoorWa0
import Derived.Test.YtjbjflndiajoiaaGreatDoorWaC
import Derived.Test.YtjbjflndiajoiaaGreatDoorWsSc
import Derived.Test.YtjbjflndiajoiaaGreatDoorLF
import Derived.Sort.EveryDepth
set_option linter.unusedSimpArgs false
set_option linter.unusedVariables false
namespace Go.Pw
open Go.Proofs Go.RowKit Go.Shelf Go.Sort
theorem Qlb {w0 w : World} {s : PHeap} {H : List Res} {v : Value} {xs : List Int} (hS : St w0 s H w) (h : SliceRep (U .i64) s v xs) :
  Calls Tryz.prog 23 #[v] w fun e w' => ∃ u, e = .returned u ∧ ∃ s' b, PHeap.le s s' ∧ St w0 s' H w' ∧ u = .func (.func 53) #[] #[.pointer (some ⟨b, 0, none⟩)] ∧ At s' b 0 (Qm (U .i64)) xs := by
 have h1 : v.cells = [v].toArray := Qz h.one
 refine Qd Tryz.func23 Z Z ?_
 refine Zc ?_
 refine Zd ?_
 refine Za Z Z (Exec.box (cs := [v]) hS Z Z h1 ?_)
 intro b w1 hS1
 refine Za Z Z (Zo (v := .nilFunc) Z Z ?_)
 refine Zb (Ze ?_)
 refine Zc ?_
 refine Zd ?_
 refine Za Z Z (Exec.makeFunc (vs := [.pointer (some ⟨b, 0, none⟩)]) Z Z ?_)
 refine Za Z Z (Zo (v := .func (.func 53) #[] #[.pointer (some ⟨b, 0, none⟩)]) Z Z ?_)
 refine Zb (Ze ?_)
 obtain ⟨t, hle, hS2, hat⟩ := hS1.freezeVar (E := Qm (U .i64)) (y := xs) ⟨v, rfl, h⟩
 exact Qhh ⟨_, KR Z, t, b, hle, hS2, Z, hat⟩
theorem QkE {w0 w : World} {s : PHeap} {H : List Res} {b bo : Nat} {xs r : List Int} (hm : QdK xs = some r) (hS : St w0 s H w) (h : At s b bo (Qm (U .i64)) xs) :
  Calls Tryz.prog 51 #[.func (.func 53) #[] #[.pointer (some ⟨b, bo, none⟩)]] w fun e w' => ∃ u, e = .returned u ∧ ∃ s' v, PHeap.le s s' ∧ St w0 s' (Res.arr (U .i64) 3 v r :: H) w' ∧ u = v := by
 unfold QdK at hm
 split at hm
 ·rename_i hreach
  have hr := Zu hm
  subst hr
  obtain ⟨c, T, fz, hb, v, hv, hrep⟩ := h
  have hbl := (Array.getElem?_eq_some_iff.1 (hS.stay _ _ hb)).1
  have hcell : w.cell? ⟨b, bo, none⟩ = some v := by
   have h0 : c.toList[bo]? = some v := by
    have := congrArg (fun l => l[0]?) hv
    simpa [Qm] using this
   simp [World.cell?, hS.stay _ _ hb]
   simpa using h0
  obtain ⟨av, cap, rfl, hc⟩ : ∃ av cap, v = .slice av xs.length cap ∧ ∀ j, j < xs.length → ∃ b off, av = some ⟨b, off, none⟩ ∧ b < w.heap.size ∧ w.cell? ⟨b, off + j, none⟩ = some (.int .i64 (xs[j]?.getD 0)) := by
   rcases hrep with ⟨rfl, rfl⟩ | ⟨a, cap, rfl, rfl⟩ | ⟨b', off, cap, c', T', fz', cells, rfl, h1, h2, h3, h4, h5⟩
   ·exact ⟨none, 0, Z, by simp⟩
   ·exact ⟨some a, cap, Z, by simp⟩
   ·refine ⟨some ⟨b', off, none⟩, cap, Z, fun j hj => ⟨b', off, Z, (Array.getElem?_eq_some_iff.1 (hS.stay _ _ h3)).1, ?_⟩⟩
    have hflat := Qfx (enc := fun x => [Value.int .i64 x]) (fun _ _ _ => Iff.rfl) h5
    have hl : cells.length = xs.length := by have h6 := h5.len; simpa [U, K1] using h6
    rw [Qcw hS h3]
    have e1 : cells[j]? = some (.int .i64 (xs[j]?.getD 0)) := by
     rw [hflat]
     have hf : ∀ l : List Int, (l.map fun x => [Value.int .i64 x]).flatten = l.map (Value.int .i64) := by
      intro l; induction l with
      | nil => rfl
      | cons a l ih => simp [ih]
     rw [hf]
     simp [hj]
    rw [← h4, List.getElem?_take, if_pos (by rw [hl]; exact hj), List.getElem?_drop] at e1
    simpa using e1
  refine (calls_of_every_depth (L := [51, 78, 53]) (n := 4) fun D => Qlq (Fence.list [51, 78, 53] (some D)) 4 (by simp [Fence.list]) (by simp [Fence.list]) (by simp [Fence.list]) Z (Nat.le_refl _) hreach hbl hcell hc).mono ?_
  rintro e W ⟨u, rfl, hW⟩
  have hall : QaK (fun j => xs[j]?.getD 0) xs.length = xs := by
   apply List.ext_getElem
   ·simp [QaK]
   ·intro i h1 h2
    simp [QaK, h2]
  rw [hall] at hW
  refine ⟨_, Z, s, u, Zv _, ?_, Z⟩
  refine (hS.nilArr (U .i64) 3).turn hW.st.os hW.st.tape hW.st.output hW.st.drawn (by have := hW.size; omega) ?_
  intro c1 hc1
  obtain ⟨bs, hn, hs, b1, b2, rfl, hrow, hbx⟩ := hW.st.own
  have hc1 : c1 = [] := by
   obtain ⟨_, _, _, e1⟩ := hc1
   rw [e1]; rfl
  subst hc1
  have hrow2 := hrow
  obtain ⟨cells, q1, q2, rfl⟩ := hrow
  refine ⟨_, QcD hrow2, (List.nodup_append.1 hn).1, fun g hg => .inr ?_, fun b hb _ => hW.old hb⟩
  have hg' : u.ownBlock = some g := by
   revert hg; cases u.ownBlock <;> simp
   exact fun h => h.symm
  have := hW.far g hg'
  omega
 ·cases hm
end Go.Pw
