/- -/
import Derived.Test.YteiainhbhaodoaaGreatL8
namespace Go.Pw
section
variable {P : Program} {ρ : Operand → Value} {o : Oper} {w w0 : World} {K : Value → World → Prop} {T : TypeId} {s : PHeap} {H : List Res}
theorem SliceRep.cut {α : Type} {E : Enc α} {a : Option Addr} {n cap : Nat} {xs : List α} (h : SliceRep E s (.slice a n cap) xs) {l r : Nat} (hl : l ≤ r) (hr : r ≤ xs.length) :
  SliceRep E s (.slice (if cap = l then a else a.map (·.add (l * E.sz))) (r - l) (cap - l)) ((xs.take r).drop l) := by
 rcases h with ⟨hv, rfl⟩ | ⟨a', cap', hv, rfl⟩ | ⟨b, off, cap', c, Te, fz, cells, hv, h1, h2, h3, h4, h5⟩
 ·cases hv
  have : l = 0 := by simp at hr; omega
  subst this
  have : r = 0 := by simpa using hr
  subst this
  exact .inl ⟨by simp, by simp⟩
 ·cases hv
  have : r = 0 := by simpa using hr
  subst this
  have : l = 0 := by omega
  subst this
  refine .inr (.inl ?_)
  by_cases hc : cap = 0
  ·exact ⟨a', _, by rw [if_pos hc, Nat.sub_self], by simp⟩
  ·exact ⟨a'.add (0 * E.sz), _, by rw [if_neg hc]; rfl, by simp⟩
 ·cases hv
  have hlen : ((xs.take r).drop l).length = r - l := by simp; omega
  by_cases hrl : r = l
  ·subst hrl
   have e : (xs.take r).drop r = [] := List.eq_nil_of_length_eq_zero (by rw [hlen]; omega)
   rw [e, Nat.sub_self]
   refine .inr (.inl ?_)
   by_cases hc : cap = r
   ·exact ⟨_, _, by rw [if_pos hc], Z⟩
   ·exact ⟨_, _, by rw [if_neg hc]; rfl, Z⟩
  ·have hcap : ¬ cap = l := by omega
   rw [if_neg hcap]
   refine .inr (.inr ⟨b, off + l * E.sz, cap - l, c, Te, fz, ((cells.take (r * E.sz)).drop (l * E.sz)), ?_, by omega, by omega, h3, ?_, ?_⟩)
   ·rw [hlen]; simp [Addr.add_lit]
   ·have hcl := h5.len
    have hle : r * E.sz ≤ cells.length := by rw [hcl]; exact Nat.mul_le_mul_right _ hr
    have hle2 : l * E.sz ≤ r * E.sz := Nat.mul_le_mul_right _ hl
    have : ((cells.take (r * E.sz)).drop (l * E.sz)).length = r * E.sz - l * E.sz := by simp; omega
    rw [this]
    conv => rhs; rw [← h4]
    rw [List.take_take, Nat.min_eq_left hle, List.drop_take, List.drop_drop]
   ·exact (h5.take r).drop l
theorem QdN {k : IntKind} {i : Int} {y : Nat} {c : BoundsCode} (h0 : 0 ≤ i) (h1 : i ≤ (y : Int)) : (Instr.sliceBound (.int k i) y c).run P w = .ok i.toNat w := by
 unfold Instr.sliceBound
 simp only [asIntOf, Sem.run_bind, Sem.run_pure, Result.andThen_ok]
 rw [if_pos ⟨h0, h1⟩]
 rfl
theorem QcT {α : Type} {E : Enc α} {xs ys : List α} {x hi : Operand} {v : Value} {k : IntKind} {r : Int} {e by_ : Nat} (hT : JT P T = some (e, E.sz, by_)) (ho : o.op = .slice T x none (some hi) none) (hx : ρ x = v) (hh : ρ hi = .int k r)
  (h : SliceRep E s v xs) (hy : Go.Pw.cut xs 0 r = some ys) (hk : ∀ u, SliceRep E s u ys → K u w) : Exec P ρ o w K := by
 obtain ⟨_, h0, h1, rfl⟩ := Qjs hy
 obtain ⟨i, hu, hi', hs, _⟩ := J7 hT
 obtain ⟨a, c, rfl⟩ := h.shape
 have hcap : xs.length ≤ c := by
  rcases h with ⟨hv, rfl⟩ | ⟨a', cap', hv, rfl⟩ | ⟨b, off, cap', c', Te, fz, cells, hv, h1, _⟩
  ·simp
  ·simp
  ·cases hv; exact h1
 have hc := h.cut (l := 0) (r := r.toNat) (Nat.zero_le _) (by omega)
 refine .of_run (v := .slice (if c = 0 then a else a.map (·.add (0 * E.sz))) (r.toNat - 0) (c - 0)) ?_ (hk _ (by simpa using hc))
 unfold execOp
 simp only [ho, hx, hh, Option.map_none, Option.map_some, Instr.sliceAt, Instr.slice, Instr.sliceBounds, Sem.run_bind, run_underlying hu, Result.andThen_ok, Sem.run_pure, QdN (P := P) (w := w) (k := k) h0 (show r ≤ (c : Int) by omega)]
 simp [sizeOf, typeInfo, hi', hs]
end
end Go.Pw
