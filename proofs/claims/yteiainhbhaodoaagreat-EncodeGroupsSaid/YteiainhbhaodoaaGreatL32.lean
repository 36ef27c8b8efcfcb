/- -/
import Derived.Test.YteiainhbhaodoaaGreatL7
import Derived.Test.YteiainhbhaodoaaGreatL30
set_option linter.unusedVariables false
namespace Go.Pw
open Go.ChangeShapes Go.WideShapes Go.ChangeAt Go.RowKit
def OpensB (N : Nat) (P : Program) (T : TypeId) {α : Type} (E : Enc α) (WF : α → Prop) : Prop :=
 ∀ {H : Type} (enc : TypeId × Value → H) (w : World) (base : Nat) (spare : Nat → Bool) (held : Bool) (fuel : Nat) (cs : List Value) (x : DataW H × List MemPlace), fuel ≤ N →
  DataW.trod enc P w base spare held fuel T cs = some x → ∃ a, E.rep (σH w) cs a ∧ WF a
section
variable {P : Program} {T e : TypeId}
theorem QfI {N : Nat} {α : Type} {E : Enc α} {WF : α → Prop} (h : Opens P T E WF) : OpensB N P T E WF := fun enc w base spare held fuel cs x _ hx => h enc w base spare held fuel cs x hx
theorem OpensB.all {α : Type} {E : Enc α} {WF : α → Prop} (h : ∀ N, OpensB N P T E WF) : Opens P T E WF := fun enc w base spare held fuel cs x hx => h fuel enc w base spare held fuel cs x (Nat.le_refl _) hx
theorem OpensB.zero {α : Type} {E : Enc α} {WF : α → Prop} : OpensB 0 P T E WF := by
 intro H enc w base spare held fuel cs x hN hx
 obtain rfl : fuel = 0 := by omega
 simp [DataW.trod] at hx
theorem OpensB.mono {N M : Nat} {α : Type} {E : Enc α} {WF WF' : α → Prop} (h : OpensB N P T E WF) (hM : M ≤ N) (k : ∀ a, WF a → WF' a) : OpensB M P T E WF' := by
 intro H enc w base spare held fuel cs x hN hx
 obtain ⟨a, h1, h2⟩ := h enc w base spare held fuel cs x (by omega) hx
 exact ⟨a, h1, k a h2⟩
theorem Qf1 {N : Nat} {α : Type} {E E' : Enc α} {WF : α → Prop} (hi : ∀ s cs a, E.rep s cs a ↔ E'.rep s cs a) (h : OpensB N P T E' WF) : OpensB N P T E WF := by
 intro H enc w base spare held fuel cs x hN hx
 obtain ⟨a, h1, h2⟩ := h enc w base spare held fuel cs x hN hx
 exact ⟨a, (hi _ _ _).2 h1, h2⟩
theorem Qi8 {α : Type} {E : Enc α} {WF : α → Prop} (h : ∀ N, OpensB N P T E WF → OpensB (N + 1) P T E WF) : Opens P T E WF := by
 refine OpensB.all fun N => ?_
 induction N with
 | zero => exact OpensB.zero
 | succ N ih => exact h N ih
theorem OpensB.slice {N : Nat} {α : Type} {E : Enc α} {WF : α → Prop} (hT : P.underlying T = some (.slice e)) (hc : P.cellsOf e = E.sz) (h : OpensB N P e E WF) : OpensB (N + 1) P T (Qp E) (fun xs => xs.length ≤ maxLen ∧ ∀ x ∈ xs, WF x) := by
 intro H enc w base spare held fuel cs x hN hx
 rcases DataW.trod_slice hT hx with ⟨rfl, _⟩ | ⟨a, len, cap, elems, rest, n, hfu, rfl, _, _, hlc, hcm, hlen, hel, _⟩
 ·exact ⟨[], ⟨_, Z, .inl ⟨Z, Z⟩⟩, by simp, by simp⟩
 rw [hc] at hel
 by_cases hl0 : len = 0
 ·subst hl0
  exact ⟨[], ⟨_, Z, .inr (.inl ⟨a, cap, Z, Z⟩)⟩, by simp, by simp⟩
 have each : ∀ i, i < len → ∃ cs' y, w.cells? base (a.add (i * E.sz)) E.sz = some cs' ∧ DataW.trod enc P w base spare held n e cs' = some y := by
  intro i hi
  have := hel i hi
  have he : ∃ y, elems[i]? = some y := ⟨elems[i], by simp [hlen, hi]⟩
  obtain ⟨y, hy⟩ := he
  rw [hy] at this
  obtain ⟨cs', h1, h2⟩ := Option.bind_eq_some_iff.1 this
  exact ⟨cs', y, h1, h2⟩
 have hsp : a.spot = none := by
  obtain ⟨cs', y, h1, _⟩ := each 0 (by omega)
  rw [Nat.zero_mul] at h1
  obtain ⟨_, hl, hc⟩ := World.cells?_some h1
  have := hc 0 E.pos
  have hv : ∃ v, cs'[0]? = some v := ⟨cs'[0]'(by have := E.pos; omega), by simp⟩
  obtain ⟨v, hv⟩ := hv
  rw [hv] at this
  have ha : (a.add 0).add 0 = a := by simp [Addr.add]
  rw [ha] at this
  unfold World.cell? at this
  split at this
  ·split at this
   ·cases this
   ·rename_i q; simpa using q
  ·cases this
 obtain ⟨b, off, spot⟩ := a
 simp only at hsp
 subst hsp
 obtain ⟨c, Te, fz, hb⟩ : ∃ c Te fz, w.heap[b]? = some (.cells c Te fz) := by
  obtain ⟨cs', y, h1, _⟩ := each 0 (by omega)
  rw [Addr.add_lit] at h1
  obtain ⟨c, Te, fz, h2, _⟩ := Qc5 rfl h1 E.pos
  exact ⟨c, Te, fz, h2⟩
 obtain ⟨xs, hxl, hxr, hxw⟩ := Qc1 (E := E) (WF := WF) (s := σH w) (l := c.toList) len off (fun i hi => by
  obtain ⟨cs', y, h1, h2⟩ := each i hi
  rw [Addr.add_lit] at h1
  obtain ⟨c', Te', fz', h3, h4⟩ := Qc5 rfl h1 E.pos
  simp only at h3 h4
  rw [hb] at h3
  cases h3
  obtain ⟨x, hx1, hx2⟩ := h enc w base spare held n cs' y (by omega) h2
  rw [h4] at hx1
  exact ⟨x, hx1, hx2⟩)
 subst hxl
 refine ⟨xs, ⟨_, Z, .inr (.inr ⟨b, off, cap, c, Te, fz, _, Z, hlc, hcm, hb, ?_, hxr⟩)⟩, by omega, hxw⟩
 rw [hxr.len]
def FOpensB (N : Nat) (P : Program) (fs : List Field) (off : Nat) {α : Type} (E : Enc α) (WF : α → Prop) : Prop :=
 ∀ {H : Type} (enc : TypeId × Value → H) (w : World) (base : Nat) (spare : Nat → Bool) (held : Bool) (n : Nat) (cs : List Value), n ≤ N →
  (∀ f ∈ fs, ∃ y, DataW.trod enc P w base spare held n f.type ((cs.drop f.offset).take (P.cellsOf f.type)) = some y) → cs.length = off + E.sz → ∃ a, E.rep (σH w) (cs.drop off) a ∧ WF a
theorem FOpensB.one {N : Nat} {α : Type} {E : Enc α} {WF : α → Prop} {f : Field} {off : Nat} (ho : f.offset = off) (hc : P.cellsOf f.type = E.sz) (h : OpensB N P f.type E WF) : FOpensB N P [f] off E WF := by
 intro H enc w base spare held n cs hN hy hl
 obtain ⟨y, hy⟩ := hy f (by simp)
 rw [ho, hc, List.take_of_length_le (by simp; omega)] at hy
 exact h enc w base spare held n _ y hN hy
theorem FOpensB.cons {N : Nat} {α β : Type} {A : Enc α} {B : Enc β} {WA : α → Prop} {WB : β → Prop} {f : Field} {fs : List Field} {off m : Nat} (ho : f.offset = off) (hc : P.cellsOf f.type = A.sz) (h : OpensB N P f.type A WA) (hm : off + A.sz = m) (hs : FOpensB N P fs m B WB) :
  FOpensB N P (f :: fs) off (A.pair B) (fun p => WA p.1 ∧ WB p.2) := by
 intro H enc w base spare held n cs hN hy hl
 subst hm
 obtain ⟨y, hy1⟩ := hy f (by simp)
 rw [ho, hc] at hy1
 obtain ⟨a, ha, hwa⟩ := h enc w base spare held n _ y hN hy1
 obtain ⟨b, hb, hwb⟩ := hs enc w base spare held n cs hN (fun g hg => hy g (by simp [hg])) (by rw [hl]; exact (Nat.add_assoc _ _ _).symm)
 refine ⟨(a, b), ⟨_, _, ?_, ha, hb⟩, hwa, hwb⟩
 rw [← List.drop_drop, List.take_append_drop]
theorem OpensB.struct {N : Nat} {α β : Type} {E : Enc α} {WF : α → Prop} {fs : Array Field} {f : β → α} (g : α → β) (hT : P.underlying T = some (.struct fs)) (hc : P.cellsOf T = E.sz) (hfg : ∀ a, f (g a) = a) (h : FOpensB N P fs.toList 0 E WF) :
  OpensB (N + 1) P T (Enc.iso E f) (fun b => WF (f b)) := by
 intro H enc w base spare held fuel cs x hN hx
 obtain ⟨xs, n, hfu, _, hl, hxl, hf⟩ := DataW.trod_struct hT hx
 obtain ⟨a, h1, h2⟩ := h enc w base spare held n cs (by omega) (fun fd hfd => by
  obtain ⟨i, hi⟩ := List.mem_iff_getElem?.1 hfd
  have hi' : fs[i]? = some fd := by simpa using hi
  have hlt : i < xs.length := by rw [hxl]; exact (Array.getElem?_eq_some_iff.1 hi').1
  exact ⟨xs[i], by rw [hf i fd hi']; simp [hlt]⟩) (by rw [hl, hc, Nat.zero_add])
 refine ⟨g a, ?_, by show WF (f (g a)); rw [hfg]; exact h2⟩
 show E.rep (σH w) cs (f (g a))
 rw [hfg]
 simpa using h1
end
end Go.Pw
