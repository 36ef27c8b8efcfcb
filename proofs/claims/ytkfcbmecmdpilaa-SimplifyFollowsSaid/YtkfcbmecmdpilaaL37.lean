/-
  My walk's base, part 37: data read in, whose slices have room: what reads as data of a type reads by its encoding.
-/
import Derived.Test.YtkfcbmecmdpilaaL7
import Derived.Test.YtkfcbmecmdpilaaL30
import Derived.Test.YtkfcbmecmdpilaaL28
set_option linter.unusedVariables false
namespace Go.Pw
open Go.ChangeShapes Go.WideShapes Go.ChangeAt Go.RowKit
/-- As Opens, for data read in at most N steps. -/
def OpensW (N : Nat) (P : Program) (T : TypeId) {α : Type} (E : Enc α) (WF : α → Prop) : Prop :=
  ∀ {H : Type} (enc : TypeId × Value → H) (w : World) (base : Nat) (spare : Nat → Bool) (held : Bool) (fuel : Nat) (cs : List Value) (x : DataW H × List MemPlace), fuel ≤ N →
    DataW.trod enc P w base spare held fuel T cs = some x → (x.1.weights P T).all (· ≤ reachBytes) = true → ∃ a, E.rep (σH w) cs a ∧ WF a
theorem weightsAll_get {H : Type} {P : Program} {e : TypeId} {y : DataW H} : ∀ {l : List (DataW H)} {i : Nat}, l[i]? = some y → (DataW.weightsAll P e l).all (· ≤ reachBytes) = true → (y.weights P e).all (· ≤ reachBytes) = true
  | [], i, h, _ => by simp at h
  | d :: l, 0, h, hw => by
    simp only [List.getElem?_cons_zero, Option.some.injEq] at h
    subst h
    simp only [DataW.weightsAll, List.all_append, Bool.and_eq_true] at hw
    exact hw.1
  | d :: l, i + 1, h, hw => by
    simp only [DataW.weightsAll, List.all_append, Bool.and_eq_true] at hw
    exact weightsAll_get (by simpa using h) hw.2
theorem weightsEach_get {H : Type} {P : Program} {t : TypeId} {y : DataW H} : ∀ {ts : List TypeId} {l : List (DataW H)} {i : Nat}, ts[i]? = some t → l[i]? = some y → (DataW.weightsEach P ts l).all (· ≤ reachBytes) = true → (y.weights P t).all (· ≤ reachBytes) = true
  | [], l, i, h, _, _ => by simp at h
  | t' :: ts, [], i, _, h, _ => by simp at h
  | t' :: ts, d :: l, 0, h, k, hw => by
    simp only [List.getElem?_cons_zero, Option.some.injEq] at h k
    subst h k
    simp only [DataW.weightsEach, List.all_append, Bool.and_eq_true] at hw
    exact hw.1
  | t' :: ts, d :: l, i + 1, h, k, hw => by
    simp only [DataW.weightsEach, List.all_append, Bool.and_eq_true] at hw
    exact weightsEach_get (by simpa using h) (by simpa using k) hw.2
section
variable {P : Program} {T e : TypeId}
theorem Opens.toW {N : Nat} {α : Type} {E : Enc α} {WF : α → Prop} (h : Opens P T E WF) : OpensW N P T E WF := fun enc w base spare held fuel cs x _ hx _ => h enc w base spare held fuel cs x hx
theorem OpensW.zero {α : Type} {E : Enc α} {WF : α → Prop} : OpensW 0 P T E WF := by
  intro H enc w base spare held fuel cs x hN hx
  obtain rfl : fuel = 0 := by omega
  simp [DataW.trod] at hx
theorem OpensW.mono {N M : Nat} {α : Type} {E : Enc α} {WF WF' : α → Prop} (h : OpensW N P T E WF) (hM : M ≤ N) (k : ∀ a, WF a → WF' a) : OpensW M P T E WF' := by
  intro H enc w base spare held fuel cs x hN hx hw
  obtain ⟨a, h1, h2⟩ := h enc w base spare held fuel cs x (by omega) hx hw
  exact ⟨a, h1, k a h2⟩
theorem OpensW.of_iff {N : Nat} {α : Type} {E E' : Enc α} {WF : α → Prop} (hi : ∀ s cs a, E.rep s cs a ↔ E'.rep s cs a) (h : OpensW N P T E' WF) : OpensW N P T E WF := by
  intro H enc w base spare held fuel cs x hN hx hw
  obtain ⟨a, h1, h2⟩ := h enc w base spare held fuel cs x hN hx hw
  exact ⟨a, (hi _ _ _).2 h1, h2⟩
/-- A recursive type: by what it says of data read in fewer steps. -/
theorem OpensW.fix {α : Type} {E : Enc α} {WF : α → Prop} (h : ∀ N, OpensW N P T E WF → OpensW (N + 1) P T E WF) : ∀ N, OpensW N P T E WF
  | 0 => OpensW.zero
  | N + 1 => h N (OpensW.fix h N)
theorem OpensW.slice {N : Nat} {α : Type} {E : Enc α} {WF : α → Prop} (hT : P.underlying T = some (.slice e)) (hc : P.cellsOf e = E.sz) {m : Nat} (hm : P.bytesOf e = m) (h : OpensW N P e E WF) : OpensW (N + 1) P T (encSlice E) (fun xs => xs.length ≤ maxLen ∧ xs.length * m ≤ 140737488351232 ∧ ∀ x ∈ xs, WF x) := by
  intro H enc w base spare held fuel cs x hN hx hw
  rcases DataW.trod_slice hT hx with ⟨rfl, _⟩ | ⟨a, len, cap, elems, rest, n, hfu, rfl, rfl, _, hlc, hcm, hlen, hel, _⟩
  · exact ⟨[], ⟨_, rfl, .inl ⟨rfl, rfl⟩⟩, by simp, by simp, by simp⟩
  rw [hc] at hel
  simp only [DataW.weights, hT, List.all_cons, List.all_append, Bool.and_eq_true, decide_eq_true_eq, List.length_map, hm] at hw
  have hrm : len * m ≤ 140737488351232 := by
    have h6 := hw.1
    unfold reachBytes at h6
    have : len * m ≤ (elems.length + rest.length) * m := Nat.mul_le_mul_right _ (by omega)
    omega
  by_cases hl0 : len = 0
  · subst hl0
    exact ⟨[], ⟨_, rfl, .inr (.inl ⟨a, cap, rfl, rfl⟩)⟩, by simp, by simp, by simp⟩
  have each : ∀ i, i < len → ∃ cs' y, w.cells? base (a.add (i * E.sz)) E.sz = some cs' ∧ DataW.trod enc P w base spare held n e cs' = some y ∧ (y.1.weights P e).all (· ≤ reachBytes) = true := by
    intro i hi
    have := hel i hi
    have he : ∃ y, elems[i]? = some y := ⟨elems[i], by simp [hlen, hi]⟩
    obtain ⟨y, hy⟩ := he
    rw [hy] at this
    obtain ⟨cs', h1, h2⟩ := Option.bind_eq_some_iff.1 this
    exact ⟨cs', y, h1, h2, weightsAll_get (i := i) (by rw [List.getElem?_map, hy]; rfl) hw.2.1⟩
  have hsp : a.spot = none := by
    obtain ⟨cs', y, h1, _, _⟩ := each 0 (by omega)
    rw [Nat.zero_mul] at h1
    obtain ⟨_, hl, hc⟩ := World.cells?_some h1
    have := hc 0 E.pos
    have hv : ∃ v, cs'[0]? = some v := ⟨cs'[0]'(by have := E.pos; omega), by simp⟩
    obtain ⟨v, hv⟩ := hv
    rw [hv] at this
    have ha : (a.add 0).add 0 = a := by simp [Addr.add]
    rw [ha] at this
    unfold World.cell? at this
    split at this
    · split at this
      · cases this
      · rename_i q; simpa using q
    · cases this
  obtain ⟨b, off, spot⟩ := a
  simp only at hsp
  subst hsp
  obtain ⟨c, Te, fz, hb⟩ : ∃ c Te fz, w.heap[b]? = some (.cells c Te fz) := by
    obtain ⟨cs', y, h1, _, _⟩ := each 0 (by omega)
    rw [Addr.add_lit] at h1
    obtain ⟨c, Te, fz, h2, _⟩ := cells_row rfl h1 E.pos
    exact ⟨c, Te, fz, h2⟩
  obtain ⟨xs, hxl, hxr, hxw⟩ := reps_rows (E := E) (WF := WF) (s := σH w) (l := c.toList) len off (fun i hi => by
    obtain ⟨cs', y, h1, h2, hwy⟩ := each i hi
    rw [Addr.add_lit] at h1
    obtain ⟨c', Te', fz', h3, h4⟩ := cells_row rfl h1 E.pos
    simp only at h3 h4
    rw [hb] at h3
    cases h3
    obtain ⟨x, hx1, hx2⟩ := h enc w base spare held n cs' y (by omega) h2 hwy
    rw [h4] at hx1
    exact ⟨x, hx1, hx2⟩)
  subst hxl
  refine ⟨xs, ⟨_, rfl, .inr (.inr ⟨b, off, cap, c, Te, fz, _, rfl, hlc, hcm, hb, ?_, hxr⟩)⟩, by omega, hrm, hxw⟩
  rw [hxr.len]
/-- The fields of a struct, from the off-th cell on. -/
def FOpensW (N : Nat) (P : Program) (fs : List Field) (off : Nat) {α : Type} (E : Enc α) (WF : α → Prop) : Prop :=
  ∀ {H : Type} (enc : TypeId × Value → H) (w : World) (base : Nat) (spare : Nat → Bool) (held : Bool) (n : Nat) (cs : List Value), n ≤ N →
    (∀ f ∈ fs, ∃ y, DataW.trod enc P w base spare held n f.type ((cs.drop f.offset).take (P.cellsOf f.type)) = some y ∧ (y.1.weights P f.type).all (· ≤ reachBytes) = true) → cs.length = off + E.sz → ∃ a, E.rep (σH w) (cs.drop off) a ∧ WF a
theorem FOpensW.one {N : Nat} {α : Type} {E : Enc α} {WF : α → Prop} {f : Field} {off : Nat} (ho : f.offset = off) (hc : P.cellsOf f.type = E.sz) (h : OpensW N P f.type E WF) : FOpensW N P [f] off E WF := by
  intro H enc w base spare held n cs hN hy hl
  obtain ⟨y, hy, hwy⟩ := hy f (by simp)
  rw [ho, hc, List.take_of_length_le (by simp; omega)] at hy
  exact h enc w base spare held n _ y hN hy hwy
theorem FOpensW.cons {N : Nat} {α β : Type} {A : Enc α} {B : Enc β} {WA : α → Prop} {WB : β → Prop} {f : Field} {fs : List Field} {off m : Nat} (ho : f.offset = off) (hc : P.cellsOf f.type = A.sz) (h : OpensW N P f.type A WA) (hm : off + A.sz = m) (hs : FOpensW N P fs m B WB) :
    FOpensW N P (f :: fs) off (A.pair B) (fun p => WA p.1 ∧ WB p.2) := by
  intro H enc w base spare held n cs hN hy hl
  subst hm
  obtain ⟨y, hy1, hwy⟩ := hy f (by simp)
  rw [ho, hc] at hy1
  obtain ⟨a, ha, hwa⟩ := h enc w base spare held n _ y hN hy1 hwy
  obtain ⟨b, hb, hwb⟩ := hs enc w base spare held n cs hN (fun g hg => hy g (by simp [hg])) (by rw [hl]; exact (Nat.add_assoc _ _ _).symm)
  refine ⟨(a, b), ⟨_, _, ?_, ha, hb⟩, hwa, hwb⟩
  rw [← List.drop_drop, List.take_append_drop]
theorem OpensW.struct {N : Nat} {α β : Type} {E : Enc α} {WF : α → Prop} {fs : Array Field} {f : β → α} (g : α → β) (hT : P.underlying T = some (.struct fs)) (hc : P.cellsOf T = E.sz) (hfg : ∀ a, f (g a) = a) (h : FOpensW N P fs.toList 0 E WF) :
    OpensW (N + 1) P T (Enc.iso E f) (fun b => WF (f b)) := by
  intro H enc w base spare held fuel cs x hN hx hw
  obtain ⟨xs, n, hfu, rfl, hl, hxl, hf⟩ := DataW.trod_struct hT hx
  simp only [DataW.weights, hT] at hw
  obtain ⟨a, h1, h2⟩ := h enc w base spare held n cs (by omega) (fun fd hfd => by
    obtain ⟨i, hi⟩ := List.mem_iff_getElem?.1 hfd
    have hi' : fs[i]? = some fd := by simpa using hi
    have hlt : i < xs.length := by rw [hxl]; exact (Array.getElem?_eq_some_iff.1 hi').1
    exact ⟨xs[i], by rw [hf i fd hi']; simp [hlt], weightsEach_get (i := i) (by rw [List.getElem?_map, hi]; rfl) (by rw [List.getElem?_map, List.getElem?_eq_getElem hlt]; rfl) hw⟩) (by rw [hl, hc, Nat.zero_add])
  refine ⟨g a, ?_, by show WF (f (g a)); rw [hfg]; exact h2⟩
  show E.rep (σH w) cs (f (g a))
  rw [hfg]
  simpa using h1
theorem arg_aggW {H α : Type} {enc : TypeId × Value → H} {w : World} {base : Nat} {spare : Nat → Bool} {held : Bool} {r : Reach} {b0 : Nat} {v : Value} {d : DataW H} {ps : List MemPlace} {E : Enc α} {WF : α → Prop}
    (h : ∀ N, OpensW N P T E WF) (hT : (∃ fs, P.underlying T = some (.struct fs)) ∨ ∃ n e, P.underlying T = some (.array n e)) (hE : E.agg = true) (hok : Value.okWide P w r b0 T v) (ht : DataW.Trod enc P w base spare held T v d ps) (hw : (d.weights P T).all (· ≤ reachBytes) = true) : ∃ a, E.val (σH w) v a ∧ WF a := by
  obtain ⟨fuel, hf⟩ := ht
  obtain ⟨a, h1, h2⟩ := h fuel enc w base spare held fuel _ _ (Nat.le_refl _) hf hw
  obtain ⟨cs, rfl⟩ := okWide_agg hok hT
  refine ⟨a, ?_, h2⟩
  unfold Enc.val
  rw [if_pos hE]
  exact ⟨cs, rfl, h1⟩
end
end Go.Pw
