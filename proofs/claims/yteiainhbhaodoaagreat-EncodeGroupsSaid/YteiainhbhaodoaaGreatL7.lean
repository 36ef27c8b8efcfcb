/- -/
import Derived.Test.YteiainhbhaodoaaGreatL6
import Derived.ProofKit
import Derived.OpenShut
namespace Go.Pw
open Go.ChangeShapes Go.WideShapes Go.ChangeAt Go.RowKit
def σH (w : World) : PHeap := fun b => w.heap[b]?
theorem QgB (w : World) : St w (σH w) [] w := ⟨rfl, rfl, rfl, Nat.le_refl _, Nat.le_refl _, fun _ _ h => h, [], List.nodup_nil, by simp, rfl⟩
def Opens (P : Program) (T : TypeId) {α : Type} (E : Enc α) (WF : α → Prop) : Prop :=
 ∀ {H : Type} (enc : TypeId × Value → H) (w : World) (base : Nat) (spare : Nat → Bool) (held : Bool) (fuel : Nat) (cs : List Value) (x : DataW H × List MemPlace),
  DataW.trod enc P w base spare held fuel T cs = some x → ∃ a, E.rep (σH w) cs a ∧ WF a
section
variable {P : Program} {T e : TypeId}
theorem Opens.int {k : IntKind} (hT : P.underlying T = some (.int k)) : Opens P T (Qc k) (fun n => (Lit.int k n).wf = true) := by
 intro H enc w base spare held fuel cs x h
 obtain ⟨n, rfl, _, hw⟩ := DataW.trod_int hT h
 exact ⟨n, Z, hw⟩
theorem Opens.bool (hT : P.underlying T = some .bool) : Opens P T encBool (fun _ => True) := by
 intro H enc w base spare held fuel cs x h
 obtain ⟨n, rfl, _⟩ := DataW.trod_bool hT h
 exact ⟨n, Z, trivial⟩
theorem QbG (hT : P.underlying T = some .string) : Opens P T encStr (fun s => s.size ≤ maxLen) := by
 intro H enc w base spare held fuel cs x h
 obtain ⟨n, rfl, _, hw⟩ := DataW.trod_string hT h
 exact ⟨n, Z, hw⟩
theorem Opens.mono {α : Type} {E : Enc α} {WF WF' : α → Prop} (h : Opens P T E WF) (k : ∀ a, WF a → WF' a) : Opens P T E WF' := by
 intro H enc w base spare held fuel cs x hx
 obtain ⟨a, h1, h2⟩ := h enc w base spare held fuel cs x hx
 exact ⟨a, h1, k a h2⟩
theorem Qc1 {α : Type} {E : Enc α} {WF : α → Prop} {s : PHeap} {l : List Value} : ∀ (len off : Nat), (∀ i, i < len → ∃ x, E.rep s ((l.drop (off + i * E.sz)).take E.sz) x ∧ WF x) →
  ∃ xs, xs.length = len ∧ reps E s ((l.drop off).take (len * E.sz)) xs ∧ ∀ x ∈ xs, WF x
 | 0, off, _ => ⟨[], rfl, by simp [reps], by simp⟩
 | len + 1, off, h => by
  obtain ⟨x, hx, hw⟩ := h 0 (by omega)
  obtain ⟨xs, h1, h2, h3⟩ := Qc1 len (off + E.sz) (fun i hi => by
   have := h (i + 1) (by omega)
   rwa [Nat.add_mul, Nat.one_mul, Nat.add_comm (i * E.sz), ← Nat.add_assoc] at this)
  rw [Nat.zero_mul, Nat.add_zero] at hx
  refine ⟨x :: xs, by simp [h1], ⟨(l.drop off).take E.sz, (l.drop (off + E.sz)).take (len * E.sz), ?_, hx, h2⟩, ?_⟩
  ·rw [Nat.add_mul, Nat.one_mul, Nat.add_comm (len * E.sz), List.take_add, List.drop_drop]
  ·intro y hy
   rcases List.mem_cons.1 hy with rfl | hy
   ·exact hw
   ·exact h3 y hy
theorem Qc5 {w : World} {base : Nat} {a : Addr} {n : Nat} {cs : List Value} (hs : a.spot = none) (h : w.cells? base a n = some cs) (hn : 0 < n) :
  ∃ c Te fz, w.heap[a.block]? = some (.cells c Te fz) ∧ cs = (c.toList.drop a.off).take n := by
 obtain ⟨_, hl, hc⟩ := World.cells?_some h
 have h0 := hc 0 hn
 have hcs0 : ∃ v, cs[0]? = some v := ⟨cs[0], by simp [hl, hn]⟩
 obtain ⟨v, hv⟩ := hcs0
 obtain ⟨b, off, spot⟩ := a
 simp only at hs
 subst hs
 have hcell : ∀ i, i < n → w.cell? ⟨b, off + i, none⟩ = cs[i]? := by
  intro i hi
  have := hc i hi
  rwa [Addr.add_lit] at this
 have h0 := hcell 0 hn
 rw [hv] at h0
 unfold World.cell? at h0
 simp only at h0
 split at h0
 ·rename_i c Te fz hb
  refine ⟨c, Te, fz, hb, List.ext_getElem? fun i => ?_⟩
  by_cases hi : i < n
  ·have := hcell i hi
   unfold World.cell? at this
   simp only [hb] at this
   rw [List.getElem?_take, if_pos hi, List.getElem?_drop, ← this]
   simp
  ·rw [List.getElem?_eq_none (by omega), List.getElem?_take, if_neg hi]
 ·cases h0
theorem Opens.slice {α : Type} {E : Enc α} {WF : α → Prop} (hT : P.underlying T = some (.slice e)) (hc : P.cellsOf e = E.sz) (h : Opens P e E WF) : Opens P T (Qp E) (fun xs => xs.length ≤ maxLen ∧ ∀ x ∈ xs, WF x) := by
 intro H enc w base spare held fuel cs x hx
 rcases DataW.trod_slice hT hx with ⟨rfl, _⟩ | ⟨a, len, cap, elems, rest, n, _, rfl, _, _, hlc, hcm, hlen, hel, _⟩
 ·exact ⟨[], ⟨_, Z, .inl ⟨Z, Z⟩⟩, by simp, by simp⟩
 rw [hc] at hel
 by_cases hl0 : len = 0
 ·subst hl0
  exact ⟨[], ⟨_, Z, .inr (.inl ⟨a, cap, Z, Z⟩)⟩, by simp, by simp⟩
 have each : ∀ i, i < len → ∃ cs' y, w.cells? base (a.add (i * E.sz)) E.sz = some cs' ∧ DataW.trod enc P w base spare held n e cs' = some y := by
  intro i hi
  have := hel i hi
  have he : ∃ y, elems[i]? = some y := ⟨elems[i], by simp [hlen, hi]⟩
  obtain ⟨y, hy⟩ := he
  rw [hy] at this
  obtain ⟨cs', h1, h2⟩ := Option.bind_eq_some_iff.1 this
  exact ⟨cs', y, h1, h2⟩
 have hsp : a.spot = none := by
  obtain ⟨cs', y, h1, _⟩ := each 0 (by omega)
  rw [Nat.zero_mul] at h1
  obtain ⟨_, hl, hc⟩ := World.cells?_some h1
  have := hc 0 E.pos
  have hv : ∃ v, cs'[0]? = some v := ⟨cs'[0]'(by have := E.pos; omega), by simp⟩
  obtain ⟨v, hv⟩ := hv
  rw [hv] at this
  have ha : (a.add 0).add 0 = a := by simp [Addr.add]
  rw [ha] at this
  unfold World.cell? at this
  split at this
  ·split at this
   ·cases this
   ·rename_i q; simpa using q
  ·cases this
 obtain ⟨b, off, spot⟩ := a
 simp only at hsp
 subst hsp
 obtain ⟨c, Te, fz, hb⟩ : ∃ c Te fz, w.heap[b]? = some (.cells c Te fz) := by
  obtain ⟨cs', y, h1, _⟩ := each 0 (by omega)
  rw [Addr.add_lit] at h1
  obtain ⟨c, Te, fz, h2, _⟩ := Qc5 rfl h1 E.pos
  exact ⟨c, Te, fz, h2⟩
 obtain ⟨xs, hxl, hxr, hxw⟩ := Qc1 (E := E) (WF := WF) (s := σH w) (l := c.toList) len off (fun i hi => by
  obtain ⟨cs', y, h1, h2⟩ := each i hi
  rw [Addr.add_lit] at h1
  obtain ⟨c', Te', fz', h3, h4⟩ := Qc5 rfl h1 E.pos
  simp only at h3 h4
  rw [hb] at h3
  cases h3
  obtain ⟨x, hx1, hx2⟩ := h enc w base spare held n cs' y h2
  rw [h4] at hx1
  exact ⟨x, hx1, hx2⟩)
 subst hxl
 refine ⟨xs, ⟨_, Z, .inr (.inr ⟨b, off, cap, c, Te, fz, _, Z, hlc, hcm, hb, ?_, hxr⟩)⟩, by omega, hxw⟩
 rw [hxr.len]
def FOpens (P : Program) (fs : List Field) (off : Nat) {α : Type} (E : Enc α) (WF : α → Prop) : Prop :=
 ∀ {H : Type} (enc : TypeId × Value → H) (w : World) (base : Nat) (spare : Nat → Bool) (held : Bool) (n : Nat) (cs : List Value),
  (∀ f ∈ fs, ∃ y, DataW.trod enc P w base spare held n f.type ((cs.drop f.offset).take (P.cellsOf f.type)) = some y) → cs.length = off + E.sz → ∃ a, E.rep (σH w) (cs.drop off) a ∧ WF a
theorem FOpens.one {α : Type} {E : Enc α} {WF : α → Prop} {f : Field} {off : Nat} (ho : f.offset = off) (hc : P.cellsOf f.type = E.sz) (h : Opens P f.type E WF) : FOpens P [f] off E WF := by
 intro H enc w base spare held n cs hy hl
 obtain ⟨y, hy⟩ := hy f (by simp)
 rw [ho, hc, List.take_of_length_le (by simp; omega)] at hy
 exact h enc w base spare held n _ y hy
theorem FOpens.cons {α β : Type} {A : Enc α} {B : Enc β} {WA : α → Prop} {WB : β → Prop} {f : Field} {fs : List Field} {off m : Nat} (ho : f.offset = off) (hc : P.cellsOf f.type = A.sz) (h : Opens P f.type A WA) (hm : off + A.sz = m) (hs : FOpens P fs m B WB) :
  FOpens P (f :: fs) off (A.pair B) (fun p => WA p.1 ∧ WB p.2) := by
 intro H enc w base spare held n cs hy hl
 subst hm
 obtain ⟨y, hy1⟩ := hy f (by simp)
 rw [ho, hc] at hy1
 obtain ⟨a, ha, hwa⟩ := h enc w base spare held n _ y hy1
 obtain ⟨b, hb, hwb⟩ := hs enc w base spare held n cs (fun g hg => hy g (by simp [hg])) (by rw [hl]; exact (Nat.add_assoc _ _ _).symm)
 refine ⟨(a, b), ⟨_, _, ?_, ha, hb⟩, hwa, hwb⟩
 rw [← List.drop_drop, List.take_append_drop]
theorem Opens.struct {α β : Type} {E : Enc α} {WF : α → Prop} {fs : Array Field} {f : β → α} (g : α → β) (hT : P.underlying T = some (.struct fs)) (hc : P.cellsOf T = E.sz) (hfg : ∀ a, f (g a) = a) (h : FOpens P fs.toList 0 E WF) :
  Opens P T (Enc.iso E f) (fun b => WF (f b)) := by
 intro H enc w base spare held fuel cs x hx
 obtain ⟨xs, n, _, _, hl, hxl, hf⟩ := DataW.trod_struct hT hx
 obtain ⟨a, h1, h2⟩ := h enc w base spare held n cs (fun fd hfd => by
  obtain ⟨i, hi⟩ := List.mem_iff_getElem?.1 hfd
  have hi' : fs[i]? = some fd := by simpa using hi
  have hlt : i < xs.length := by rw [hxl]; exact (Array.getElem?_eq_some_iff.1 hi').1
  exact ⟨xs[i], by rw [hf i fd hi']; simp [hlt]⟩) (by rw [hl, hc, Nat.zero_add])
 refine ⟨g a, ?_, by show WF (f (g a)); rw [hfg]; exact h2⟩
 show E.rep (σH w) cs (f (g a))
 rw [hfg]
 simpa using h1
theorem Opens.arr {α : Type} {E : Enc α} {WF : α → Prop} {n : Nat} {hn : 0 < n} (hT : P.underlying T = some (.array n e)) (hc : P.cellsOf e = E.sz) (hcT : P.cellsOf T = n * E.sz) (h : Opens P e E WF) : Opens P T (Qk8 n hn E) (fun xs => xs.length = n ∧ ∀ x ∈ xs, WF x) := by
 intro H enc w base spare held fuel cs x hx
 obtain ⟨ys, m, _, _, hl, hyl, hf⟩ := DataW.trod_array hT hx
 obtain ⟨xs, h1, h2, h3⟩ := Qc1 (E := E) (WF := WF) (s := σH w) (l := cs) n 0 (fun i hi => by
  have := hf i hi
  have hy : ys[i]? = some (ys[i]'(by omega)) := by simp
  rw [hy, hc] at this
  rw [Nat.zero_add]
  exact h enc w base spare held m _ _ this)
 rw [List.drop_zero, List.take_of_length_le (by rw [hl, hcT]; exact Nat.le_refl _)] at h2
 exact ⟨xs, ⟨h1, h2⟩, h1, h3⟩
/-! ### arguments -/
theorem Qgi {r : Reach} {w : World} {b0 : Nat} {v : Value} (h : Value.okWide P w r b0 T v) (hs : ∀ fs, P.underlying T ≠ some (.struct fs)) (ha : ∀ n e, P.underlying T ≠ some (.array n e)) : v.cells = #[v] := by
 cases v with
 | agg cs =>
  exfalso
  unfold Value.okWide at h
  split at h
  ·rename_i fs hu; exact hs _ hu
  ·rename_i n e hu; exact ha _ _ hu
  ·unfold Cell.okWide at h
   split at h <;> simp_all
   unfold Cell.ok at h
   split at h <;> simp_all
 | _ => rfl
theorem Qho {r : Reach} {w : World} {b0 : Nat} {v : Value} (h : Value.okWide P w r b0 T v) (hT : (∃ fs, P.underlying T = some (.struct fs)) ∨ ∃ n e, P.underlying T = some (.array n e)) : ∃ cs, v = .agg cs := by
 unfold Value.okWide at h
 split at h
 ·exact ⟨_, h.choose_spec.1⟩
 ·exact ⟨_, h.choose_spec.1⟩
 ·rename_i h1 h2
  rcases hT with ⟨fs, hu⟩ | ⟨n, e, hu⟩
  ·exact absurd hu (h1 fs)
  ·exact absurd hu (h2 n e)
section
variable {H : Type} {enc : TypeId × Value → H} {w : World} {base b0 : Nat} {spare : Nat → Bool} {held : Bool} {r : Reach} {v : Value} {d : DataW H} {ps : List MemPlace} {α : Type} {E : Enc α} {WF : α → Prop}
theorem QjR (h : Opens P T E WF) (hs : ∀ fs, P.underlying T ≠ some (.struct fs)) (ha : ∀ n e, P.underlying T ≠ some (.array n e)) (hE : E.agg = false) (hok : Value.okWide P w r b0 T v) (ht : DataW.Trod enc P w base spare held T v d ps) : ∃ a, E.val (σH w) v a ∧ WF a := by
 obtain ⟨fuel, hf⟩ := ht
 obtain ⟨a, h1, h2⟩ := h enc w base spare held fuel _ _ hf
 rw [Qgi hok hs ha] at h1
 refine ⟨a, ?_, h2⟩
 unfold Enc.val
 rw [if_neg (by simp [hE])]
 exact h1
theorem QjS (h : Opens P T E WF) (hT : (∃ fs, P.underlying T = some (.struct fs)) ∨ ∃ n e, P.underlying T = some (.array n e)) (hE : E.agg = true) (hok : Value.okWide P w r b0 T v) (ht : DataW.Trod enc P w base spare held T v d ps) : ∃ a, E.val (σH w) v a ∧ WF a := by
 obtain ⟨fuel, hf⟩ := ht
 obtain ⟨a, h1, h2⟩ := h enc w base spare held fuel _ _ hf
 obtain ⟨cs, rfl⟩ := Qho hok hT
 refine ⟨a, ?_, h2⟩
 unfold Enc.val
 rw [if_pos hE]
 exact ⟨cs, Z, h1⟩
theorem Qi7 {e : TypeId} (hT : P.underlying T = some (.slice e)) (hc : P.cellsOf e = E.sz) (h : Opens P e E WF) (hok : Value.okWide P w r b0 T v) (ht : DataW.Trod enc P w base spare held T v d ps) : ∃ xs, SliceRep E (σH w) v xs ∧ xs.length ≤ maxLen ∧ ∀ x ∈ xs, WF x := by
 obtain ⟨a, h1, h2⟩ := QjR (Opens.slice hT hc h) (by rw [hT]; simp) (by rw [hT]; simp) rfl hok ht
 exact ⟨a, QG.1 h1, h2⟩
theorem QgR {W W' : World} {s : PHeap} {X : List Res} (hS : St W s X W') (hle : PHeap.le (σH W) s) : Below W.heap.size W W' where
 os := hS.os
 tape := hS.tape
 output := hS.output
 size := hS.size
 block k hk := by
  have e : W.heap[k]? = some W.heap[k] := by simp [hk]
  rw [e]
  exact hS.stay k _ (hle k _ e)
end
end
end Go.Pw
