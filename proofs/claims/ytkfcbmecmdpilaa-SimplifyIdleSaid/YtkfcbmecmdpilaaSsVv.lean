/-
  All in the simplified task is relevant; it is its own simplified task, in plain Lean.
-/
import Derived.Test.YtkfcbmecmdpilaaSsVu
set_option maxHeartbeats 8000000
set_option linter.unusedSimpArgs false
set_option linter.unusedVariables false
namespace Go.Pw
theorem Alike.refl (x : GOp) : Alike x x := ⟨rfl, rfl, rfl⟩
theorem Alike.symm {x y : GOp} (h : Alike x y) : Alike y x := ⟨h.1.symm, h.2.1.symm, h.2.2.symm⟩
theorem Alike.trans {x y z : GOp} (h : Alike x y) (k : Alike y z) : Alike x z := ⟨h.1.trans k.1, h.2.1.trans k.2.1, h.2.2.trans k.2.2⟩
theorem mk_all {n : Nat} {i : Int} : Mk (List.replicate n true) i ↔ 0 ≤ i ∧ i < (n : Int) := by
  unfold Mk
  rw [List.getElem?_replicate]
  by_cases h : i.toNat < n
  · rw [if_pos h]; exact ⟨fun q => ⟨q.1, by omega⟩, fun q => ⟨q.1, rfl⟩⟩
  · rw [if_neg h]; exact ⟨fun q => by simp at q, fun q => by omega⟩
section
variable {A F : List Bool} {g : Ground}
theorem tou_get {i : Nat} {o : GOp} (ho : g.Ops[i]? = some o) : (touL A F g)[i]? = some true ↔ Touch (Mk A) (Mk F) o := by
  unfold touL; rw [List.getElem?_map, ho]; simp
end
/-! ### where all is marked -/
theorem keep_all {α : Type} {n : Nat} {xs : List α} (h : xs.length = n) : keep (List.replicate n true) xs = xs := by
  have key : ∀ j, j ≤ xs.length → keepTo (List.replicate n true) xs j = xs.take j := by
    intro j
    induction j with
    | zero => intro _; simp [keepTo]
    | succ j ih =>
      intro hj
      obtain ⟨x, hx⟩ := get_len (xs := xs) (i := j) (by omega)
      rw [keepTo_succ hx, ih (by omega), take_snoc hx, if_pos (by rw [List.getElem?_replicate, if_pos (by omega)])]
  rw [← keepTo_len, key _ (Nat.le_refl _), List.take_length]
theorem at0_all {n : Nat} {i : Int} (h0 : 0 ≤ i) (h1 : i < (n : Int)) : at0 (numF (List.replicate n true)) i = i := by
  rw [na_eq (mk_all.2 ⟨h0, h1⟩), List.take_replicate]
  unfold cnt
  rw [List.count_replicate_self]
  omega
theorem mapE_id {n : Int} {f : Int → Int} {e : GExpr} (hf : ∀ i, 0 ≤ i → i < n → f i = i) (h : RE n e) : mapE f e = e := by
  induction h with
  | num a b => simp only [mapE, mapEs]; rw [if_neg (by simp)]
  | flu a b => simp only [mapE, mapEs, if_true]; rw [hf _ a b]
  | bin ho ha hb iha ihb =>
    simp only [mapE, mapEs, iha, ihb]
    rw [if_neg (by rcases ho with h | h | h <;> subst h <;> simp)]
theorem map_id_on {α : Type} {f : α → α} {l : List α} (h : ∀ x ∈ l, f x = x) : l.map f = l := by
  rw [List.map_congr_left (g := id) (by simpa using h), List.map_id]
section
variable {na nf : Int} {a f : Int → Int}
theorem mapC_id {c : Cond} (ha : ∀ i, 0 ≤ i → i < na → a i = i) (hf : ∀ i, 0 ≤ i → i < nf → f i = i) (h : CondOK na nf c) : mapC a f c = c := by
  obtain ⟨p, n, t⟩ := c
  unfold mapC
  simp only
  rw [map_id_on fun x hx => ha x (h.p.rng hx).1 (h.p.rng hx).2, map_id_on fun x hx => ha x (h.n.rng hx).1 (h.n.rng hx).2, map_id_on fun x hx => ?_]
  obtain ⟨_, h2, h3⟩ := h.t x hx
  unfold mapT
  rw [mapE_id hf h2, mapE_id hf h3]
theorem mapO_id {o : GOp} (ha : ∀ i, 0 ≤ i → i < na → a i = i) (hf : ∀ i, 0 ≤ i → i < nf → f i = i) (h : GOpOK na nf o) : mapO a f o = o := by
  obtain ⟨nm, k, p, cs, as⟩ := o
  have hc := h.chg
  have hp := h.pre
  have has := @ass_rng _ _ h.as
  simp only at hc hp has
  unfold mapO
  simp only
  rw [mapC_id ha hf hp, List.filter_eq_self.2 (fun c hc' => decide_eq_true (by rw [ha _ (hc c hc').r0 (hc c hc').r1]; exact (hc c hc').r0)), map_id_on fun x hx => ?_, map_id_on fun x hx => ?_]
  · have := has hx
    unfold mapG
    rw [hf _ this.1 this.2.1, mapE_id hf this.2.2]
  · have := hc x hx
    unfold mapH
    rw [mapC_id ha hf this.w, ha _ this.r0 this.r1]
end
section
variable {g : Ground}
theorem mapL_all (hv : ValidG g) : mapL (List.replicate g.Atoms.length true) (List.replicate g.Fluents.length true) g = g.Ops :=
  map_id_on fun o ho => mapO_id (fun i h0 h1 => at0_all h0 h1) (fun i h0 h1 => at0_all h0 h1) (hv.op o ho)
theorem staL_all (hv : ValidG g) (ht : ∀ o ∈ g.Ops, Touch (Mk (List.replicate g.Atoms.length true)) (Mk (List.replicate g.Fluents.length true)) o) (hb : ∀ p q, ¬ Beats g.Ops q p) :
    staL (List.replicate g.Atoms.length true) (List.replicate g.Fluents.length true) g = List.replicate g.Ops.length true := by
  unfold staL
  rw [mapL_all hv]
  apply List.ext_getElem?
  intro i
  by_cases hi : i < g.Ops.length
  · rw [List.getElem?_replicate, if_pos hi, stayL_get hi]
    obtain ⟨o, ho⟩ := get_len hi
    exact ⟨(tou_get ho).2 (ht o (List.mem_of_getElem? ho)), fun ⟨j, _, h⟩ => hb i j h⟩
  · rw [List.getElem?_eq_none (by rw [stayL_len]; omega), List.getElem?_eq_none (by simp; omega)]
theorem simp_all (hv : ValidG g) (ht : ∀ o ∈ g.Ops, Touch (Mk (List.replicate g.Atoms.length true)) (Mk (List.replicate g.Fluents.length true)) o) (hb : ∀ p q, ¬ Beats g.Ops q p) :
    simpG (List.replicate g.Atoms.length true) (List.replicate g.Fluents.length true) g = g := by
  unfold simpG
  rw [staL_all hv ht hb, mapL_all hv, keep_all rfl, keep_all rfl, keep_all rfl]
  have hI : ∀ i ∈ g.Init, at0 (numF (List.replicate g.Atoms.length true)) i = i := fun i hi => at0_all (hv.i.rng hi).1 (hv.i.rng hi).2
  rw [List.filter_eq_self.2 (fun i hi => decide_eq_true (by rw [hI i hi]; exact (hv.i.rng hi).1)), map_id_on hI, map_id_on fun c hc => mapC_id (fun i h0 h1 => at0_all h0 h1) (fun i h0 h1 => at0_all h0 h1) (hv.goal c hc)]
end
section
variable {A F : List Bool} {g : Ground}
end
section
variable {fu : Nat} {A F : List Bool} {g : Ground}
end
end Go.Pw
