/-
  Valid systems, in plain Lean: the program and the reference accept the same.
-/
import Derived.Test.YtdhfofhginfdnaaWhC
import Derived.Test.YtdhfofhginfdnaaB0
set_option maxHeartbeats 4000000
set_option linter.unusedSimpArgs false
set_option linter.unusedVariables false
namespace Go.Pw
def EdLt (a b : Edge) : Prop := a.From < b.From ∨ a.From = b.From ∧ (a.Label < b.Label ∨ a.Label = b.Label ∧ a.To < b.To)
structure VSys (x : System) : Prop where
  s1 : 1 ≤ x.States
  s2 : x.States ≤ 4096
  i0 : 0 ≤ x.Init
  i1 : x.Init < x.States
  g : (x.Goals.length : Int) = x.States
  c : x.Costs.length ≤ 4096
  e : x.Edges.length ≤ 65536
  cost : ∀ c ∈ x.Costs, 0 ≤ c ∧ c ≤ 1048576
  edge : ∀ d ∈ x.Edges, 0 ≤ d.From ∧ d.From < x.States ∧ 0 ≤ d.To ∧ d.To < x.States ∧ 0 ≤ d.Label ∧ d.Label < (x.Costs.length : Int)
  ord : ∀ (i : Nat) (a b : Edge), x.Edges[i]? = some a → x.Edges[i + 1]? = some b → EdLt a b
open Classical in
noncomputable def valB (x : System) : Bool := decide (VSys x)
theorem valB_iff {x : System} : valB x = true ↔ VSys x := by unfold valB; simp
open Classical in
noncomputable def edgeOK (x : System) (i : Nat) : Bool := decide (∀ d, x.Edges[i]? = some d → 0 ≤ d.From ∧ d.From < x.States ∧ 0 ≤ d.To ∧ d.To < x.States ∧ 0 ≤ d.Label ∧ d.Label < (x.Costs.length : Int) ∧ ∀ a, 0 < i → x.Edges[i - 1]? = some a → EdLt a d)
open Classical in
noncomputable def costOK (x : System) (i : Nat) : Bool := decide (∀ c, x.Costs[i]? = some c → 0 ≤ c ∧ c ≤ 1048576)
theorem valB_eq (x : System) (h : ¬ (x.States < 1 ∨ 4096 < x.States ∨ x.Init < 0 ∨ x.States ≤ x.Init ∨ ¬ (x.Goals.length : Int) = x.States ∨ 4096 < (x.Costs.length : Int) ∨ 65536 < (x.Edges.length : Int))) :
    valB x = ((List.range x.Costs.length).all (costOK x) && (List.range x.Edges.length).all (edgeOK x)) := by
  rw [Bool.eq_iff_iff, valB_iff, Bool.and_eq_true, List.all_eq_true, List.all_eq_true]
  constructor
  · intro hv
    constructor
    · intro i hi
      simp only [costOK, decide_eq_true_eq]
      intro c hc
      exact hv.cost c (List.mem_of_getElem? hc)
    · intro i hi
      simp only [edgeOK, decide_eq_true_eq]
      intro d hd
      obtain ⟨h1, h2, h3, h4, h5, h6⟩ := hv.edge d (List.mem_of_getElem? hd)
      refine ⟨h1, h2, h3, h4, h5, h6, fun a h0 ha => ?_⟩
      exact hv.ord (i - 1) a d ha (by rw [show i - 1 + 1 = i by omega]; exact hd)
  · rintro ⟨h1, h2⟩
    refine ⟨by omega, by omega, by omega, by omega, by omega, by omega, by omega, ?_, ?_, ?_⟩
    · intro c hc
      obtain ⟨i, hi⟩ := List.mem_iff_getElem?.1 hc
      have hlt := (List.getElem?_eq_some_iff.1 hi).1
      have := h1 i (by simpa using hlt)
      simp only [costOK, decide_eq_true_eq] at this
      exact this c hi
    · intro d hd
      obtain ⟨i, hi⟩ := List.mem_iff_getElem?.1 hd
      have hlt := (List.getElem?_eq_some_iff.1 hi).1
      have := h2 i (by simpa using hlt)
      simp only [edgeOK, decide_eq_true_eq] at this
      obtain ⟨a, b, c, d', e, f, _⟩ := this d hi
      exact ⟨a, b, c, d', e, f⟩
    · intro i a b ha hb
      have hlt := (List.getElem?_eq_some_iff.1 hb).1
      have := h2 (i + 1) (by simpa using hlt)
      simp only [edgeOK, decide_eq_true_eq] at this
      exact (this b hb).2.2.2.2.2.2 a (by omega) (by simpa using ha)
theorem cmpE_lt (a b : Edge) : cmpE a b < 0 ↔ EdLt a b := cmpE_neg a b
theorem get_len {α : Type} {xs : List α} {i : Nat} (h : i < xs.length) : ∃ y, xs[i]? = some y := ⟨xs[i], by simp [h]⟩
theorem costR (x : System) {R : Type} (r : R) (j : Nat) (hj : j < x.Costs.length) :
    ((idx x.Costs (j : Int)).bind fun c => if ((decide (c < 0)) || decide (1048576 < c)) then (some (Ctl.ret r)) else (some (Ctl.next ()))) = some (if costOK x j then .next () else .ret r) := by
  obtain ⟨c, hc⟩ := get_len hj
  rw [idx_nat, hc]
  simp only [Option.bind_some, costOK, hc, Option.some.injEq, forall_eq']
  by_cases h : 0 ≤ c ∧ c ≤ 1048576
  · have h1 : ¬ c < 0 := by omega
    have h2 : ¬ 1048576 < c := by omega
    simp [h, h1, h2]
  · have : c < 0 ∨ 1048576 < c := by omega
    simp [h, this]
theorem head_eq (x : System) : ((decide (x.States < 1)) || ((decide (4096 < x.States)) || ((decide (x.Init < 0)) || ((decide (x.States ≤ x.Init)) || ((!decide ((x.Goals.length : Int) = x.States)) || ((decide (4096 < (x.Costs.length : Int))) || decide (65536 < (x.Edges.length : Int)))))))) =
    decide (x.States < 1 ∨ 4096 < x.States ∨ x.Init < 0 ∨ x.States ≤ x.Init ∨ ¬ (x.Goals.length : Int) = x.States ∨ 4096 < (x.Costs.length : Int) ∨ 65536 < (x.Edges.length : Int)) := by
  rw [Bool.eq_iff_iff]; simp
/-- One edge's test, as both texts do it. -/
theorem edgeR (x : System) (j : Nat) (hj : j < x.Edges.length) (hl : x.Edges.length ≤ 65536) (f : Edge → Edge → Option Bool) (hf : ∀ a b, f a b = some (!(open Classical in decide (EdLt a b)))) :
    ((idx x.Edges (j : Int)).bind fun d =>
    (if decide (d.From < 0) then (some true)
    else (if decide (x.States ≤ d.From) then (some true)
    else (if decide (d.To < 0) then (some true)
    else (if decide (x.States ≤ d.To) then (some true)
    else (if decide (d.Label < 0) then (some true)
    else (if decide ((x.Costs.length : Int) ≤ d.Label) then (some true)
    else (if decide (0 < (j : Int)) then ((idx x.Edges (IntKind.i64.wrap ((j : Int) - 1))).bind fun a => f a d)
    else (some false)))))))).bind (fun (z : Bool) => if z then (some (Ctl.ret false)) else (some (Ctl.next ())))) = some (if edgeOK x j then .next () else .ret false) := by
  obtain ⟨d, hd⟩ := get_len hj
  rw [idx_nat, hd]
  have hno : ¬ (0 ≤ d.From ∧ d.From < x.States ∧ 0 ≤ d.To ∧ d.To < x.States ∧ 0 ≤ d.Label ∧ d.Label < (x.Costs.length : Int)) → edgeOK x j = false := by
    intro hn
    cases hb : edgeOK x j with
    | false => rfl
    | true =>
      simp only [edgeOK, decide_eq_true_eq] at hb
      obtain ⟨a1, a2, a3, a4, a5, a6, _⟩ := hb d hd
      exact absurd ⟨a1, a2, a3, a4, a5, a6⟩ hn
  simp only [Option.bind_some]
  by_cases h1 : d.From < 0
  · rw [hno (by omega)]; simp [h1]
  by_cases h2 : x.States ≤ d.From
  · rw [hno (by omega)]; simp [h1, h2]
  by_cases h3 : d.To < 0
  · rw [hno (by omega)]; simp [h1, h2, h3]
  by_cases h4 : x.States ≤ d.To
  · rw [hno (by omega)]; simp [h1, h2, h3, h4]
  by_cases h5 : d.Label < 0
  · rw [hno (by omega)]; simp [h1, h2, h3, h4, h5]
  by_cases h6 : (x.Costs.length : Int) ≤ d.Label
  · rw [hno (by omega)]; simp [h1, h2, h3, h4, h5, h6]
  by_cases h7 : 0 < j
  · obtain ⟨a, ha⟩ := get_len (show j - 1 < x.Edges.length by omega)
    have hw : IntKind.i64.wrap ((j : Int) - 1) = ((j - 1 : Nat) : Int) := by rw [wrap_id (by omega) (by omega)]; omega
    have h7' : (0 : Int) < (j : Int) := by omega
    have he : edgeOK x j = true ↔ EdLt a d := by
      simp only [edgeOK, decide_eq_true_eq]
      constructor
      · intro hh; exact (hh d hd).2.2.2.2.2.2 a h7 ha
      · intro hlt d' hd'
        rw [hd] at hd'; cases hd'
        refine ⟨by omega, by omega, by omega, by omega, by omega, by omega, fun a' _ ha' => ?_⟩
        rw [ha] at ha'; cases ha'; exact hlt
    rw [hw, idx_nat, ha]
    simp only [Option.bind_some, hf, h1, h2, h3, h4, h5, h6, h7', decide_true, decide_false, if_true, Bool.false_eq_true, if_false]
    by_cases hlt : EdLt a d
    · rw [he.2 hlt]; simp [hlt]
    · have : edgeOK x j = false := by
        cases hb : edgeOK x j with
        | false => rfl
        | true => exact absurd (he.1 hb) hlt
      rw [this]; simp [hlt]
  · have h7' : ¬ (0 : Int) < (j : Int) := by omega
    have he : edgeOK x j = true := by
      simp only [edgeOK, decide_eq_true_eq]
      intro d' hd'
      rw [hd] at hd'; cases hd'
      exact ⟨by omega, by omega, by omega, by omega, by omega, by omega, fun a' h0 _ => absurd h0 h7⟩
    rw [he]
    simp only [h1, h2, h3, h4, h5, h6, h7', decide_false, Bool.false_eq_true, if_false, if_true, Option.bind_some]
open Classical in
theorem tV (x : System) : transys_Valid_p x = some (valB x) := by
  unfold transys_Valid_p
  rw [head_eq]
  by_cases h : x.States < 1 ∨ 4096 < x.States ∨ x.Init < 0 ∨ x.States ≤ x.Init ∨ ¬ (x.Goals.length : Int) = x.States ∨ 4096 < (x.Costs.length : Int) ∨ 65536 < (x.Edges.length : Int)
  · rw [if_pos (by simpa using h)]
    have : ¬ VSys x := fun hv => by have := hv.s1; have := hv.s2; have := hv.i0; have := hv.i1; have := hv.g; have := hv.c; have := hv.e; omega
    unfold valB; simp [this]
  · rw [if_neg (by simpa using h), valB_eq x h, ctl_all (fun j hj => costR x false j hj)]
    have hl : x.Edges.length ≤ 65536 := by omega
    rw [ctl_all (fun j hj => edgeR x j hj hl (fun a b => (transys_compare_p a b).bind fun y => some (decide (0 ≤ y))) (fun a b => by
      rw [compare_p]
      simp only [Option.bind_some, Option.some.injEq]
      have := cmpE_lt a b
      by_cases hlt : EdLt a b
      · have h2 : ¬ 0 ≤ cmpE a b := by have := this.2 hlt; omega
        simp [hlt, h2]
      · have h2 : 0 ≤ cmpE a b := by have h3 : ¬ cmpE a b < 0 := fun h => hlt (this.1 h); omega
        simp [hlt, h2]))]
    cases (List.range x.Costs.length).all (costOK x) <;> cases (List.range x.Edges.length).all (edgeOK x) <;> rfl
end Go.Pw
