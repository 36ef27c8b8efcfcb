/-
  Plain Lean: least costs of paths, by what a row of them satisfies. No program in sight.
-/
import Derived.Test.YtcabhickgjhkhaaGreatDoorB0
set_option maxHeartbeats 4000000
set_option linter.unusedSimpArgs false
set_option linter.unusedVariables false
namespace Go.Pw
abbrev Inf : Int := 1125899906842624
abbrev Arcs := Nat → Nat → Int → Prop
inductive Reach (A : Arcs) (src : Nat → Prop) : Nat → Int → Prop
  | base {i : Nat} : src i → Reach A src i 0
  | step {v u : Nat} {c w : Int} : Reach A src v c → A v u w → Reach A src u (c + w)
structure AOK (A : Arcs) (src : Nat → Prop) (n : Nat) : Prop where
  a : ∀ v u w, A v u w → v < n ∧ u < n ∧ 0 ≤ w ∧ w ≤ 1048576
  s : ∀ i, src i → i < n
structure Dst (A : Arcs) (src : Nat → Prop) (n : Nat) (l : List Int) : Prop where
  len : l.length = n
  rng : ∀ (i : Nat) (x : Int), l[i]? = some x → 0 ≤ x ∧ x ≤ Inf
  s0 : ∀ (i : Nat), src i → l[i]? = some 0
  re : ∀ (i : Nat) (x : Int), l[i]? = some x → x < Inf → Reach A src i x
def ClAt (A : Arcs) (l : List Int) (v : Nat) : Prop := ∀ (u : Nat) (w x y : Int), A v u w → l[v]? = some x → l[u]? = some y → x < Inf → y ≤ x + w
structure SP (A : Arcs) (src : Nat → Prop) (n : Nat) (l : List Int) : Prop extends Dst A src n l where
  cl : ∀ v, ClAt A l v
section
variable {A : Arcs} {src : Nat → Prop} {n : Nat} {l k : List Int}
theorem Reach.pos (hA : AOK A src n) {i : Nat} {c : Int} (h : Reach A src i c) : 0 ≤ c := by
  induction h with
  | base _ => exact Int.le_refl _
  | step _ h ih => have := (hA.a _ _ _ h).2.2.1; omega
theorem SP.le (hA : AOK A src n) (h : SP A src n l) {i : Nat} {c : Int} (hr : Reach A src i c) : c < Inf → ∃ y, l[i]? = some y ∧ y ≤ c := by
  induction hr with
  | base hs => exact fun _ => ⟨0, h.s0 _ hs, Int.le_refl _⟩
  | @step v u c w hr ha ih =>
    intro hc
    obtain ⟨_, hu, hw, _⟩ := hA.a _ _ _ ha
    have := hr.pos hA
    obtain ⟨x, hx, hxc⟩ := ih (by omega)
    obtain ⟨y, hy⟩ : ∃ y, l[u]? = some y := ⟨l[u]'(by rw [h.len]; exact hu), by simp [h.len, hu]⟩
    have := h.cl v u w x y ha hx hy (by omega)
    exact ⟨y, hy, by omega⟩
theorem Dst.set (hA : AOK A src n) (h : Dst A src n l) {v u : Nat} {w x y : Int} (ha : A v u w) (hx : l[v]? = some x) (hy : l[u]? = some y) (hlt : x + w < y) : Dst A src n (l.set u (x + w)) := by
  obtain ⟨_, hu, hw, _⟩ := hA.a _ _ _ ha
  have rx := h.rng v x hx
  have ry := h.rng u y hy
  have hul : u < l.length := by rw [h.len]; exact hu
  refine ⟨by simp [h.len], fun i z hz => ?_, fun i hi => ?_, fun i z hz hzi => ?_⟩
  · by_cases e : u = i
    · subst e
      rw [List.getElem?_set_self hul] at hz
      cases hz; omega
    · rw [List.getElem?_set_ne e] at hz; exact h.rng i z hz
  · by_cases e : u = i
    · subst e
      have := h.s0 u hi
      rw [hy] at this; cases this; omega
    · rw [List.getElem?_set_ne e]; exact h.s0 i hi
  · by_cases e : u = i
    · subst e
      rw [List.getElem?_set_self hul] at hz
      cases hz
      exact .step (h.re v x hx (by omega)) ha
    · rw [List.getElem?_set_ne e] at hz; exact h.re i z hz hzi
end
end Go.Pw
