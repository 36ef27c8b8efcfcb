/-
  A system's arcs.
-/
import Derived.Test.YtdhfofhginfdnaaWhS
import Derived.Test.YtdhfofhginfdnaaB1
set_option maxHeartbeats 4000000
set_option linter.unusedSimpArgs false
set_option linter.unusedVariables false
namespace Go.Pw
/-- What the loops over a system's edges need. -/
structure WS (n : Nat) (x : System) : Prop where
  s : x.States = (n : Int)
  n1 : n ≤ 4096
  g : x.Goals.length = n
  e : x.Edges.length ≤ 65536
  edge : ∀ d ∈ x.Edges, ∃ f t l : Nat, d = ⟨(f : Int), (l : Int), (t : Int)⟩ ∧ f < n ∧ t < n ∧ ∃ c, x.Costs[l]? = some c ∧ 0 ≤ c ∧ c ≤ 1048576
theorem VSys.ws {x : System} (h : VSys x) : WS x.States.toNat x := by
  have h1 := h.s1; have h2 := h.s2; have h3 := h.g
  refine ⟨by omega, by omega, by omega, h.e, fun d hd => ?_⟩
  obtain ⟨a1, a2, a3, a4, a5, a6⟩ := h.edge d hd
  refine ⟨d.From.toNat, d.To.toNat, d.Label.toNat, ?_, by omega, by omega, ?_⟩
  · obtain ⟨f, l, t⟩ := d
    simp only [Edge.mk.injEq] at *
    omega
  · obtain ⟨c, hc⟩ := get_len (xs := x.Costs) (i := d.Label.toNat) (by omega)
    obtain ⟨b1, b2⟩ := h.cost c (List.mem_of_getElem? hc)
    exact ⟨c, hc, b1, b2⟩
def ArcOf (x : System) (back : Bool) : Arcs := fun v u w => ∃ d ∈ x.Edges, ∃ l : Nat, d.Label = (l : Int) ∧ x.Costs[l]? = some w ∧ (if back then d.To = (v : Int) ∧ d.From = (u : Int) else d.From = (v : Int) ∧ d.To = (u : Int))
theorem WS.aok {n : Nat} {x : System} (h : WS n x) (back : Bool) {src : Nat → Prop} (hs : ∀ i, src i → i < n) : AOK (ArcOf x back) src n := by
  refine ⟨?_, hs⟩
  rintro v u w ⟨d, hd, l, hl, hw, hb⟩
  obtain ⟨f, t, l', rfl, hf, ht, c, hc, c0, c1⟩ := h.edge d hd
  have : l' = l := by simp only at hl; omega
  subst this
  rw [hw] at hc; cases hc
  cases back <;> simp at hb <;> omega
def gsrc (x : System) : Nat → Prop := fun i => x.Goals[i]? = some true
end Go.Pw
