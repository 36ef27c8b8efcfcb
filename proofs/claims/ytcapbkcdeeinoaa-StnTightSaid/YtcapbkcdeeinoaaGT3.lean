/-
  Plain Lean: times that satisfy bounds.
-/
import Derived.Test.YtcapbkcdeeinoaaGT2
namespace Go.Pw
section
variable {n : Nat} {E : List Bound} {d : List (List Int)} {f : MM} {t : Nat → Int}
/-- Times that satisfy all bounds. -/
def Sat (E : List Bound) (t : Nat → Int) : Prop := ∀ i j c, GrOf E i j c → t j - t i ≤ c
theorem Sat.walk (h : Sat E t) {i j : Nat} {w : Int} {L : List Nat} (hw : Wk (GrOf E) i j w L) : t j - t i ≤ w := by
  induction hw with
  | nil => omega
  | cons e _ ih => have := h _ _ _ e; omega
/-- A bound that the times satisfy is accepted. -/
theorem Add_sat (hn : n ≤ 32) (h : Net n E d) {b : Bound} (hb : Rt n b) (hs : Sat (E ++ [b]) t) : Ok (stn_Network_Add_p ⟨d⟩ b) (fun r => ∃ d', r = (none, d') ∧ Net n (E ++ [b]) d') := by
  refine (Add_ok hn h b).mono ?_
  rintro r (⟨h1, _⟩ | ⟨_, ⟨i, w, L, hi, hw, hlt⟩, _⟩ | ⟨_, h2, h3⟩)
  · exact absurd hb h1
  · have := hs.walk hw; omega
  · exact ⟨r.2, by rw [← h2], h3⟩
theorem Sat.snoc (h : Sat E t) {b : Bound} {i j : Nat} (hi : b.A = (i : Int)) (hj : b.B = (j : Int)) (hb : t j - t i ≤ b.Most) : Sat (E ++ [b]) t := by
  rintro i' j' c ⟨b', hb', e1, e2, e3⟩
  rcases List.mem_append.1 hb' with hb' | hb'
  · exact h _ _ _ ⟨b', hb', e1, e2, e3⟩
  · have : b' = b := by simpa using hb'
    subst this
    have : i' = i := by omega
    have : j' = j := by omega
    subst i'; subst j'
    omega
theorem Sat.le (h : Sat E t) (hcl : Cl (GrOf E) n n f) {i j : Nat} (hi : i < n) (hj : j < n) (hf : f i j < 1125899906842624) : t j - t i ≤ f i j := by
  obtain ⟨L, hL, _⟩ := hcl.snd i j hi hj hf
  exact h.walk hL
end
end Go.Pw
