/-
  Sorted edges, in plain Lean: the reference's insertion and the program's sort give the same rows.
-/
import Derived.Test.YtdhfofhginfdnaaWhV
set_option maxHeartbeats 4000000
set_option linter.unusedSimpArgs false
set_option linter.unusedVariables false
namespace Go.Pw
theorem EdLt.irrefl (a : Edge) : ¬ EdLt a a := by unfold EdLt; omega
theorem EdLt.trans {a b c : Edge} (h : EdLt a b) (k : EdLt b c) : EdLt a c := by unfold EdLt at *; omega
theorem EdLt.tri (a b : Edge) : EdLt a b ∨ a = b ∨ EdLt b a := by
  obtain ⟨a1, a2, a3⟩ := a
  obtain ⟨b1, b2, b3⟩ := b
  simp only [EdLt, Edge.mk.injEq]
  omega
def Srt (l : List Edge) : Prop := l.Pairwise EdLt
theorem Srt.ext : ∀ {l k : List Edge}, Srt l → Srt k → (∀ e, e ∈ l ↔ e ∈ k) → l = k
  | [], [], _, _, _ => rfl
  | [], b :: k, _, _, h => absurd ((h b).2 (by simp)) (by simp)
  | a :: l, [], _, _, h => absurd ((h a).1 (by simp)) (by simp)
  | a :: l, b :: k, hl, hk, h => by
    obtain ⟨h1, h2⟩ := List.pairwise_cons.1 hl
    obtain ⟨k1, k2⟩ := List.pairwise_cons.1 hk
    have hab : a = b := by
      rcases List.mem_cons.1 ((h a).1 (by simp)) with e | e
      · exact e
      · rcases List.mem_cons.1 ((h b).2 (by simp)) with e' | e'
        · exact e'.symm
        · exact absurd ((k1 a e).trans (h1 b e')) (EdLt.irrefl _)
    subst hab
    congr 1
    refine Srt.ext h2 k2 fun e => ?_
    have := h e
    simp only [List.mem_cons] at this
    constructor
    · intro he
      rcases this.1 (.inr he) with e' | e'
      · subst e'; exact absurd (h1 e he) (EdLt.irrefl _)
      · exact e'
    · intro he
      rcases this.2 (.inr he) with e' | e'
      · subst e'; exact absurd (k1 e he) (EdLt.irrefl _)
      · exact e'
theorem Srt.nodup {l : List Edge} (h : Srt l) : l.Nodup := by
  refine List.Pairwise.imp ?_ h
  intro a b hab e
  subst e
  exact EdLt.irrefl _ hab
/-- The program's sort: a strictly sorted row with the same edges. -/
theorem sort_spec {l : List Edge} (hn : l.Nodup) (hlen : l.length < 4611686018427387904) : ∃ k, sortEdges_p l = some k ∧ Srt k ∧ ∀ e, e ∈ k ↔ e ∈ l := by
  unfold sortEdges_p
  rw [if_pos hlen]
  refine ⟨_, rfl, ?_, fun e => (List.mergeSort_perm l _).mem_iff⟩
  have hp : (l.mergeSort fun x y => !decide (cmpE y x < 0)).Pairwise (fun x y => (!decide (cmpE y x < 0)) = true) := by
    apply List.pairwise_mergeSort
    · intro a b c h1 h2
      simp only [Bool.not_eq_true', decide_eq_false_iff_not, cmpE_lt] at *
      intro h3
      rcases EdLt.tri a b with h | h | h
      · exact h2 (h3.trans h)
      · subst h; exact h2 h3
      · exact h1 h
    · intro a b
      simp only [Bool.or_eq_true, Bool.not_eq_true', decide_eq_false_iff_not, cmpE_lt]
      by_cases h : EdLt b a
      · exact .inr fun h' => EdLt.irrefl _ (h.trans h')
      · exact .inl h
  have hnd : (l.mergeSort fun x y => !decide (cmpE y x < 0)).Nodup := (List.mergeSort_perm l _).nodup_iff.2 hn
  refine (hp.and hnd).imp ?_
  rintro a b ⟨h1, h2⟩
  simp only [Bool.not_eq_true', decide_eq_false_iff_not, cmpE_lt] at h1
  rcases EdLt.tri a b with h | h | h
  · exact h
  · exact absurd h h2
  · exact absurd h h1
end Go.Pw
