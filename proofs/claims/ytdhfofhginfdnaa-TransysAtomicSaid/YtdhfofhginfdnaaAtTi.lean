/-
  Insert, in plain Lean.
-/
import Derived.Test.YtdhfofhginfdnaaAtU
set_option maxHeartbeats 4000000
set_option linter.unusedSimpArgs false
set_option linter.unusedVariables false
namespace Go.Pw
theorem before_t (a b : Edge) : ref44_Before_t a b = true ↔ EdLt a b := by
  have h := ref44_Before_tot a b
  unfold ref44_Before_p at h
  unfold EdLt
  by_cases h1 : a.From = b.From
  · by_cases h2 : a.Label = b.Label
    · simp [h1, h2] at h; rw [← h]; simp [h1, h2]
    · simp [h1, h2] at h; rw [← h]; simp [h1, h2]
  · simp [h1] at h; rw [← h]; simp [h1]
/-- The reference's insertion. -/
theorem insert_spec {l : List Edge} {e : Edge} (hl : Srt l) (hlen : l.length ≤ 1000000) : Ok (ref44_Insert_p l e) fun k => Srt k ∧ (∀ d, d ∈ k ↔ d ∈ l ∨ d = e) ∧ k.length ≤ l.length + 1 := by
  unfold ref44_Insert_p
  have hp := List.pairwise_iff_getElem.1 hl
  refine Ok.while (fun at_ : Int => ∃ n : Nat, at_ = (n : Int) ∧ n ≤ l.length ∧ ∀ j (h : j < l.length), n ≤ j → EdLt e l[j]) (fun at_ => ∃ n : Nat, at_ = (n : Int) ∧ n ≤ l.length ∧ (∀ j (h : j < l.length), n ≤ j → EdLt e l[j]) ∧ ∀ j (h : j < l.length), j < n → EdLt l[j] e)
    (fun r => r = l ∧ e ∈ l) (fun at_ => at_.toNat) ⟨l.length, rfl, Nat.le_refl _, fun j h h' => absurd h (by omega)⟩ ?_ ?_ ?_
  · rintro at_ ⟨n, rfl, hn, hge⟩
    by_cases h0 : n = 0
    · subst h0
      exact ⟨.brk ((0 : Nat) : Int), by simp, by simp, fun s' e' => by cases e'; exact ⟨0, rfl, by omega, hge, fun j h h' => absurd h' (by omega)⟩, by simp⟩
    · have hlt : n - 1 < l.length := by omega
      have hw : IntKind.i64.wrap ((n : Int) - 1) = ((n - 1 : Nat) : Int) := by rw [wrap_id (by omega) (by omega)]; omega
      have hget : l[n - 1]? = some l[n - 1] := by simp [hlt]
      have hpos : (0 : Int) < (n : Int) := by omega
      rw [hw]
      simp only [hpos, decide_true, if_true, idx_nat, hget, Option.bind_some]
      by_cases hb : EdLt l[n - 1] e
      · have hbt := (before_t l[n - 1] e).2 hb
        refine ⟨.brk (n : Int), by simp [hbt], by simp, fun s' e' => ?_, by simp⟩
        cases e'
        refine ⟨n, rfl, hn, hge, fun j h hj => ?_⟩
        by_cases hj' : j = n - 1
        · subst hj'; exact hb
        · exact (hp j (n - 1) h hlt (by omega)).trans hb
      · have hbt : ref44_Before_t l[n - 1] e = false := by
          cases hx : ref44_Before_t l[n - 1] e with
          | false => rfl
          | true => exact absurd ((before_t _ _).1 hx) hb
        simp only [hbt, Bool.not_false, if_true]
        by_cases heq : l[n - 1] = e
        · have hq := (eqs_edge l[n - 1] e).2 heq
          refine ⟨.ret l, by simp [hq], by simp, by simp, fun r e' => ?_⟩
          cases e'
          exact ⟨rfl, heq ▸ List.getElem_mem hlt⟩
        · have hq : eqs [l[n - 1].From, l[n - 1].Label, l[n - 1].To] [e.From, e.Label, e.To] = false := by
            cases hx : eqs [l[n - 1].From, l[n - 1].Label, l[n - 1].To] [e.From, e.Label, e.To] with
            | false => rfl
            | true => exact absurd ((eqs_edge _ _).1 hx) heq
          refine ⟨.next ((n - 1 : Nat) : Int), by simp [hq], fun s' e' => ?_, by simp, by simp⟩
          cases e'
          refine ⟨⟨n - 1, rfl, by omega, fun j h hj => ?_⟩, by simp; omega⟩
          by_cases hj' : j = n - 1
          · subst hj'
            rcases EdLt.tri l[n - 1] e with h | h | h
            · exact absurd h hb
            · exact absurd h heq
            · exact h
          · exact hge j h (by omega)
  · rintro r ⟨rfl, he⟩
    exact Ok.ret ⟨hl, fun d => ⟨.inl, fun h => h.elim (fun h => h) (fun h => h ▸ he)⟩, by omega⟩
  · rintro at_ ⟨n, rfl, hn, hge, hlt⟩
    have hc1 : cut l 0 (n : Int) = some (l.take n) := by unfold cut; rw [if_pos (by omega)]; simp
    have hc2 : cut l (n : Int) (l.length : Int) = some (l.drop n) := by unfold cut; rw [if_pos (by omega)]; simp
    refine Ok.step hc1 (Ok.step (app_ok (by simp; omega)) (Ok.step (app_ok (by simp; omega)) (Ok.step hc2 (Ok.step (app_ok (by simp; omega)) (Ok.ret ⟨?_, ?_, ?_⟩)))))
    · simp only [List.nil_append]
      refine List.pairwise_append.2 ⟨List.pairwise_append.2 ⟨hl.sublist (List.take_sublist _ _), by simp, ?_⟩, hl.sublist (List.drop_sublist _ _), ?_⟩
      · intro a ha b hb
        simp only [List.mem_singleton] at hb
        subst hb
        obtain ⟨j, hj, rfl⟩ := List.mem_iff_getElem.1 ha
        simp only [List.getElem_take]
        simp only [List.length_take] at hj
        exact hlt j (by omega) (by omega)
      · intro a ha b hb
        obtain ⟨j, hj, rfl⟩ := List.mem_iff_getElem.1 hb
        simp only [List.length_drop] at hj
        have hb' : EdLt e l[n + j] := hge (n + j) (by omega) (by omega)
        simp only [List.getElem_drop]
        rcases List.mem_append.1 ha with ha | ha
        · obtain ⟨i, hi, rfl⟩ := List.mem_iff_getElem.1 ha
          simp only [List.getElem_take]
          simp only [List.length_take] at hi
          exact hp i (n + j) (by omega) (by omega) (by omega)
        · simp only [List.mem_singleton] at ha
          subst ha
          exact hb'
    · intro d
      simp only [List.nil_append, List.mem_append, List.mem_singleton]
      constructor
      · rintro ((h | h) | h)
        · exact .inl (List.mem_of_mem_take h)
        · exact .inr h
        · exact .inl (List.mem_of_mem_drop h)
      · rintro (h | h)
        · rw [← List.take_append_drop n l] at h
          rcases List.mem_append.1 h with h | h
          · exact .inl (.inl h)
          · exact .inr h
        · exact .inl (.inr h)
    · simp; omega
end Go.Pw
