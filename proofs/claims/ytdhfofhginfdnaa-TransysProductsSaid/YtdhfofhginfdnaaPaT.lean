/-
  The reference's product, in plain Lean.
-/
import Derived.Test.YtdhfofhginfdnaaPaU
import Derived.Test.YtdhfofhginfdnaaPaW
set_option maxHeartbeats 4000000
set_option linter.unusedSimpArgs false
set_option linter.unusedVariables false
namespace Go.Pw
/-- The reference's insertion. -/
theorem insert_spec {l : List Edge} {e : Edge} (hl : Srt l) (hlen : l.length ≤ 1000000) : Ok (ref44_Insert_p l e) fun k => Srt k ∧ (∀ d, d ∈ k ↔ d ∈ l ∨ d = e) ∧ k.length ≤ l.length + 1 := by
  unfold ref44_Insert_p
  have hp := List.pairwise_iff_getElem.1 hl
  refine Ok.while (fun at_ : Int => ∃ n : Nat, at_ = (n : Int) ∧ n ≤ l.length ∧ ∀ j (h : j < l.length), n ≤ j → EdLt e l[j]) (fun at_ => ∃ n : Nat, at_ = (n : Int) ∧ n ≤ l.length ∧ (∀ j (h : j < l.length), n ≤ j → EdLt e l[j]) ∧ ∀ j (h : j < l.length), j < n → EdLt l[j] e)
    (fun r => r = l ∧ e ∈ l) (fun at_ => at_.toNat) ⟨l.length, rfl, Nat.le_refl _, fun j h h' => absurd h (by omega)⟩ ?_ ?_ ?_
  · rintro at_ ⟨n, rfl, hn, hge⟩
    by_cases h0 : n = 0
    · subst h0
      exact ⟨.brk ((0 : Nat) : Int), by simp, by simp, fun s' e' => by cases e'; exact ⟨0, rfl, by omega, hge, fun j h h' => absurd h' (by omega)⟩, by simp⟩
    · have hlt : n - 1 < l.length := by omega
      have hw : IntKind.i64.wrap ((n : Int) - 1) = ((n - 1 : Nat) : Int) := by rw [wrap_id (by omega) (by omega)]; omega
      have hget : l[n - 1]? = some l[n - 1] := by simp [hlt]
      have hpos : (0 : Int) < (n : Int) := by omega
      rw [hw]
      simp only [hpos, decide_true, if_true, idx_nat, hget, Option.bind_some]
      by_cases hb : EdLt l[n - 1] e
      · have hbt := (before_t l[n - 1] e).2 hb
        refine ⟨.brk (n : Int), by simp [hbt], by simp, fun s' e' => ?_, by simp⟩
        cases e'
        refine ⟨n, rfl, hn, hge, fun j h hj => ?_⟩
        by_cases hj' : j = n - 1
        · subst hj'; exact hb
        · exact (hp j (n - 1) h hlt (by omega)).trans hb
      · have hbt : ref44_Before_t l[n - 1] e = false := by
          cases hx : ref44_Before_t l[n - 1] e with
          | false => rfl
          | true => exact absurd ((before_t _ _).1 hx) hb
        simp only [hbt, Bool.not_false, if_true]
        by_cases heq : l[n - 1] = e
        · have hq := (eqs_edge l[n - 1] e).2 heq
          refine ⟨.ret l, by simp [hq], by simp, by simp, fun r e' => ?_⟩
          cases e'
          exact ⟨rfl, heq ▸ List.getElem_mem hlt⟩
        · have hq : eqs [l[n - 1].From, l[n - 1].Label, l[n - 1].To] [e.From, e.Label, e.To] = false := by
            cases hx : eqs [l[n - 1].From, l[n - 1].Label, l[n - 1].To] [e.From, e.Label, e.To] with
            | false => rfl
            | true => exact absurd ((eqs_edge _ _).1 hx) heq
          refine ⟨.next ((n - 1 : Nat) : Int), by simp [hq], fun s' e' => ?_, by simp, by simp⟩
          cases e'
          refine ⟨⟨n - 1, rfl, by omega, fun j h hj => ?_⟩, by simp; omega⟩
          by_cases hj' : j = n - 1
          · subst hj'
            rcases EdLt.tri l[n - 1] e with h | h | h
            · exact absurd h hb
            · exact absurd h heq
            · exact h
          · exact hge j h (by omega)
  · rintro r ⟨rfl, he⟩
    exact Ok.ret ⟨hl, fun d => ⟨.inl, fun h => h.elim (fun h => h) (fun h => h ▸ he)⟩, by omega⟩
  · rintro at_ ⟨n, rfl, hn, hge, hlt⟩
    have hc1 : cut l 0 (n : Int) = some (l.take n) := by unfold cut; rw [if_pos (by omega)]; simp
    have hc2 : cut l (n : Int) (l.length : Int) = some (l.drop n) := by unfold cut; rw [if_pos (by omega)]; simp
    refine Ok.step hc1 (Ok.step (app_ok (by simp; omega)) (Ok.step (app_ok (by simp; omega)) (Ok.step hc2 (Ok.step (app_ok (by simp; omega)) (Ok.ret ⟨?_, ?_, ?_⟩)))))
    · simp only [List.nil_append]
      refine List.pairwise_append.2 ⟨List.pairwise_append.2 ⟨hl.sublist (List.take_sublist _ _), by simp, ?_⟩, hl.sublist (List.drop_sublist _ _), ?_⟩
      · intro a ha b hb
        simp only [List.mem_singleton] at hb
        subst hb
        obtain ⟨j, hj, rfl⟩ := List.mem_iff_getElem.1 ha
        simp only [List.getElem_take]
        simp only [List.length_take] at hj
        exact hlt j (by omega) (by omega)
      · intro a ha b hb
        obtain ⟨j, hj, rfl⟩ := List.mem_iff_getElem.1 hb
        simp only [List.length_drop] at hj
        have hb' : EdLt e l[n + j] := hge (n + j) (by omega) (by omega)
        simp only [List.getElem_drop]
        rcases List.mem_append.1 ha with ha | ha
        · obtain ⟨i, hi, rfl⟩ := List.mem_iff_getElem.1 ha
          simp only [List.getElem_take]
          simp only [List.length_take] at hi
          exact hp i (n + j) (by omega) (by omega) (by omega)
        · simp only [List.mem_singleton] at ha
          subst ha
          exact hb'
    · intro d
      simp only [List.nil_append, List.mem_append, List.mem_singleton]
      constructor
      · rintro ((h | h) | h)
        · exact .inl (List.mem_of_mem_take h)
        · exact .inr h
        · exact .inl (List.mem_of_mem_drop h)
      · rintro (h | h)
        · rw [← List.take_append_drop n l] at h
          rcases List.mem_append.1 h with h | h
          · exact .inl (.inl h)
          · exact .inr h
        · exact .inl (.inr h)
    · simp; omega
theorem refProduct_ok {a b : System} (ha : VSys a) (hb : VSys b) (hc : a.Costs = b.Costs) (hs : a.States * b.States ≤ 4096) (hm : a.Edges.length * b.Edges.length ≤ 65536) :
    Ok (ref44_Product_p a b) fun r => r.1 = 0 ∧ ProdRes a b r.2 := by
  unfold ref44_Product_p
  have va := valB_iff.2 ha
  have vb := valB_iff.2 hb
  simp only [rV, va, vb, Ints_p, hc, Option.bind_some, Bool.not_true, Bool.false_eq_true, if_false, decide_true]
  have s1 := ha.s1; have s2 := ha.s2; have s3 := hb.s1; have s4 := hb.s2; have i0 := ha.i0; have i1 := ha.i1; have j0 := hb.i0; have j1 := hb.i1
  have g1 := ha.g; have g2 := hb.g; have c1 := ha.c; have c2 := hb.c; have e1 := ha.e; have e2 := hb.e
  have m1 := mul_bd (x := a.States) (n := b.States) (by omega) (by omega) (by omega) (by omega)
  have m2 := mul_bd (x := a.Init) (n := b.States) (by omega) (by omega) (by omega) (by omega)
  have w1 : IntKind.i64.wrap (a.States * b.States) = a.States * b.States := wrap_id (by omega) (by omega)
  have w2 : IntKind.i64.wrap (a.Init * b.States) = a.Init * b.States := wrap_id (by omega) (by omega)
  have w3 : IntKind.i64.wrap (a.Init * b.States + b.Init) = a.Init * b.States + b.Init := wrap_id (by omega) (by omega)
  rw [w1, w2, w3]
  have hng : ¬ 4096 < a.States * b.States := by omega
  simp only [hng, decide_false, Bool.false_eq_true, if_false]
  refine Ok.step (app_ok (by simp; omega)) ?_
  rw [goals_loop a b (by omega) (by omega) _ (fun _ _ => rfl)]
  simp only [Option.bind_some, List.nil_append]
  refine Ok.bind (Ok.forS (fun i s => Srt s ∧ s.length ≤ i * b.Edges.length ∧ ∀ e, e ∈ s ↔ ∃ d ∈ a.Edges.take i, ∃ f ∈ b.Edges, d.Label = f.Label ∧ e = mkE b.States d.Label d f) ?_ ?_ ?_)
  · exact ⟨List.Pairwise.nil, by simp, by simp⟩
  · rintro i s hi ⟨h1, h2, h3⟩
    obtain ⟨d, hd⟩ := get_len hi
    have hdm := List.mem_of_getElem? hd
    rw [idx_nat, hd]
    simp only [Option.bind_some]
    have hib : i * b.Edges.length ≤ 65536 := Nat.le_trans (Nat.mul_le_mul_right _ (Nat.le_of_lt hi)) hm
    refine Ok.bind (Ok.forS (fun j t => Srt t ∧ t.length ≤ i * b.Edges.length + j ∧ ∀ e, e ∈ t ↔ e ∈ s ∨ ∃ f ∈ b.Edges.take j, d.Label = f.Label ∧ e = mkE b.States d.Label d f) ?_ ?_ ?_)
    · exact ⟨h1, by omega, by simp⟩
    · rintro j t hj ⟨k1, k2, k3⟩
      obtain ⟨f, hf⟩ := get_len hj
      have hfm := List.mem_of_getElem? hf
      rw [idx_nat, hf]
      simp only [Option.bind_some]
      by_cases hl : d.Label = f.Label
      · simp only [hl, decide_true, if_true]
        rw [← hl, mkE_wrap ha hb hdm hfm]
        obtain ⟨t', ht1, ht2, ht3, ht4⟩ := insert_spec (e := mkE b.States d.Label d f) k1 (by omega)
        rw [ht1]
        simp only [Option.bind_some]
        refine Ok.ret ⟨ht2, by omega, fun e => ?_⟩
        rw [ht3, k3, List.take_add_one, hf]
        simp only [List.mem_append, Option.toList_some, List.mem_singleton, exists_or, or_and_right, exists_eq_left]
        constructor
        · rintro ((h | h) | h)
          · exact .inl h
          · exact .inr (.inl h)
          · exact .inr (.inr ⟨hl, h⟩)
        · rintro (h | h | ⟨_, h⟩)
          · exact .inl (.inl h)
          · exact .inl (.inr h)
          · exact .inr h
      · simp only [hl, decide_false, Bool.false_eq_true, if_false, Option.bind_some]
        refine Ok.ret ⟨k1, by omega, fun e => ?_⟩
        rw [k3, List.take_add_one, hf]
        simp only [List.mem_append, Option.toList_some, List.mem_singleton, exists_or, or_and_right, exists_eq_left]
        constructor
        · rintro (h | h)
          · exact .inl h
          · exact .inr (.inl h)
        · rintro (h | h | ⟨h, _⟩)
          · exact .inl h
          · exact .inr h
          · exact absurd h hl
    · rintro t ⟨k1, k2, k3⟩
      refine Ok.ret ⟨k1, by rw [Nat.add_mul, Nat.one_mul]; exact k2, fun e => ?_⟩
      rw [k3, h3, List.take_length, List.take_add_one, hd]
      simp only [List.mem_append, Option.toList_some, List.mem_singleton, exists_or, or_and_right, exists_eq_left]
  · rintro s ⟨h1, h2, h3⟩
    have hno : ¬ 65536 < (s.length : Int) := by omega
    simp only [hno, decide_false, Bool.false_eq_true, if_false]
    refine Ok.ret ⟨rfl, rfl, rfl, hc.symm, rfl, h1, fun e => ?_⟩
    rw [h3, List.take_length]
    rfl

end Go.Pw
