/-
  The reference's system of a variable, in plain Lean.
-/
import Derived.Test.YtdhfofhginfdnaaAtPs
import Derived.Test.YtdhfofhginfdnaaAtTi
set_option maxHeartbeats 4000000
set_option linter.unusedSimpArgs false
set_option linter.unusedVariables false
namespace Go.Pw
theorem refGoal_loop (t : Task) (v a : Int) : Ok (forS (fun i102 => fun (goal100 : Bool) => (idx t.Goal (i102 : Int)).bind fun x103 =>
  some (goal100 && ((!decide (x103.Var = v)) || decide (x103.Val = a)))) (t.Goal.length) 0 true) fun b => b = true ↔ goalAt t v a := by
  refine Ok.forS (fun i b => b = true ↔ ∀ f ∈ t.Goal.take i, f.Var = v → f.Val = a) (by simp) ?_ ?_
  · rintro i b hi hb
    obtain ⟨x, hx⟩ := get_len hi
    simp only [idx_nat, hx, Option.bind_some]
    refine Ok.ret ?_
    rw [Bool.and_eq_true, hb, take_snoc hx, Bool.or_eq_true, Bool.not_eq_true', decide_eq_false_iff_not, decide_eq_true_iff]
    constructor
    · rintro ⟨h1, h2⟩ f hf hv
      rcases List.mem_append.1 hf with hf | hf
      · exact h1 f hf hv
      · simp only [List.mem_singleton] at hf; subst hf
        rcases h2 with h2 | h2
        · exact absurd hv h2
        · exact h2
    · intro h
      refine ⟨fun f hf hv => h f (by simp [hf]) hv, ?_⟩
      by_cases hv : x.Var = v
      · exact .inr (h x (by simp) hv)
      · exact .inl hv
  · intro b hb
    rw [List.take_length] at hb
    exact hb
theorem refAtomic_ok {t : Task} (ht : SmallT t) {v : Int} (h0 : 0 ≤ v) (h1 : v < (t.Vars.length : Int)) : Ok (ref44_Atomic_p t v) (AtomRes t v) := by
  have hd := dom_pos ht.g.v h0 h1
  have hno := ht.no
  have hp := ht.p
  have e1 : idx t.Vars v = some (dom t.Vars v) := var_idx h0 h1
  obtain ⟨x0, hx0, hx1, hx2⟩ := ht.g.init.at h0 h1
  have e2 : idx t.Init v = some x0 := by unfold idx; rw [if_pos h0, hx0]
  unfold ref44_Atomic_p
  simp only [e1, e2, Option.bind_some]
  rw [forS_list t.Ops (fun o => [o.Cost]) (s0 := [])]
  rotate_left
  · intro i o s hi hs
    have hlt := (List.getElem?_eq_some_iff.1 hi).1
    simp only [idx_nat, hi, Option.bind_some]
    rw [app_ok (by rw [hs, flat_one]; simp; omega)]
    rfl
  simp only [Option.bind_some, List.nil_append, flat_one]
  refine Ok.must (by simp; omega) (Ok.bind ?_)
  refine Ok.forS (fun a G => G.length = a ∧ ∀ b, b < a → ∃ z, G[b]? = some z ∧ (z = true ↔ goalAt t v b)) ⟨rfl, fun b hb => by omega⟩ ?_ ?_
  · rintro a G ha ⟨k1, k2⟩
    obtain ⟨b, hb, hb2⟩ := refGoal_loop t v (a : Int)
    refine Ok.step hb ?_
    rw [app_ok (by simp only [List.length_singleton]; omega)]
    simp only [Option.bind_some]
    refine Ok.ret ⟨by simp [k1], fun c hc => ?_⟩
    by_cases e : c = a
    · subst e
      exact ⟨_, by rw [List.getElem?_append_right (by omega), k1, Nat.sub_self]; rfl, hb2⟩
    · rw [List.getElem?_append_left (by omega)]
      exact k2 c (by omega)
  rintro G ⟨k1, k2⟩
  rw [states_ok ht.g.v ht.g.nv (by omega)]
  have hL := statesL_len (vars := t.Vars) fun x hx => by have := ht.g.v x hx; omega
  have hLm : ∀ s, s ∈ statesL t.Vars ↔ StateOK t.Vars s := fun s => statesL_mem
  generalize statesL t.Vars = L at *
  simp only [Option.bind_some]
  refine Ok.bind (Ok.forS (fun j E => Srt E ∧ (∀ e, e ∈ E ↔ ∃ (i : Nat) (o : Op) (σ : List Int), t.Ops[i]? = some o ∧ e.Label = (i : Int) ∧ σ ∈ L.take j ∧ σ[v.toNat]? = some e.From ∧ hold o.Pre σ ∧ e.To = effV o.Effs v σ) ∧ E.length ≤ j * 20) ⟨List.Pairwise.nil, by simp, by simp⟩ ?_ ?_)
  · rintro j E hj ⟨f1, f2, f3⟩
    obtain ⟨σ, hσ⟩ := get_len hj
    have hσm := List.mem_of_getElem? hσ
    have hok := (hLm σ).1 hσm
    obtain ⟨y, hy, hy0, hy1⟩ := hok.at h0 h1
    simp only [idx_nat, hσ, Option.bind_some]
    refine Ok.bind (Ok.forS (fun i E' => Srt E' ∧ (∀ e, e ∈ E' ↔ e ∈ E ∨ ∃ (k : Nat) (o : Op), k < i ∧ t.Ops[k]? = some o ∧ e.Label = (k : Int) ∧ σ[v.toNat]? = some e.From ∧ hold o.Pre σ ∧ e.To = effV o.Effs v σ) ∧ E'.length ≤ E.length + i) ⟨f1, fun e => ⟨fun h => .inl h, fun h => ?_⟩, by simp⟩ ?_ ?_)
    · rcases h with h | ⟨k, _, hk, _⟩
      · exact h
      · omega
    · rintro i E' hi ⟨g1, g2, g3⟩
      obtain ⟨o, ho⟩ := get_len hi
      have hop := ht.g.op o (List.mem_of_getElem? ho)
      obtain ⟨r, hr, hr1, hr2⟩ := apply_ok ht.g ho hok
      rw [hr]
      simp only [Option.bind_some]
      have hnew : ∀ e : Edge, (∃ (k : Nat) (o' : Op), k < i + 1 ∧ t.Ops[k]? = some o' ∧ e.Label = (k : Int) ∧ σ[v.toNat]? = some e.From ∧ hold o'.Pre σ ∧ e.To = effV o'.Effs v σ) ↔
          (∃ (k : Nat) (o' : Op), k < i ∧ t.Ops[k]? = some o' ∧ e.Label = (k : Int) ∧ σ[v.toNat]? = some e.From ∧ hold o'.Pre σ ∧ e.To = effV o'.Effs v σ) ∨ (hold o.Pre σ ∧ e = ⟨y, (i : Int), effV o.Effs v σ⟩) := by
        intro e
        constructor
        · rintro ⟨k, o', hk, ho', h2, h3, h4, h5⟩
          by_cases he : k = i
          · subst he
            rw [ho] at ho'; cases ho'
            rw [hy] at h3
            refine .inr ⟨h4, ?_⟩
            cases e
            simp only at *
            rw [h2, h5, ← Zu h3]
          · exact .inl ⟨k, o', by omega, ho', h2, h3, h4, h5⟩
        · rintro (⟨k, o', hk, ho', h⟩ | ⟨h2, rfl⟩)
          · exact ⟨k, o', by omega, ho', h⟩
          · exact ⟨i, o, by omega, ho, rfl, hy, h2, rfl⟩
      by_cases hh : hold o.Pre σ
      · rw [hr1 hh]
        have hat := applyL_at hok h0 h1 (effs := o.Effs) fun e he => (hop.eff e he).2
        have i1 : idx σ v = some y := by unfold idx; rw [if_pos h0, hy]
        have i2 : idx (applyL o.Effs σ) v = some (effV o.Effs v σ) := by unfold idx; rw [if_pos h0, hat]
        simp only [un2, if_true, i1, i2, Option.bind_some]
        obtain ⟨E2, hE2, q1, q2, q3⟩ := insert_spec (l := E') (e := ⟨y, (i : Int), effV o.Effs v σ⟩) g1 (by omega)
        rw [hE2]
        simp only [Option.bind_some]
        refine Ok.ret ⟨q1, fun e => ?_, by omega⟩
        rw [q2, g2, hnew]
        constructor
        · rintro ((h | h) | h)
          · exact .inl h
          · exact .inr (.inl h)
          · exact .inr (.inr ⟨hh, h⟩)
        · rintro (h | h | ⟨_, h⟩)
          · exact .inl (.inl h)
          · exact .inl (.inr h)
          · exact .inr h
      · rw [hr2 hh]
        simp only [un2, Bool.false_eq_true, if_false, Option.bind_some]
        refine Ok.ret ⟨g1, fun e => ?_, by omega⟩
        rw [g2, hnew]
        constructor
        · rintro (h | h)
          · exact .inl h
          · exact .inr (.inl h)
        · rintro (h | h | ⟨h, _⟩)
          · exact .inl h
          · exact .inr h
          · exact absurd h hh
    · rintro E' ⟨g1, g2, g3⟩
      refine Ok.ret ⟨g1, fun e => ?_, by rw [Nat.succ_mul]; omega⟩
      rw [g2, f2, take_snoc hσ]
      constructor
      · rintro (⟨i, o, σ', a1, a2, a3, a4⟩ | ⟨k, o, _, a1, a2, a3⟩)
        · exact ⟨i, o, σ', a1, a2, List.mem_append_left _ a3, a4⟩
        · exact ⟨k, o, σ, a1, a2, by simp, a3⟩
      · rintro ⟨i, o, σ', a1, a2, a3, a4⟩
        rcases List.mem_append.1 a3 with a3 | a3
        · exact .inl ⟨i, o, σ', a1, a2, a3, a4⟩
        · simp only [List.mem_singleton] at a3; subst a3
          exact .inr ⟨i, o, (List.getElem?_eq_some_iff.1 a1).1, a1, a2, a4⟩
  · rintro E ⟨f1, f2, f3⟩
    rw [List.take_length] at f2
    refine Ok.ret ⟨rfl, hx0, rfl, by simp only; omega, fun a ha => k2 a (by omega), f1, fun e => ?_⟩
    simp only
    rw [f2]
    constructor
    · rintro ⟨i, o, σ, a1, a2, a3, a4, a5, a6⟩
      exact ⟨i, o, a1, a2, σ, (hLm σ).1 a3, a4, a5, a6⟩
    · rintro ⟨i, o, a1, a2, σ, a3, a4, a5, a6⟩
      exact ⟨i, o, σ, a1, a2, (hLm σ).2 a3, a4, a5, a6⟩
end Go.Pw
