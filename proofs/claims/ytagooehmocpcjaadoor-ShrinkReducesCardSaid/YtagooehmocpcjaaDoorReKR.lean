/-
  The statement on labels, in plain Lean: it holds of every list of systems and every number.
-/
import Derived.Test.YtagooehmocpcjaaDoorReRr
import Derived.Test.YtagooehmocpcjaaDoorReA
set_option maxHeartbeats 4000000
set_option maxRecDepth 100000
set_option linter.unusedSimpArgs false
set_option linter.unusedVariables false
namespace Go.Pw
/-- A system of the list that is not right, or of other costs than the first one. -/
def badAt (list : List System) (x0 : System) (j : Nat) : Prop := ∃ x, list[j]? = some x ∧ ¬ (VSys x ∧ x.Costs = x0.Costs)
open Classical in
theorem reduces_law (list : List System) (k : Int) : law45_ShrinkReduces_p list k = some true := by
  unfold law45_ShrinkReduces_p
  simp only [awake_ok, Option.bind_some, Bool.not_true, Bool.false_eq_true, if_false]
  by_cases hn : 4 < (list.length : Int)
  · simp [hn]
  · simp only [hn, decide_false, Bool.false_eq_true, if_false]
    refine Ok.eq (Ok.ctl (fun i _ => ∀ j x, j < i → list[j]? = some x → (VSys x → x.States ≤ 20) ∧ x.Edges.length ≤ 80 ∧ x.Costs.length ≤ 20) (fun r => r = true) (fun j x h => absurd h (Nat.not_lt_zero _)) ?_ (fun r hr => by rw [hr]; exact Ok.ret rfl) ?_)
    · rintro i _ hi hI
      obtain ⟨x, hx⟩ := get_some hi
      simp only [idx_nat, hx, Option.bind_some]
      refine Ok.bind ((large_ok x).mono ?_)
      intro b hb
      cases b with
      | true => simp only [if_true]; exact Ok.ret rfl
      | false =>
        simp only [Bool.false_eq_true, if_false]
        refine Ok.ret fun j y hj hy => ?_
        by_cases e : j = i
        · subst e
          rw [hx] at hy; cases hy
          have := hb rfl
          exact ⟨this.1, this.2.2.1, this.2.2.2⟩
        · exact hI j y (by omega) hy
    · rintro _ hI
      suffices hmain : ∃ (out : List Int) (e : Option Int) (out' : List Int) (code : Int), shrink_Reduce_p list k = some (out, e) ∧ ref45_Reduce_p list k = some (out', code) ∧ out = out' ∧ base_Num_t e = code by
        obtain ⟨out, e, out', code, h1, h2, h3, h4⟩ := hmain
        rw [h1, h2]
        simp [un2, Ints_i, h3, h4]
        exact Ok.ret rfl
      have numN : base_Num_t none = 0 := by
        have h := base_Num_tot none
        unfold base_Num_p at h
        simpa using (Option.some.inj h).symm
      by_cases hbad : ∃ x0 j, list[0]? = some x0 ∧ badAt list x0 j
      · -- the first such system ends both loops
        obtain ⟨x0, j, hx0, hj⟩ := hbad
        have hi0 : idx list 0 = some x0 := by rw [show (0 : Int) = ((0 : Nat) : Int) from rfl, idx_nat, hx0]
        have hpt : ∀ j, j < list.length → ∃ x, list[j]? = some x := fun j hj => get_some hj
        refine ⟨[], some 2, [], 2, ?_, ?_, rfl, num_t 2⟩
        · unfold shrink_Reduce_p
          rw [ctl_all (p := fun j => !decide (badAt list x0 j)) (r := ([], some 2)) ?_]
          · rw [if_neg]
            intro hall
            obtain ⟨x, hx, hb⟩ := hj
            have := List.all_eq_true.1 hall j (by have := (List.getElem?_eq_some_iff.1 hx).1; simpa using this)
            simp only [Bool.not_eq_true', decide_eq_false_iff_not] at this
            exact this ⟨x, hx, hb⟩
          · intro q hq
            obtain ⟨x, hx⟩ := hpt q hq
            have hbi : badAt list x0 q ↔ ¬ (VSys x ∧ x.Costs = x0.Costs) := ⟨fun ⟨y, hy, hb⟩ => by rw [hx] at hy; cases hy; exact hb, fun h => ⟨x, hx, h⟩⟩
            simp only [idx_nat, hx, Option.bind_some, tV, hi0, Equal_eq']
            by_cases hv : VSys x
            · by_cases hc : x.Costs = x0.Costs
              · have : ¬ badAt list x0 q := fun h => hbi.1 h ⟨hv, hc⟩
                simp [valB_iff.2 hv, hc, this]
              · have : badAt list x0 q := hbi.2 fun h => hc h.2
                simp [valB_iff.2 hv, hc, this]
            · have : badAt list x0 q := hbi.2 fun h => hv h.1
              simp [vnot hv, this]
        · unfold ref45_Reduce_p
          rw [ctl_all (p := fun j => !decide (badAt list x0 j)) (r := ([], 2)) ?_]
          · rw [if_neg]
            intro hall
            obtain ⟨x, hx, hb⟩ := hj
            have := List.all_eq_true.1 hall j (by have := (List.getElem?_eq_some_iff.1 hx).1; simpa using this)
            simp only [Bool.not_eq_true', decide_eq_false_iff_not] at this
            exact this ⟨x, hx, hb⟩
          · intro q hq
            obtain ⟨x, hx⟩ := hpt q hq
            have hbi : badAt list x0 q ↔ ¬ (VSys x ∧ x.Costs = x0.Costs) := ⟨fun ⟨y, hy, hb⟩ => by rw [hx] at hy; cases hy; exact hb, fun h => ⟨x, hx, h⟩⟩
            simp only [idx_nat, hx, Option.bind_some, rV, hi0, Ints_i]
            by_cases hv : VSys x
            · by_cases hc : x.Costs = x0.Costs
              · have : ¬ badAt list x0 q := fun h => hbi.1 h ⟨hv, hc⟩
                simp [valB_iff.2 hv, hc, this]
              · have : badAt list x0 q := hbi.2 fun h => hc h.2
                simp [valB_iff.2 hv, hc, this]
            · have : badAt list x0 q := hbi.2 fun h => hv h.1
              simp [vnot hv, this]
      · -- all are right
        have hall : ∀ x0, list[0]? = some x0 → ∀ x ∈ list, VSys x ∧ x.Costs = x0.Costs := by
          intro x0 hx0 x hx
          obtain ⟨j, hj⟩ := List.mem_iff_getElem?.1 hx
          apply Classical.byContradiction
          intro h
          exact hbad ⟨x0, j, hx0, x, hj, h⟩
        by_cases hk : k < 0 ∨ (list.length : Int) ≤ k
        · refine ⟨[], some 1, [], 1, ?_, ?_, rfl, num_t 1⟩
          · unfold shrink_Reduce_p
            rw [ctl_all (p := fun _ => true) (r := ([], some 2)) ?_]
            · rw [if_pos (by simp), if_pos (by simpa using hk)]
            · intro q hq
              obtain ⟨x, hx⟩ := get_some hq
              obtain ⟨x0, hx0⟩ := get_some (show 0 < list.length by omega)
              have hi0 : idx list 0 = some x0 := by rw [show (0 : Int) = ((0 : Nat) : Int) from rfl, idx_nat, hx0]
              obtain ⟨a1, a2⟩ := hall x0 hx0 x (List.mem_of_getElem? hx)
              simp only [idx_nat, hx, Option.bind_some, tV, hi0, Equal_eq', valB_iff.2 a1, a2, decide_true, Bool.not_true, Bool.false_eq_true, if_false, if_true]
          · unfold ref45_Reduce_p
            rw [ctl_all (p := fun _ => true) (r := ([], 2)) ?_]
            · rw [if_pos (by simp), if_pos (by simpa using hk)]
            · intro q hq
              obtain ⟨x, hx⟩ := get_some hq
              obtain ⟨x0, hx0⟩ := get_some (show 0 < list.length by omega)
              have hi0 : idx list 0 = some x0 := by rw [show (0 : Int) = ((0 : Nat) : Int) from rfl, idx_nat, hx0]
              obtain ⟨a1, a2⟩ := hall x0 hx0 x (List.mem_of_getElem? hx)
              simp only [idx_nat, hx, Option.bind_some, rV, hi0, Ints_i, valB_iff.2 a1, a2, decide_true, Bool.not_true, Bool.false_eq_true, if_false, if_true]
        · obtain ⟨kn, hkn⟩ : ∃ kn : Nat, k = (kn : Int) := ⟨k.toNat, by omega⟩
          subst hkn
          have hkl : kn < list.length := by omega
          obtain ⟨x0, hx0⟩ := get_some (show 0 < list.length by omega)
          have hA := hall x0 hx0
          have hget : ∀ x ∈ list, (VSys x → x.States ≤ 20) ∧ x.Edges.length ≤ 80 ∧ x.Costs.length ≤ 20 := by
            intro x hx
            obtain ⟨j, hj⟩ := List.mem_iff_getElem?.1 hx
            exact hI j x (List.getElem?_eq_some_iff.1 hj).1 hj
          have hL : LOK list x0.Costs := ⟨fun x hx => (hA x hx).1, fun x hx => by have := (hget x hx).1 (hA x hx).1; omega, fun x hx => (hget x hx).2.1, fun x hx => (hA x hx).2, by omega⟩
          have hc20 := (hget x0 (List.mem_of_getElem? hx0)).2.2
          obtain ⟨⟨out, e⟩, h1, h2, h3⟩ := reduce_ok hL hkl (by omega)
          obtain ⟨⟨out', code⟩, h4, h5, h6⟩ := refReduce_ok hL hkl (by omega)
          simp only at h2 h3 h5 h6
          subst h2 h5
          exact ⟨out, none, out', 0, h1, h4, h3.uniq (redR_eqv _ _ _ _) h6, numN⟩
end Go.Pw
