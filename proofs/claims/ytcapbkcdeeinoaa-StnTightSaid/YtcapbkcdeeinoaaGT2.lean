/-
  Plain Lean: networks made of bounds; loops without a count.
-/
import Derived.Test.YtcapbkcdeeinoaaGT1
namespace Go.Pw

/-- A loop that counts down to its end. -/
theorem Ok.down {S R β : Type} {B : S → Option (Ctl S R)} {Q : S → Prop} {P : β → Prop} {kr : R → Option β} {ks : S → Option β} (Inv : Nat → S → Prop)
    (step : ∀ j s, Inv (j + 1) s → Ok (B s) (fun c => ∃ s', c = .next s' ∧ Inv j s')) (stop : ∀ s, Inv 0 s → Ok (B s) (fun c => ∃ s', c = .brk s' ∧ Q s')) (hk : ∀ s, Q s → Ok (ks s) P) :
    ∀ (k : Nat) (s : S), Inv k s → Ok (Go.Pw.ctl (whileC B s) kr ks) P
  | 0, s, h => by
    obtain ⟨_, e, s', rfl, hq⟩ := stop s h
    unfold Go.Pw.ctl
    rw [whileC_stop e (by intro _ h; cases h)]
    exact hk s' hq
  | k + 1, s, h => by
    obtain ⟨_, e, s', rfl, hi⟩ := step k s h
    rw [whileC_next e]
    exact Ok.down Inv step stop hk k s' hi

section
variable {n : Nat} {E E' : List Bound} {d : List (List Int)} {b : Bound}
theorem GrOf.sub (h : ∀ b ∈ E, b ∈ E') : ∀ i j c, GrOf E i j c → GrOf E' i j c := fun _ _ _ ⟨b, hb, k⟩ => ⟨b, h b hb, k⟩
/-- Bounds among those that hold together are accepted. -/
theorem Add_in (hn : n ≤ 32) {f : MM} (hcl : Cl (GrOf E') n n f) (hdi : ∀ i, i < n → f i i = 0) (h : Net n E d) (hb : Rt n b) (hs : ∀ i j w L, Wk (GrOf (E ++ [b])) i j w L → ∃ L', Wk (GrOf E') i j w L') :
    Ok (stn_Network_Add_p ⟨d⟩ b) (fun r => ∃ d', r = (none, d') ∧ Net n (E ++ [b]) d') := by
  refine (Add_ok hn h b).mono ?_
  rintro r (⟨h1, _⟩ | ⟨_, ⟨i, w, L, hi, hw, hlt⟩, _⟩ | ⟨_, h2, h3⟩)
  · exact absurd hb h1
  · obtain ⟨L', hw'⟩ := hs _ _ _ _ hw
    exact absurd (hcl.noneg hdi hw' hi) (by omega)
  · exact ⟨r.2, by rw [← h2], h3⟩
/-- What a network of given bounds is. -/
theorem made_ok (hn : n ≤ 32) (hn0 : 0 < n) (bounds : List Bound) : Ok (law54_made_p (n : Int) bounds) (fun r => r = (none, false) ∨ ∃ d, r = (some ⟨d⟩, true) ∧ Net n bounds d) := by
  unfold law54_made_p
  refine Ok.bind ((New_ok hn0 (by omega)).mono ?_)
  rintro _ ⟨d0, rfl, hd0⟩
  simp only [un2, optC, Option.isSome_none, Bool.false_and, Bool.false_eq_true, if_false]
  refine Ok.ctl (fun i d => Net n (bounds.take i) d) (fun r => r = (none, false)) (Net.new hd0) ?_ (fun r h => Ok.ret (.inl h)) ?_
  · intro i d hi hnet
    obtain ⟨b, hb⟩ : ∃ b, bounds[i]? = some b := ⟨bounds[i], by simp [hi]⟩
    refine Ok.step (by rw [idx_nat]; exact hb) (Ok.bind ((Add_ok hn hnet b).mono ?_))
    rintro r (⟨_, rfl⟩ | ⟨_, _, rfl⟩ | ⟨_, h2, h3⟩)
    · exact Ok.ret rfl
    · exact Ok.ret rfl
    · obtain ⟨r1, r2⟩ := r
      simp only at h2
      subst h2
      refine Ok.ret ?_
      show Net n (bounds.take (i + 1)) r2
      rw [List.take_add_one, hb]
      exact h3
  · intro d hnet
    rw [List.take_of_length_le (Nat.le_refl _)] at hnet
    exact Ok.ret (.inr ⟨d, rfl, hnet⟩)
end
end Go.Pw
