/-
  Simple temporal networks, what the code does (as stn2/T1, T2, T3, TightQ, for 128 points).
-/
import Derived.Test.YtoofdhjblbnppaaGreatYzP
import Derived.Test.YtoofdhjblbnppaaGreatG0t
set_option linter.unusedVariables false
set_option linter.unusedSimpArgs false
set_option linter.unusedSectionVars false
namespace Go.Pw
/-! ### the reference's distances -/
def GrOf (E : List Bound) : Gr := fun i j c => ∃ b ∈ E, b.A = (i : Int) ∧ b.B = (j : Int) ∧ b.Most = c
def Rt (n : Nat) (b : Bound) : Prop := 0 ≤ b.A ∧ b.A < n ∧ 0 ≤ b.B ∧ b.B < n ∧ -1099511627776 ≤ b.Most ∧ b.Most ≤ 1099511627776
theorem GrOf.ok {n : Nat} {E : List Bound} (h : ∀ b ∈ E, Rt n b) : GrOK (GrOf E) n := by
  rintro i j c ⟨b, hb, h1, h2, h3⟩
  obtain ⟨a1, a2, a3, a4, a5, a6⟩ := h b hb
  omega
/-- The table of the bounds alone. -/
structure Fst (n : Nat) (E : List Bound) (f : MM) : Prop where
  le : ∀ i j, i < n → j < n → f i j ≤ 1125899906842624
  small : ∀ i j, i < n → j < n → f i j < 1125899906842624 → -1099511627776 ≤ f i j ∧ f i j ≤ 1099511627776
  diag : ∀ i, i < n → f i i ≤ 0
  edge : ∀ i j c, GrOf E i j c → f i j ≤ c
  wk : ∀ i j, i < n → j < n → f i j < 1125899906842624 → (i = j ∧ f i j = 0) ∨ GrOf E i j (f i j)
theorem Fst.cl {n : Nat} {E : List Bound} {f : MM} (h : Fst n E f) (hE : ∀ b ∈ E, Rt n b) : Cl (GrOf E) n 0 f where
  ok := GrOf.ok hE
  kn := Nat.zero_le _
  le := h.le
  bnd i j hi hj hf := by have := h.small i j hi hj hf; omega
  diag := h.diag
  edge := h.edge
  tri x hx := by omega
  snd i j hi hj hf := by
    rcases h.wk i j hi hj hf with ⟨rfl, h0⟩ | h1
    · rw [h0]; exact ⟨[], .nil _, by simp⟩
    · exact ⟨[i], .one h1, by simp⟩
theorem Fst.add {n : Nat} {E : List Bound} {f : MM} (h : Fst n E f) {b : Bound} (hb : Rt n b) {i j : Nat} (hi : b.A = (i : Int)) (hj : b.B = (j : Int)) : Fst n (E ++ [b]) (updM f i j (min (f i j) b.Most)) := by
  obtain ⟨a1, a2, a3, a4, a5, a6⟩ := hb
  refine ⟨?_, ?_, ?_, ?_, ?_⟩
  · intro i' j' hi' hj'
    have := h.le i' j' hi' hj'
    unfold updM; split
    · rename_i e; obtain ⟨rfl, rfl⟩ := e; omega
    · exact this
  · intro i' j' hi' hj' hf
    have := h.small i' j' hi' hj'
    unfold updM at hf ⊢; split
    · rename_i e; rw [if_pos e] at hf; obtain ⟨rfl, rfl⟩ := e
      by_cases q : f i' j' < 1125899906842624
      · have := this q; omega
      · omega
    · rename_i e; rw [if_neg e] at hf; exact this hf
  · intro i' hi'
    have := h.diag i' hi'
    unfold updM; split
    · rename_i e; obtain ⟨rfl, e2⟩ := e; rw [← e2]; omega
    · exact this
  · rintro i' j' c ⟨b', hb', k1, k2, k3⟩
    rcases List.mem_append.1 hb' with hb' | hb'
    · have := h.edge i' j' c ⟨b', hb', k1, k2, k3⟩
      unfold updM; split
      · rename_i e; obtain ⟨rfl, rfl⟩ := e; omega
      · exact this
    · have : b' = b := by simpa using hb'
      subst this
      have e1 : i' = i := by omega
      have e2 : j' = j := by omega
      subst e1; subst e2
      rw [updM_self]
      omega
  · intro i' j' hi' hj' hf
    have old : f i' j' < 1125899906842624 → (i' = j' ∧ f i' j' = 0) ∨ GrOf (E ++ [b]) i' j' (f i' j') := fun q => (h.wk i' j' hi' hj' q).imp (fun h => h) fun ⟨b', hb', k⟩ => ⟨b', List.mem_append_left _ hb', k⟩
    unfold updM at hf ⊢; split
    · rename_i e; rw [if_pos e] at hf; obtain ⟨rfl, rfl⟩ := e
      by_cases q : f i' j' ≤ b.Most
      · have e : min (f i' j') b.Most = f i' j' := by omega
        rw [e] at hf ⊢; exact old hf
      · have e : min (f i' j') b.Most = b.Most := by omega
        rw [e]
        exact .inr ⟨b, by simp, hi, hj, rfl⟩
    · rename_i e; rw [if_neg e] at hf; exact old hf
def init0 : MM := fun i j => if i = j then 0 else 1125899906842624
theorem Fst.nil (n : Nat) : Fst n [] init0 := by
  refine ⟨?_, ?_, ?_, ?_, ?_⟩
  · intro i j _ _; unfold init0; split <;> omega
  · intro i j _ _; unfold init0; split <;> omega
  · intro i _; unfold init0; rw [if_pos rfl]; omega
  · rintro i j c ⟨b, hb, _⟩; cases hb
  · intro i j _ _ hf; unfold init0 at hf ⊢; split
    · rename_i e; exact .inl ⟨e, rfl⟩
    · rename_i e; rw [if_neg e] at hf; omega
/-! ### the network -/
/-- A network of n points holds the distances of the bounds E. -/
def Net (n : Nat) (E : List Bound) (d : List (List Int)) : Prop := (∀ b ∈ E, Rt n b) ∧ ∃ f, Mx n d f ∧ Cl (GrOf E) n n f ∧ ∀ i, i < n → f i i = 0
theorem Net.new {n : Nat} {d : List (List Int)} (h : Mx n d init0) : Net n [] d :=
  ⟨fun b hb => (by cases hb), init0, h, by
    have := (Fst.nil n).cl (fun b hb => by cases hb)
    refine ⟨this.ok, Nat.le_refl _, this.le, this.bnd, this.diag, this.edge, ?_, ?_⟩
    · intro x hx i j hi hj h1 h2
      unfold init0 at h1 h2 ⊢
      by_cases e1 : i = x
      · by_cases e2 : x = j
        · subst e1; subst e2; simp
        · rw [if_neg e2] at h2; omega
      · rw [if_neg e1] at h1; omega
    · intro i j hi hj hf
      obtain ⟨L, hL, hx⟩ := this.snd i j hi hj hf
      exact ⟨L, hL, fun x h => by have := hx x h; omega⟩, fun i _ => by simp [init0]⟩
section
variable {n : Nat} {d : List (List Int)} {f : MM} {E : List Bound}
end
/-- A loop that counts down to its end. -/
theorem Ok.down {S R β : Type} {B : S → Option (Ctl S R)} {Q : S → Prop} {P : β → Prop} {kr : R → Option β} {ks : S → Option β} (Inv : Nat → S → Prop)
    (step : ∀ j s, Inv (j + 1) s → Ok (B s) (fun c => ∃ s', c = .next s' ∧ Inv j s')) (stop : ∀ s, Inv 0 s → Ok (B s) (fun c => ∃ s', c = .brk s' ∧ Q s')) (hk : ∀ s, Q s → Ok (ks s) P) :
    ∀ (k : Nat) (s : S), Inv k s → Ok (Go.Pw.ctl (whileC B s) kr ks) P
  | 0, s, h => by
    obtain ⟨_, e, s', rfl, hq⟩ := stop s h
    unfold Go.Pw.ctl
    rw [whileC_stop e (by intro _ h; cases h)]
    exact hk s' hq
  | k + 1, s, h => by
    obtain ⟨_, e, s', rfl, hi⟩ := step k s h
    rw [whileC_next e]
    exact Ok.down Inv step stop hk k s' hi
section
variable {n : Nat} {E E' : List Bound} {d : List (List Int)} {b : Bound}
theorem GrOf.sub (h : ∀ b ∈ E, b ∈ E') : ∀ i j c, GrOf E i j c → GrOf E' i j c := fun _ _ _ ⟨b, hb, k⟩ => ⟨b, h b hb, k⟩
end
section
variable {n : Nat} {E : List Bound} {d : List (List Int)} {f : MM} {t : Nat → Int}
/-- Times that satisfy all bounds. -/
def Sat (E : List Bound) (t : Nat → Int) : Prop := ∀ i j c, GrOf E i j c → t j - t i ≤ c
theorem Sat.walk (h : Sat E t) {i j : Nat} {w : Int} {L : List Nat} (hw : Wk (GrOf E) i j w L) : t j - t i ≤ w := by
  induction hw with
  | nil => omega
  | cons e _ ih => have := h _ _ _ e; omega
theorem Sat.le (h : Sat E t) (hcl : Cl (GrOf E) n n f) {i j : Nat} (hi : i < n) (hj : j < n) (hf : f i j < 1125899906842624) : t j - t i ≤ f i j := by
  obtain ⟨L, hL, _⟩ := hcl.snd i j hi hj hf
  exact h.walk hL
end
section
variable {n : Nat} {E : List Bound} {d : List (List Int)} {f : MM} {b : Bound}
theorem Mx.uniq {l l' : List (List Int)} (h : Mx n l f) (h' : Mx n l' f) : l = l' := by
  refine List.ext_getElem? fun i => ?_
  by_cases hi : i < n
  · obtain ⟨r, a1, a2, a3⟩ := h.2 i hi
    obtain ⟨r', b1, b2, b3⟩ := h'.2 i hi
    rw [a1, b1]
    congr 1
    refine List.ext_getElem? fun j => ?_
    by_cases hj : j < n
    · rw [a3 j hj, b3 j hj]
    · rw [List.getElem?_eq_none (by omega), List.getElem?_eq_none (by omega)]
  · have := h.1
    have := h'.1
    rw [List.getElem?_eq_none (by omega), List.getElem?_eq_none (by omega)]
end
end Go.Pw
