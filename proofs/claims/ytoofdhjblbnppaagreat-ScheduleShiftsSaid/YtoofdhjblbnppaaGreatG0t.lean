/-
  Plain Lean: shortest distances in a graph of bounds, and matrices as lists (as stn2/T0, for 128 points). No program in sight.
-/
import Derived.Test.YtoofdhjblbnppaaGreatB0
set_option linter.unusedVariables false
namespace Go.Pw
def updM (f : Nat → Nat → Int) (a b : Nat) (v : Int) : Nat → Nat → Int := fun i j => if i = a ∧ j = b then v else f i j
/-- A list of m rows of n cells each. -/
def Rc (m n : Nat) (l : List (List Int)) (f : Nat → Nat → Int) : Prop :=
  l.length = m ∧ ∀ i, i < m → ∃ row, l[i]? = some row ∧ row.length = n ∧ ∀ j, j < n → row[j]? = some (f i j)
abbrev Mx (n : Nat) (l : List (List Int)) (f : Nat → Nat → Int) : Prop := Rc n n l f
theorem Rc.row {m n : Nat} {l : List (List Int)} {f : Nat → Nat → Int} (h : Rc m n l f) {i : Nat} (hi : i < m) : ∃ row, idx l (i : Int) = some row ∧ row.length = n ∧ ∀ j, j < n → idx row (j : Int) = some (f i j) := by
  obtain ⟨row, h1, h2, h3⟩ := h.2 i hi
  exact ⟨row, by rw [idx_nat]; exact h1, h2, fun j hj => by rw [idx_nat]; exact h3 j hj⟩
theorem Rc.congr {m n : Nat} {l : List (List Int)} {f g : Nat → Nat → Int} (h : Rc m n l f) (e : ∀ i j, i < m → j < n → f i j = g i j) : Rc m n l g :=
  ⟨h.1, fun i hi => let ⟨row, h1, h2, h3⟩ := h.2 i hi; ⟨row, h1, h2, fun j hj => by rw [h3 j hj, e i j hi hj]⟩⟩
theorem Rc.set {m n : Nat} {l : List (List Int)} {f : Nat → Nat → Int} (h : Rc m n l f) {i j : Nat} (hi : i < m) (hj : j < n) {row : List Int} (hr : idx l (i : Int) = some row) (v : Int) :
    ∃ row' l', setI row (j : Int) v = some row' ∧ setI l (i : Int) row' = some l' ∧ Rc m n l' (updM f i j v) := by
  obtain ⟨r, h1, h2, h3⟩ := h.2 i hi
  rw [idx_nat, h1] at hr
  cases hr
  refine ⟨row.set j v, l.set i (row.set j v), setI_nat (by omega), setI_nat (by rw [h.1]; exact hi), by simp [h.1], fun i' hi' => ?_⟩
  by_cases e : i' = i
  · subst e
    refine ⟨row.set j v, by rw [List.getElem?_set_self]; rw [h.1]; exact hi, by simp [h2], fun j' hj' => ?_⟩
    by_cases e2 : j' = j
    · subst e2; rw [List.getElem?_set_self (by omega)]; simp [updM]
    · rw [List.getElem?_set_ne (Ne.symm e2), h3 j' hj']; simp [updM, e2]
  · obtain ⟨r', k1, k2, k3⟩ := h.2 i' hi'
    exact ⟨r', by rw [List.getElem?_set_ne (Ne.symm e)]; exact k1, k2, fun j' hj' => by rw [k3 j' hj']; simp [updM, e]⟩
theorem Rc.push {m n : Nat} {l : List (List Int)} {f g : Nat → Nat → Int} (h : Rc m n l f) {row : List Int} (hl : row.length = n) (hr : ∀ j, j < n → row[j]? = some (g m j)) (hg : ∀ i j, i < m → j < n → f i j = g i j) : Rc (m + 1) n (l ++ [row]) g := by
  refine ⟨by simp [h.1], fun i hi => ?_⟩
  by_cases e : i < m
  · obtain ⟨r', k1, k2, k3⟩ := h.2 i e
    exact ⟨r', by rw [List.getElem?_append_left (by rw [h.1]; exact e)]; exact k1, k2, fun j hj => by rw [k3 j hj, hg i j e hj]⟩
  · have : i = m := by omega
    subst this
    exact ⟨row, by rw [List.getElem?_append_right (by rw [h.1]; exact Nat.le_refl _), h.1]; simp, hl, hr⟩
/-! ### walks in a graph -/
abbrev Gr := Nat → Nat → Int → Prop
inductive Wk (E : Gr) : Nat → Nat → Int → List Nat → Prop where
  | nil (i : Nat) : Wk E i i 0 []
  | cons {i k j : Nat} {c w : Int} {L : List Nat} (h : E i k c) (t : Wk E k j w L) : Wk E i j (c + w) (i :: L)
section
variable {E E' : Gr} {i j k n : Nat} {w w' c : Int} {L L' : List Nat}
theorem Wk.one (h : E i j c) : Wk E i j c [i] := by
  have := Wk.cons h (Wk.nil j)
  rwa [Int.add_zero] at this
theorem Wk.app (h : Wk E i k w L) (h' : Wk E k j w' L') : Wk E i j (w + w') (L ++ L') := by
  induction h with
  | nil => simpa using h'
  | cons e _ ih => rw [Int.add_assoc]; exact Wk.cons e (ih h')
theorem Wk.mono (hE : ∀ i j c, E i j c → E' i j c) (h : Wk E i j w L) : Wk E' i j w L := by
  induction h with
  | nil => exact .nil _
  | cons e _ ih => exact .cons (hE _ _ _ e) ih
theorem Wk.head (h : Wk E i j w (k :: L)) : k = i := by cases h; rfl
theorem Wk.split (h : Wk E i j w L) : ∀ {x : Nat}, x ∈ L → ∃ w1 w2 L1 L2, Wk E i x w1 L1 ∧ Wk E x j w2 (x :: L2) ∧ w = w1 + w2 ∧ L = L1 ++ x :: L2 := by
  induction h with
  | nil => intro x hx; cases hx
  | @cons i k j c w L e t ih =>
    intro x hx
    by_cases hxi : x = i
    · subst hxi
      exact ⟨0, c + w, [], L, .nil _, .cons e t, by omega, rfl⟩
    · have hx' : x ∈ L := by simpa [hxi] using hx
      obtain ⟨w1, w2, L1, L2, h1, h2, h3, h4⟩ := ih hx'
      exact ⟨c + w1, w2, i :: L1, L2, .cons e h1, h2, by omega, by rw [h4]; rfl⟩
/-- What is known of all edges: they lie within n points, and their weights are small. -/
def GrOK (E : Gr) (n : Nat) : Prop := ∀ i j c, E i j c → i < n ∧ j < n ∧ -1099511627776 ≤ c ∧ c ≤ 1099511627776
theorem Wk.src (hE : GrOK E n) (h : Wk E i j w L) : ∀ x ∈ L, x < n := by
  induction h with
  | nil => intro x hx; cases hx
  | cons e _ ih => intro x hx; rcases List.mem_cons.1 hx with rfl | hx; exact (hE _ _ _ e).1; exact ih x hx
theorem Wk.mag (hE : GrOK E n) (h : Wk E i j w L) : -((L.length : Int) * 1099511627776) ≤ w ∧ w ≤ (L.length : Int) * 1099511627776 := by
  induction h with
  | nil => simp
  | cons e _ ih => have := hE _ _ _ e; simp only [List.length_cons]; omega
theorem Wk.dst (hE : GrOK E n) (h : Wk E i j w L) : i < n → j < n := by
  induction h with
  | nil => exact id
  | cons e _ ih => exact fun _ => ih (hE _ _ _ e).2.1
theorem nodup_short (hn : L.Nodup) (h : ∀ x ∈ L, x < n) : L.length ≤ n := by
  obtain ⟨M, hp, _, _⟩ := take_out L (List.range n) hn List.nodup_range (fun x hx => by simpa using h x hx)
  have := hp.length_eq
  simp at this
  omega
end
/-- Closed under the ways through the first k points; 2^50 stands for 'no way'. -/
structure Cl (E : Gr) (n k : Nat) (f : Nat → Nat → Int) : Prop where
  ok : GrOK E n
  kn : k ≤ n
  le : ∀ i j, i < n → j < n → f i j ≤ 1125899906842624
  bnd : ∀ i j, i < n → j < n → f i j < 1125899906842624 → -562949953421312 ≤ f i j ∧ f i j ≤ 562949953421312
  diag : ∀ i, i < n → f i i ≤ 0
  edge : ∀ i j c, E i j c → f i j ≤ c
  tri : ∀ x, x < k → ∀ i j, i < n → j < n → f i x < 1125899906842624 → f x j < 1125899906842624 → f i j ≤ f i x + f x j
  snd : ∀ i j, i < n → j < n → f i j < 1125899906842624 → ∃ L, Wk E i j (f i j) L ∧ ∀ x ∈ L.tail, x < k
section
variable {E E' : Gr} {n k : Nat} {f g : Nat → Nat → Int}
theorem Cl.compl (h : Cl E n k f) {i j : Nat} {w : Int} {L : List Nat} (hw : Wk E i j w L) : (∀ x ∈ L.tail, x < k) → i < n → f i j ≤ w ∧ f i j < 1125899906842624 := by
  induction hw with
  | nil => intro _ hi; have := h.diag _ hi; omega
  | @cons i z j c w L e t ih =>
    intro hL hi
    obtain ⟨_, hz, c1, c2⟩ := h.ok _ _ _ e
    have he := h.edge _ _ _ e
    cases L with
    | nil => cases t; omega
    | cons z' L =>
      have := t.head
      subst this
      have hzk : z' < k := hL z' (by simp)
      have hj : j < n := t.dst h.ok hz
      obtain ⟨ih1, ih2⟩ := ih (fun x hx => hL x (by simpa using List.mem_cons_of_mem _ hx)) hz
      have := h.tri _ hzk i j hi hj (by omega) ih2
      have := h.bnd _ _ hz hj ih2
      omega
/-- A walk, without its loops. -/
theorem Cl.cut (h : Cl E n k f) (hd : ∀ i, i < n → f i i = 0) {i j : Nat} {w : Int} {L : List Nat} (hw : Wk E i j w L) : (∀ x ∈ L.tail, x < k) → i < n →
    ∃ w' L', Wk E i j w' L' ∧ w' ≤ w ∧ L'.Nodup ∧ ∀ x ∈ L'.tail, x < k := by
  induction hw with
  | nil => intro _ _; exact ⟨0, [], .nil _, Int.le_refl _, List.nodup_nil, by simp⟩
  | @cons i z j c w L e t ih =>
    intro hL hi
    cases L with
    | nil => exact ⟨c + w, [i], .cons e t, Int.le_refl _, by simp, by simp⟩
    | cons z' L =>
      have := t.head
      subst this
      have hzk : z' < k := hL z' (by simp)
      have hz : z' < n := (h.ok _ _ _ e).2.1
      obtain ⟨w'', L'', h1, h2, h3, h4⟩ := ih (fun x hx => hL x (by simpa using List.mem_cons_of_mem _ hx)) hz
      have hall : ∀ x ∈ L'', x < k := by
        intro x hx
        cases L'' with
        | nil => cases hx
        | cons y L'' =>
          have := h1.head
          subst this
          rcases List.mem_cons.1 hx with rfl | hx
          · exact hzk
          · exact h4 x (by simpa using hx)
      by_cases hiL : i ∈ L''
      · obtain ⟨w1, w2, L1, L2, k1, k2, k3, k4⟩ := h1.split hiL
        subst k4
        have hc := (h.compl (Wk.cons e k1) (fun x hx => hall x (List.mem_append_left _ (by simpa using hx))) hi).1
        rw [hd i hi] at hc
        refine ⟨w2, i :: L2, k2, by omega, (List.nodup_append.1 h3).2.1, fun x hx => hall x (List.mem_append_right _ (List.mem_cons_of_mem _ (by simpa using hx)))⟩
      · exact ⟨c + w'', i :: L'', .cons e h1, by omega, List.nodup_cons.2 ⟨hiL, h3⟩, fun x hx => hall x (by simpa using hx)⟩
theorem Cl.fine (h : Cl E n k f) (hd : ∀ i, i < n → f i i = 0) (hn : n ≤ 128) {i j : Nat} (hi : i < n) (hj : j < n) (hf : f i j < 1125899906842624) : -140737488355328 ≤ f i j ∧ f i j ≤ 140737488355328 := by
  obtain ⟨L, hw, hL⟩ := h.snd i j hi hj hf
  obtain ⟨w', L', h1, h2, h3, h4⟩ := h.cut hd hw hL hi
  have h5 := (h.compl h1 h4 hi).1
  have h6 := h1.mag h.ok
  have h7 := nodup_short h3 (h1.src h.ok)
  have : (L'.length : Int) ≤ 128 := by omega
  have h8 : (L'.length : Int) * 1099511627776 ≤ 140737488355328 := by omega
  omega
theorem Cl.all (h : Cl E n n f) {i j : Nat} {w : Int} {L : List Nat} (hw : Wk E i j w L) (hi : i < n) : f i j ≤ w ∧ f i j < 1125899906842624 :=
  h.compl hw (fun x hx => hw.src h.ok x (List.mem_of_mem_tail hx)) hi
/-- The distances are one. -/
theorem Cl.uniq (h : Cl E n n f) (h' : Cl E n n g) {i j : Nat} (hi : i < n) (hj : j < n) : f i j = g i j := by
  have a := h.le i j hi hj
  have b := h'.le i j hi hj
  by_cases hf : f i j < 1125899906842624
  · obtain ⟨L, hw, _⟩ := h.snd i j hi hj hf
    obtain ⟨h1, h2⟩ := h'.all hw hi
    obtain ⟨L', hw', _⟩ := h'.snd i j hi hj h2
    have := (h.all hw' hi).1
    omega
  · by_cases hg : g i j < 1125899906842624
    · obtain ⟨L', hw', _⟩ := h'.snd i j hi hj hg
      have := (h.all hw' hi).2
      omega
    · omega
theorem Cl.congr (h : Cl E n k f) (e : ∀ i j, i < n → j < n → f i j = g i j) : Cl E n k g where
  ok := h.ok
  kn := h.kn
  le i j hi hj := by rw [← e i j hi hj]; exact h.le i j hi hj
  bnd i j hi hj := by rw [← e i j hi hj]; exact h.bnd i j hi hj
  diag i hi := by rw [← e i i hi hi]; exact h.diag i hi
  edge i j c hc := by rw [← e i j (h.ok _ _ _ hc).1 (h.ok _ _ _ hc).2.1]; exact h.edge i j c hc
  tri x hx i j hi hj := by
    intro h1 h2
    have hxn : x < n := Nat.lt_of_lt_of_le hx h.kn
    rw [← e i x hi hxn] at h1 ⊢; rw [← e x j hxn hj] at h2 ⊢; rw [← e i j hi hj]; exact h.tri x hx i j hi hj h1 h2
  snd i j hi hj := by rw [← e i j hi hj]; exact h.snd i j hi hj
/-! ### one point more -/
def step (f : Nat → Nat → Int) (k : Nat) : Nat → Nat → Int := fun i j =>
  if f i k < 1125899906842624 ∧ f k j < 1125899906842624 then min (f i j) (f i k + f k j) else f i j
theorem step_row (hk : f k k = 0) (j : Nat) : step f k k j = f k j := by unfold step; split <;> omega
theorem step_col (hk : f k k = 0) (i : Nat) : step f k i k = f i k := by unfold step; split <;> omega
theorem Cl.step (h : Cl E n k f) (hd : ∀ i, i < n → f i i = 0) (hn : n ≤ 128) (hk : k < n) : Cl E n (k + 1) (step f k) := by
  have fine : ∀ i j, i < n → j < n → f i j < 1125899906842624 → -140737488355328 ≤ f i j ∧ f i j ≤ 140737488355328 := fun i j hi hj hf => h.fine hd hn hi hj hf
  have hkk := hd k hk
  have down : ∀ i j, Go.Pw.step f k i j ≤ f i j := by intro i j; unfold Go.Pw.step; split <;> omega
  refine ⟨h.ok, hk, ?_, ?_, ?_, ?_, ?_, ?_⟩
  · intro i j hi hj
    have := h.le i j hi hj
    have := down i j
    omega
  · intro i j hi hj hf
    unfold Go.Pw.step at hf ⊢
    split
    · rename_i hc
      have a := fine i k hi hk hc.1
      have b := fine k j hk hj hc.2
      by_cases hij : f i j < 1125899906842624
      · have := fine i j hi hj hij; omega
      · have := h.le i j hi hj; omega
    · rename_i hc; rw [if_neg hc] at hf; have := fine i j hi hj hf; omega
  · intro i hi
    have := down i i
    have := h.diag i hi
    omega
  · intro i j c hc
    have := h.edge i j c hc
    have := down i j
    omega
  · intro x hx i j hi hj h1 h2
    have hxn : x < n := by omega
    by_cases hxk : x = k
    · subst hxk
      rw [step_col hkk] at h1 ⊢
      rw [step_row hkk] at h2 ⊢
      unfold Go.Pw.step
      rw [if_pos ⟨h1, h2⟩]
      omega
    · have hx' : x < k := by omega
      have t := h.tri x hx'
      have key : f i k < 1125899906842624 → f k j < 1125899906842624 → Go.Pw.step f k i j ≤ f i k + f k j := by
        intro a b; unfold Go.Pw.step; rw [if_pos ⟨a, b⟩]; omega
      have dij := down i j
      by_cases c1 : f i k < 1125899906842624 ∧ f k x < 1125899906842624
      · by_cases c2 : f x k < 1125899906842624 ∧ f k j < 1125899906842624
        · have e1 : Go.Pw.step f k i x = min (f i x) (f i k + f k x) := by unfold Go.Pw.step; rw [if_pos c1]
          have e2 : Go.Pw.step f k x j = min (f x j) (f x k + f k j) := by unfold Go.Pw.step; rw [if_pos c2]
          have t0 := t k k hk hk c1.2 c2.1
          have k0 := key c1.1 c2.2
          rw [e1, e2]
          by_cases f1 : f i x < 1125899906842624
          · have t1 := t i k hi hk f1 c2.1
            by_cases f2 : f x j < 1125899906842624
            · have t2 := t k j hk hj c1.2 f2
              have t3 := t i j hi hj f1 f2
              omega
            · have b1 := fine x k hxn hk c2.1
              have b2 := fine k j hk hj c2.2
              omega
          · by_cases f2 : f x j < 1125899906842624
            · have t2 := t k j hk hj c1.2 f2
              have b1 := fine i k hi hk c1.1
              have b2 := fine k x hk hxn c1.2
              omega
            · have b1 := fine i k hi hk c1.1
              have b2 := fine k x hk hxn c1.2
              have b3 := fine x k hxn hk c2.1
              have b4 := fine k j hk hj c2.2
              omega
        · have e1 : Go.Pw.step f k i x = min (f i x) (f i k + f k x) := by unfold Go.Pw.step; rw [if_pos c1]
          have e2 : Go.Pw.step f k x j = f x j := by unfold Go.Pw.step; rw [if_neg c2]
          rw [e2] at h2
          have t2 := t k j hk hj c1.2 h2
          have b2 := fine k x hk hxn c1.2
          have b3 := fine x j hxn hj h2
          have k0 := key c1.1 (by omega)
          rw [e1, e2]
          by_cases f1 : f i x < 1125899906842624
          · have t3 := t i j hi hj f1 h2; omega
          · have b1 := fine i k hi hk c1.1
            omega
      · have e1 : Go.Pw.step f k i x = f i x := by unfold Go.Pw.step; rw [if_neg c1]
        rw [e1] at h1 ⊢
        by_cases c2 : f x k < 1125899906842624 ∧ f k j < 1125899906842624
        · have e2 : Go.Pw.step f k x j = min (f x j) (f x k + f k j) := by unfold Go.Pw.step; rw [if_pos c2]
          have t1 := t i k hi hk h1 c2.1
          have b1 := fine i x hi hxn h1
          have b2 := fine x k hxn hk c2.1
          have k0 := key (by omega) c2.2
          rw [e2]
          by_cases f2 : f x j < 1125899906842624
          · have t3 := t i j hi hj h1 f2; omega
          · have b3 := fine k j hk hj c2.2
            omega
        · have e2 : Go.Pw.step f k x j = f x j := by unfold Go.Pw.step; rw [if_neg c2]
          rw [e2] at h2 ⊢
          have t3 := t i j hi hj h1 h2
          omega
  · intro i j hi hj hf
    unfold Go.Pw.step at hf ⊢
    split
    · rename_i hc
      rw [if_pos hc] at hf
      by_cases hm : f i j ≤ f i k + f k j
      · have e : min (f i j) (f i k + f k j) = f i j := by omega
        rw [e] at hf ⊢
        obtain ⟨L, h1, h2⟩ := h.snd i j hi hj hf
        exact ⟨L, h1, fun x hx => by have := h2 x hx; omega⟩
      · have e : min (f i j) (f i k + f k j) = f i k + f k j := by omega
        rw [e]
        obtain ⟨L1, h1, h2⟩ := h.snd i k hi hk hc.1
        obtain ⟨L2, h3, h4⟩ := h.snd k j hk hj hc.2
        refine ⟨L1 ++ L2, h1.app h3, fun x hx => ?_⟩
        have hall2 : ∀ x ∈ L2, x < k + 1 := by
          intro x hx
          cases L2 with
          | nil => cases hx
          | cons y L2 =>
            have := h3.head
            subst this
            rcases List.mem_cons.1 hx with rfl | hx
            · omega
            · have := h4 x (by simpa using hx); omega
        cases L1 with
        | nil => exact hall2 x (List.mem_of_mem_tail (by simpa using hx))
        | cons y L1 =>
          simp only [List.cons_append, List.tail_cons, List.mem_append] at hx
          rcases hx with hx | hx
          · have := h2 x (by simpa using hx); omega
          · exact hall2 x hx
    · rename_i hc
      rw [if_neg hc] at hf
      obtain ⟨L, h1, h2⟩ := h.snd i j hi hj hf
      exact ⟨L, h1, fun x hx => by have := h2 x hx; omega⟩
/-! ### one edge more -/
def GrAdd (E : Gr) (a b : Nat) (m : Int) : Gr := fun i j c => E i j c ∨ (i = a ∧ j = b ∧ c = m)
def more (f : Nat → Nat → Int) (a b : Nat) (m : Int) : Nat → Nat → Int := fun i j =>
  if f i a < 1125899906842624 ∧ f b j < 1125899906842624 then min (f i j) (f i a + m + f b j) else f i j
theorem more_row {a b : Nat} {m : Int} (hba : f b a < 1125899906842624 → 0 ≤ f b a + m) (j : Nat) : more f a b m b j = f b j := by
  unfold more; split
  · rename_i h; have := hba h.1; omega
  · rfl
theorem more_col {a b : Nat} {m : Int} (hba : f b a < 1125899906842624 → 0 ≤ f b a + m) (i : Nat) : more f a b m i a = f i a := by
  unfold more; split
  · rename_i h; have := hba h.2; omega
  · rfl
theorem Cl.more (h : Cl E n n f) (hd : ∀ i, i < n → f i i = 0) (hn : n ≤ 128) {a b : Nat} {m : Int} (ha : a < n) (hb : b < n) (hm1 : -1099511627776 ≤ m) (hm2 : m ≤ 1099511627776)
    (hba : f b a < 1125899906842624 → 0 ≤ f b a + m) : Cl (GrAdd E a b m) n n (more f a b m) ∧ ∀ i, i < n → more f a b m i i = 0 := by
  have fine : ∀ i j, i < n → j < n → f i j < 1125899906842624 → -140737488355328 ≤ f i j ∧ f i j ≤ 140737488355328 := fun i j hi hj hf => h.fine hd hn hi hj hf
  have down : ∀ i j, Go.Pw.more f a b m i j ≤ f i j := by intro i j; unfold Go.Pw.more; split <;> omega
  have haa := hd a ha
  have hbb := hd b hb
  have hdiag : ∀ i, i < n → Go.Pw.more f a b m i i = 0 := by
    intro i hi
    have h0 := hd i hi
    unfold Go.Pw.more
    split
    · rename_i hc
      have := h.tri i hi b a hb ha hc.2 hc.1
      have b1 := fine i a hi ha hc.1
      have b2 := fine b i hb hi hc.2
      have := hba (by omega)
      omega
    · exact h0
  refine ⟨⟨?_, Nat.le_refl _, ?_, ?_, ?_, ?_, ?_, ?_⟩, hdiag⟩
  · rintro i j c (hc | ⟨rfl, rfl, rfl⟩)
    · exact h.ok _ _ _ hc
    · exact ⟨ha, hb, hm1, hm2⟩
  · intro i j hi hj
    have := h.le i j hi hj
    have := down i j
    omega
  · intro i j hi hj hf
    unfold Go.Pw.more at hf ⊢
    split
    · rename_i hc
      rw [if_pos hc] at hf
      have p := fine i a hi ha hc.1
      have q := fine b j hb hj hc.2
      by_cases hij : f i j < 1125899906842624
      · have := fine i j hi hj hij; omega
      · have := h.le i j hi hj; omega
    · rename_i hc; rw [if_neg hc] at hf; have := fine i j hi hj hf; omega
  · intro i hi; rw [hdiag i hi]; exact Int.le_refl _
  · rintro i j c (hc | ⟨rfl, rfl, rfl⟩)
    · have := h.edge i j c hc
      have := down i j
      omega
    · unfold Go.Pw.more
      rw [if_pos (by omega)]
      omega
  · intro x hx i j hi hj h1 h2
    have dij := down i j
    have key : f i a < 1125899906842624 → f b j < 1125899906842624 → Go.Pw.more f a b m i j ≤ f i a + m + f b j := by
      intro p q; unfold Go.Pw.more; rw [if_pos ⟨p, q⟩]; omega
    have t := h.tri x hx
    by_cases c1 : f i a < 1125899906842624 ∧ f b x < 1125899906842624
    · have e1 : Go.Pw.more f a b m i x = min (f i x) (f i a + m + f b x) := by unfold Go.Pw.more; rw [if_pos c1]
      have b1 := fine i a hi ha c1.1
      have b2 := fine b x hb hx c1.2
      by_cases c2 : f x a < 1125899906842624 ∧ f b j < 1125899906842624
      · have e2 : Go.Pw.more f a b m x j = min (f x j) (f x a + m + f b j) := by unfold Go.Pw.more; rw [if_pos c2]
        have b3 := fine x a hx ha c2.1
        have b4 := fine b j hb hj c2.2
        have t0 := t b a hb ha c1.2 c2.1
        have := hba (by omega)
        have k0 := key c1.1 c2.2
        rw [e1, e2]
        by_cases f1 : f i x < 1125899906842624
        · have t1 := t i a hi ha f1 c2.1
          by_cases f2 : f x j < 1125899906842624
          · have t2 := t b j hb hj c1.2 f2
            have t3 := t i j hi hj f1 f2
            omega
          · omega
        · by_cases f2 : f x j < 1125899906842624
          · have t2 := t b j hb hj c1.2 f2
            omega
          · omega
      · have e2 : Go.Pw.more f a b m x j = f x j := by unfold Go.Pw.more; rw [if_neg c2]
        rw [e2] at h2
        have t2 := t b j hb hj c1.2 h2
        have b3 := fine x j hx hj h2
        have k0 := key c1.1 (by omega)
        rw [e1, e2]
        by_cases f1 : f i x < 1125899906842624
        · have t3 := t i j hi hj f1 h2; omega
        · omega
    · have e1 : Go.Pw.more f a b m i x = f i x := by unfold Go.Pw.more; rw [if_neg c1]
      rw [e1] at h1 ⊢
      by_cases c2 : f x a < 1125899906842624 ∧ f b j < 1125899906842624
      · have e2 : Go.Pw.more f a b m x j = min (f x j) (f x a + m + f b j) := by unfold Go.Pw.more; rw [if_pos c2]
        have t1 := t i a hi ha h1 c2.1
        have b1 := fine i x hi hx h1
        have b2 := fine x a hx ha c2.1
        have b4 := fine b j hb hj c2.2
        have k0 := key (by omega) c2.2
        rw [e2]
        by_cases f2 : f x j < 1125899906842624
        · have t3 := t i j hi hj h1 f2; omega
        · omega
      · have e2 : Go.Pw.more f a b m x j = f x j := by unfold Go.Pw.more; rw [if_neg c2]
        rw [e2] at h2 ⊢
        have t3 := t i j hi hj h1 h2
        omega
  · intro i j hi hj hf
    have lift : ∀ i j, i < n → j < n → f i j < 1125899906842624 → ∃ L, Wk (GrAdd E a b m) i j (f i j) L := by
      intro i j hi hj hf
      obtain ⟨L, h1, _⟩ := h.snd i j hi hj hf
      exact ⟨L, h1.mono fun _ _ _ e => .inl e⟩
    have ok' : GrOK (GrAdd E a b m) n := by
      rintro i j c (hc | ⟨rfl, rfl, rfl⟩)
      · exact h.ok _ _ _ hc
      · exact ⟨ha, hb, hm1, hm2⟩
    suffices ∃ L, Wk (GrAdd E a b m) i j (Go.Pw.more f a b m i j) L from let ⟨L, hL⟩ := this; ⟨L, hL, fun x hx => hL.src ok' x (List.mem_of_mem_tail hx)⟩
    unfold Go.Pw.more at hf ⊢
    split
    · rename_i hc
      rw [if_pos hc] at hf
      by_cases hm : f i j ≤ f i a + m + f b j
      · have e : min (f i j) (f i a + m + f b j) = f i j := by omega
        rw [e] at hf ⊢
        exact lift i j hi hj hf
      · have e : min (f i j) (f i a + m + f b j) = f i a + m + f b j := by omega
        rw [e]
        obtain ⟨L1, h1⟩ := lift i a hi ha hc.1
        obtain ⟨L2, h2⟩ := lift b j hb hj hc.2
        exact ⟨_, (h1.app (Wk.one (.inr ⟨rfl, rfl, rfl⟩))).app h2⟩
    · rename_i hc
      rw [if_neg hc] at hf
      exact lift i j hi hj hf
end
abbrev MM := Nat → Nat → Int
theorem updM_self {c : MM} {i j : Nat} {v : Int} : updM c i j v i j = v := by simp [updM]
theorem updM_ne {c : MM} {i j i' j' : Nat} {v : Int} (h : ¬ (i' = i ∧ j' = j)) : updM c i j v i' j' = c i' j' := by simp [updM, h]
end Go.Pw
