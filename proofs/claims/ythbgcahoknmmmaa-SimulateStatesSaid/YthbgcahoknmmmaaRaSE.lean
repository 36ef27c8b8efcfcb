/-
  Simulation: the problems of a tick.
-/
import Derived.Test.YthbgcahoknmmmaaRaSC
set_option linter.unusedVariables false
set_option linter.unusedSimpArgs false
namespace Go.Pw
/-! ### the least common variable -/
def LeastV (P : Int → Prop) (r : Int) : Prop := (r = -1 ∧ ∀ v, 0 ≤ v → ¬ P v) ∨ (0 ≤ r ∧ P r ∧ ∀ v, 0 ≤ v → P v → r ≤ v)
theorem LeastV.uniq {P : Int → Prop} {r s : Int} (h : LeastV P r) (h' : LeastV P s) : r = s := by
  rcases h with ⟨h1, h2⟩ | ⟨h1, h2, h3⟩ <;> rcases h' with ⟨g1, g2⟩ | ⟨g1, g2, g3⟩
  · omega
  · exact absurd g2 (h2 s g1)
  · exact absurd h2 (g2 r h1)
  · have := h3 s g1 g2; have := g3 r h1 h2; omega
theorem LeastV.congr {P Q : Int → Prop} {r : Int} (h : LeastV P r) (e : ∀ v, 0 ≤ v → (P v ↔ Q v)) : LeastV Q r := by
  rcases h with ⟨h1, h2⟩ | ⟨h1, h2, h3⟩
  · exact .inl ⟨h1, fun v h0 hq => h2 v h0 ((e v h0).2 hq)⟩
  · exact .inr ⟨h1, (e r h1).1 h2, fun v h0 hq => h3 v h0 ((e v h0).2 hq)⟩
theorem LeastV.or {P Q : Int → Prop} {r s : Int} (h : LeastV P r) (h' : LeastV Q s) : LeastV (fun v => P v ∨ Q v) (if 0 ≤ s ∧ (r < 0 ∨ s < r) then s else r) := by
  rcases h with ⟨h1, h2⟩ | ⟨h1, h2, h3⟩ <;> rcases h' with ⟨g1, g2⟩ | ⟨g1, g2, g3⟩
  · rw [if_neg (by omega)]
    exact .inl ⟨h1, fun v h0 h => h.elim (h2 v h0) (g2 v h0)⟩
  · rw [if_pos (by omega)]
    exact .inr ⟨g1, .inr g2, fun v h0 h => h.elim (fun h => absurd h (h2 v h0)) (g3 v h0)⟩
  · rw [if_neg (by omega)]
    exact .inr ⟨h1, .inl h2, fun v h0 h => h.elim (h3 v h0) (fun h => absurd h (g2 v h0))⟩
  · by_cases c : s < r
    · rw [if_pos (by omega)]
      exact .inr ⟨g1, .inr g2, fun v h0 h => h.elim (fun h => by have := h3 v h0 h; omega) (g3 v h0)⟩
    · rw [if_neg (by omega)]
      exact .inr ⟨h1, .inl h2, fun v h0 h => h.elim (h3 v h0) (fun h => by have := g3 v h0 h; omega)⟩
theorem LeastV.none : LeastV (fun _ => False) (-1) := .inl ⟨rfl, fun _ _ h => h⟩
theorem LeastV.one {w : Int} (h : 0 ≤ w) : LeastV (fun v => v = w) w := .inr ⟨h, rfl, fun v _ e => by omega⟩
theorem LeastV.ge {P : Int → Prop} {r : Int} (h : LeastV P r) : -1 ≤ r := by rcases h with h | h <;> omega
def hasV (l : List Fact) (v : Int) : Prop := ∃ f ∈ l, f.Var = v
theorem shared_ok {a b : List Fact} (ha : ∀ f ∈ a, 0 ≤ f.Var) : Ok (simulate_shared_p a b) (LeastV fun v => hasV a v ∧ hasV b v) := by
  unfold simulate_shared_p
  refine Ok.bind (Ok.forL (fun l out => LeastV (fun v => hasV l v ∧ hasV b v) out) (LeastV.none.congr fun v _ => ⟨fun h => h.elim, fun ⟨⟨f, h, _⟩, _⟩ => by simp at h⟩) ?_ fun s h => ⟨s, rfl, h⟩)
  intro j l x s hx hl hs
  refine Ok.step (by rw [idx_nat]; exact hx) (Ok.bind ?_)
  refine Ok.forL (fun m out => LeastV (fun v => (hasV l v ∧ hasV b v) ∨ (x.Var = v ∧ hasV m v)) out) (hs.congr fun v _ => ⟨.inl, fun h => h.elim id fun ⟨_, f, h, _⟩ => by simp at h⟩) ?_ fun s' h => ⟨s', rfl, h.congr fun v _ => ?_⟩
  · intro k m y s' hy hm hs'
    refine Ok.step (by rw [idx_nat]; exact hy) ?_
    by_cases c : x.Var = y.Var
    · have h1 := hs'.or (LeastV.one (w := x.Var) (ha x (List.mem_of_getElem? hx)))
      have e : (if ((decide (x.Var = y.Var)) && ((decide (s' < 0)) || decide (x.Var < s'))) then (some x.Var) else (some s')) = some (if 0 ≤ x.Var ∧ (s' < 0 ∨ x.Var < s') then x.Var else s') := by
        have := ha x (List.mem_of_getElem? hx)
        by_cases c2 : s' < 0 ∨ x.Var < s'
        · rw [if_pos (by simp [c]; rw [← c]; exact c2), if_pos ⟨this, c2⟩]
        · rw [if_neg (by simp [c]; rw [← c]; omega), if_neg (fun h => c2 h.2)]
      rw [e]
      refine ⟨_, rfl, h1.congr fun v _ => ?_⟩
      constructor
      · rintro ((h | ⟨e1, f, hf, e2⟩) | rfl)
        · exact .inl h
        · exact .inr ⟨e1, f, by simp [hf], e2⟩
        · exact .inr ⟨rfl, y, by simp, c.symm⟩
      · rintro (h | ⟨e1, f, hf, e2⟩)
        · exact .inl (.inl h)
        · exact .inr e1.symm
    · rw [if_neg (by simp [c])]
      refine ⟨_, rfl, hs'.congr fun v _ => ?_⟩
      constructor
      · rintro (h | ⟨e1, f, hf, e2⟩)
        · exact .inl h
        · exact .inr ⟨e1, f, by simp [hf], e2⟩
      · rintro (h | ⟨e1, f, hf, e2⟩)
        · exact .inl h
        · rcases List.mem_append.1 hf with hf | hf
          · exact .inr ⟨e1, f, hf, e2⟩
          · have : f = y := by simpa using hf
            subst this
            exact absurd (e1.trans e2.symm) c
  · constructor
    · rintro (⟨⟨f, hf, e⟩, h⟩ | ⟨rfl, h⟩)
      · exact ⟨⟨f, by simp [hf], e⟩, h⟩
      · exact ⟨⟨x, by simp, rfl⟩, h⟩
    · rintro ⟨⟨f, hf, e⟩, hb⟩
      rcases List.mem_append.1 hf with hf | hf
      · exact .inl ⟨⟨f, hf, e⟩, hb⟩
      · have : f = x := by simpa using hf
        subst this
        exact .inr ⟨e, hb⟩
def MeetP (a b : Job) (ea eb : Bool) (v : Int) : Prop := (hasV (wrH a ea) v ∧ hasV (wrH b eb) v) ∨ (hasV (wrH a ea) v ∧ hasV (rdH b eb) v) ∨ (hasV (wrH b eb) v ∧ hasV (rdH a ea) v)
noncomputable def meetV (a b : Job) (ea eb : Bool) : Int := (simulate_meeting_p a ea b eb).getD (-1)
theorem JobOK.wr0 {n : Nat} {j : Job} (h : JobOK n j) (e : Bool) : ∀ f ∈ wrH j e, 0 ≤ f.Var := fun f hf => by
  unfold wrH at hf; split at hf
  · exact (h.atEnd.rng f hf).1
  · exact (h.atStart.rng f hf).1
theorem meeting_ok {n : Nat} {a b : Job} (ha : JobOK n a) (hb : JobOK n b) (ea eb : Bool) : simulate_meeting_p a ea b eb = some (meetV a b ea eb) ∧ LeastV (MeetP a b ea eb) (meetV a b ea eb) := by
  have h : Ok (simulate_meeting_p a ea b eb) (LeastV (MeetP a b ea eb)) := by
    unfold simulate_meeting_p
    simp only [hap_eq]
    refine Ok.bind ((shared_ok (ha.wr0 ea)).mono fun y0 h0 => Ok.bind ((shared_ok (ha.wr0 ea)).mono fun y1 h1 => Ok.bind ((shared_ok (hb.wr0 eb)).mono fun y2 h2 => ?_)))
    have hs : ∀ y s : Int, -1 ≤ y → (if ((decide (0 ≤ y)) && ((decide (s < 0)) || decide (y < s))) then (some y) else (some s)) = some (if 0 ≤ y ∧ (s < 0 ∨ y < s) then y else s) := fun y s _ => by
      by_cases c : 0 ≤ y ∧ (s < 0 ∨ y < s)
      · rw [if_pos (by simpa using c), if_pos c]
      · rw [if_neg (by simpa using c), if_neg c]
    show Ok ((forS _ 3 0 (-1)).bind _) _
    have i0 : idx [y0, y1, y2] ((0 : Nat) : Int) = some y0 := rfl
    have i1 : idx [y0, y1, y2] ((0 + 1 : Nat) : Int) = some y1 := rfl
    have i2 : idx [y0, y1, y2] ((0 + 1 + 1 : Nat) : Int) = some y2 := rfl
    simp only [forS, i0, i1, i2, Option.bind_some, hs _ _ h0.ge, hs _ _ h1.ge, hs _ _ h2.ge]
    have g0 := LeastV.none.or h0
    have g1 := g0.or h1
    have g2 := g1.or h2
    refine ⟨_, rfl, g2.congr fun v _ => ?_⟩
    unfold MeetP
    constructor
    · rintro (((h | h) | h) | h)
      · exact h.elim
      · exact .inl h
      · exact .inr (.inl h)
      · exact .inr (.inr h)
    · rintro (h | h | h)
      · exact .inl (.inl (.inr h))
      · exact .inl (.inr h)
      · exact .inr h
  obtain ⟨r, h1, h2⟩ := h
  unfold meetV
  rw [h1]
  exact ⟨rfl, h2⟩
theorem meetV_int {n : Nat} {a b : Job} (ha : JobOK n a) (hb : JobOK n b) (ea eb : Bool) : 0 ≤ meetV a b ea eb ↔ intB a b ea eb = true := by
  have h := (meeting_ok ha hb ea eb).2
  have hi : intB a b ea eb = true ↔ ∃ v, 0 ≤ v ∧ MeetP a b ea eb v := by
    unfold intB MeetP hasV
    rw [Bool.or_eq_true, Bool.or_eq_true, meetB_iff, meetB_iff, meetB_iff]
    constructor
    · rintro ((⟨x, hx, y, hy, e⟩ | ⟨x, hx, y, hy, e⟩) | ⟨x, hx, y, hy, e⟩)
      · exact ⟨x.Var, ha.wr0 ea x hx, .inl ⟨⟨x, hx, rfl⟩, y, hy, e.symm⟩⟩
      · exact ⟨x.Var, ha.wr0 ea x hx, .inr (.inl ⟨⟨x, hx, rfl⟩, y, hy, e.symm⟩)⟩
      · exact ⟨y.Var, hb.wr0 eb y hy, .inr (.inr ⟨⟨y, hy, rfl⟩, x, hx, e⟩)⟩
    · rintro ⟨v, _, ⟨⟨x, hx, e⟩, y, hy, e'⟩ | ⟨⟨x, hx, e⟩, y, hy, e'⟩ | ⟨⟨y, hy, e'⟩, x, hx, e⟩⟩
      · exact .inl (.inl ⟨x, hx, y, hy, e.trans e'.symm⟩)
      · exact .inl (.inr ⟨x, hx, y, hy, e.trans e'.symm⟩)
      · exact .inr ⟨x, hx, y, hy, e.trans e'.symm⟩
  rw [hi]
  rcases h with ⟨h1, h2⟩ | ⟨h1, h2, _⟩
  · exact ⟨fun h => by omega, fun ⟨v, h0, h⟩ => absurd h (h2 v h0)⟩
  · exact ⟨fun _ => ⟨_, h1, h2⟩, fun _ => h1⟩
/-! ### what is missing -/
def lackF (l : List Fact) (s : List Int) : List Fact := l.filter fun f => !decide (idx s f.Var = some f.Val)
theorem lackF_len (l : List Fact) (s : List Int) : (lackF l s).length ≤ l.length := List.length_filter_le _ _
theorem filter_flat {α : Type} (p : α → Bool) (l : List α) : (l.flatMap fun x => if p x then [x] else []) = l.filter p := by
  induction l with
  | nil => rfl
  | cons x l ih => rw [List.flatMap_cons, ih, List.filter_cons]; cases p x <;> simp
theorem missing_ok {l : List Fact} (s : List Int) (hl : l.length ≤ 1000) : simulate_missing_p l s = some (lackF l s) := by
  unfold simulate_missing_p
  rw [forApp (g := fun x => if (!decide (idx s x.Var = some x.Val)) then [x] else []) 1 (fun x _ => by split <;> simp)]
  · rw [List.nil_append, filter_flat]; rfl
  · intro i x out hx ho
    simp only [List.length_nil] at ho
    rw [idx_nat, hx, Option.bind_some, Holds_ok, Option.bind_some]
    have e : holdsB [x] s = decide (idx s x.Var = some x.Val) := by simp [holdsB]
    rw [e]
    by_cases c : idx s x.Var = some x.Val
    · simp [c]
    · simp only [c, decide_false, Bool.not_false, if_true]
      rw [app_ok (by simp; omega)]; rfl
theorem holdsB_lack (l : List Fact) (s : List Int) : holdsB l s = true ↔ lackF l s = [] := by
  unfold holdsB lackF
  rw [List.filter_eq_nil_iff, List.all_eq_true]
  simp
/-! ### the lists of problems -/
def prsG {α β : Type} (f : α → α → List β) (l : List α) (i : Nat) : List β := match l[i]? with | some x => (l.drop (i + 1)).flatMap (f x) | none => []
theorem prsG_get {α β : Type} {f : α → α → List β} {l : List α} {i : Nat} {x : α} (h : l[i]? = some x) : prsG f l i = (l.drop (i + 1)).flatMap (f x) := by unfold prsG; rw [h]
def prsI {α β : Type} (f : α → α → List β) (l : List α) : List β := (List.range l.length).flatMap (prsG f l)
def ovB (t : Temporal) (L : List Launch) (a : Int) (i k : Nat) : Bool := decide ((lau L i).At = a ∧ k ≠ i ∧ (lau L i).Job = (lau L k).Job ∧ ((lau L k).At < a ∧ a ≤ endT t (lau L k) ∨ (lau L k).At = a ∧ k < i))
def ovL (t : Temporal) (L : List Launch) (a : Int) : List simulate_Problem := (List.range L.length).flatMap fun i => (List.range L.length).flatMap fun k => if ovB t L a i k then [⟨a, 18, (i : Int), (k : Int), -1⟩] else []
noncomputable def inP (t : Temporal) (L : List Launch) (a : Int) (x y : Nat × Bool) : List simulate_Problem := if 0 ≤ meetV (jH t L x) (jH t L y) x.2 y.2 then [⟨a, 17, (x.1 : Int), (y.1 : Int), meetV (jH t L x) (jH t L y) x.2 y.2⟩] else []
noncomputable def inL (t : Temporal) (L : List Launch) (a : Int) : List simulate_Problem := prsI (inP t L a) (evI t L a)
def preL (t : Temporal) (L : List Launch) (a : Int) (s : List Int) : List simulate_Problem := (evI t L a).flatMap fun x => (lackF (rdX t L x) s).flatMap fun f => [⟨a, 12, (x.1 : Int), -1, f.Var⟩]
def ovrL (t : Temporal) (L : List Launch) (a : Int) (s' : List Int) : List simulate_Problem := (List.range L.length).flatMap fun i => if (lau L i).At ≤ a ∧ a < endT t (lau L i) then (lackF (jb t (lau L i)).Over s').flatMap fun f => [⟨a, 16, (i : Int), -1, f.Var⟩] else []
noncomputable def probs (t : Temporal) (L : List Launch) (a : Int) (s s' : List Int) : List simulate_Problem := ovL t L a ++ inL t L a ++ preL t L a s ++ ovrL t L a s'
theorem ndShort : ∀ {n : Nat} {L : List Nat}, L.Nodup → (∀ x ∈ L, x < n) → L.length ≤ n
  | 0, L, _, h => by
    cases L with
    | nil => simp
    | cons a L => have := h a (by simp); omega
  | n + 1, L, hn, h => by
    have h1 : (L.filter fun x => decide (x ≠ n)).length ≤ n := ndShort (hn.sublist List.filter_sublist) (by
      intro x hx
      simp only [List.mem_filter, decide_eq_true_eq] at hx
      have := h x hx.1
      omega)
    have h2 : L.length ≤ (L.filter fun x => decide (x ≠ n)).length + 1 := by
      clear h h1
      induction L with
      | nil => simp
      | cons a L ih =>
        obtain ⟨ha, hL⟩ := List.nodup_cons.1 hn
        by_cases e : a = n
        · subst e
          have : (L.filter fun x => decide (x ≠ a)) = L := by
            apply List.filter_eq_self.2
            intro x hx
            simp only [decide_eq_true_eq]
            rintro rfl; exact ha hx
          have e2 : ((a :: L).filter fun x => decide (x ≠ a)) = L.filter fun x => decide (x ≠ a) := by rw [List.filter_cons]; simp
          rw [e2, this]; simp
        · have := ih hL
          simp only [List.filter_cons, ne_eq, e, not_false_eq_true, decide_true, if_true, List.length_cons] at *
          omega
    omega
theorem len64 {n : Nat} {l : List Fact} (h : FactsOK n l) (hn : n ≤ 64) : l.length ≤ 64 := by
  have h1 := ndShort (n := n) (L := l.map fun f => f.Var.toNat) (by
    rw [List.Nodup, List.pairwise_map]
    refine List.Pairwise.imp_of_mem (fun {x y} hx hy hxy e => ?_) h.asc
    have := h.rng x hx; have := h.rng y hy; omega) (by
    intro v hv
    obtain ⟨f, hf, rfl⟩ := List.mem_map.1 hv
    have := h.rng f hf; omega)
  rw [List.length_map] at h1
  omega
theorem prsG_len {α β : Type} {f : α → α → List β} (hf : ∀ x y, (f x y).length ≤ 1) (l : List α) (i : Nat) : (prsG f l i).length ≤ l.length := by
  unfold prsG
  split
  · rename_i x _
    have := flatMap_le (l := l.drop (i + 1)) (k := 1) (f := f x) fun y _ => hf x y
    rw [List.length_drop] at this
    omega
  · simp
theorem prsI_len {α β : Type} {f : α → α → List β} (hf : ∀ x y, (f x y).length ≤ 1) (l : List α) : (prsI f l).length ≤ l.length * l.length := by
  have h := flatMap_le (l := List.range l.length) (k := l.length) (f := prsG f l) fun i _ => prsG_len hf l i
  rw [List.length_range] at h
  exact h
section
variable {t : Temporal} {L : List Launch} {a : Int}
theorem ovL_len : (ovL t L a).length ≤ L.length * L.length := by
  have h := flatMap_le (l := List.range L.length) (k := L.length) (f := fun i => (List.range L.length).flatMap fun k => if ovB t L a i k then [(⟨a, 18, (i : Int), (k : Int), -1⟩ : simulate_Problem)] else []) fun i _ => by
    have := flatMap_le (l := List.range L.length) (k := 1) (f := fun k => if ovB t L a i k then [(⟨a, 18, (i : Int), (k : Int), -1⟩ : simulate_Problem)] else []) fun k _ => by split <;> simp
    simpa using this
  rw [List.length_range] at h
  exact h
theorem sq_le {n m : Nat} (h : n ≤ m) : n * n ≤ m * m := Nat.mul_le_mul h h
theorem inP_len (x y : Nat × Bool) : (inP t L a x y).length ≤ 1 := by unfold inP; split <;> simp
theorem inL_len (hn : L.length ≤ 40) : (inL t L a).length ≤ 6400 := by
  have h1 := prsI_len (inP_len (t := t) (L := L) (a := a)) (evI t L a)
  have h2 := evI_len (t := t) (L := L) (a := a)
  have := sq_le (n := (evI t L a).length) (m := 80) (by omega)
  unfold inL; omega
theorem one_len {α β : Type} (l : List α) (f : α → β) : (l.flatMap fun x => [f x]).length = l.length := by induction l with | nil => rfl | cons x l ih => simp [ih]
theorem preL_len (hA : Acc t L) (hn : L.length ≤ 40) {s : List Int} : (preL t L a s).length ≤ 5120 := by
  have h := flatMap_le (l := evI t L a) (k := 64) (f := fun x => (lackF (rdX t L x) s).flatMap fun f => [(⟨a, 12, (x.1 : Int), -1, f.Var⟩ : simulate_Problem)]) fun x hx => by
    rw [one_len]
    have := lackF_len (rdX t L x) s
    have := len64 (rdX_ok hA (mem_evI.1 hx).1) hA.chk.vars
    omega
  have h2 := evI_len (t := t) (L := L) (a := a)
  unfold preL; omega
theorem over_len (hA : Acc t L) {i : Nat} (hi : i < L.length) : (jb t (lau L i)).Over.length ≤ 64 := len64 (hA.chk.job _ (jb_mem (hA.ok _ (lau_mem hi)))).over hA.chk.vars
theorem ovrL_len (hA : Acc t L) (hn : L.length ≤ 40) {s : List Int} : (ovrL t L a s).length ≤ 2560 := by
  have h := flatMap_le (l := List.range L.length) (k := 64) (f := fun i => if (lau L i).At ≤ a ∧ a < endT t (lau L i) then (lackF (jb t (lau L i)).Over s).flatMap fun f => [(⟨a, 16, (i : Int), -1, f.Var⟩ : simulate_Problem)] else []) fun i hi => by
    split
    · rw [one_len]
      have := lackF_len (jb t (lau L i)).Over s
      have := over_len hA (i := i) (by simpa using hi)
      omega
    · simp
  rw [List.length_range] at h
  unfold ovrL; omega
theorem probs_len (hA : Acc t L) (hn : L.length ≤ 40) {s s' : List Int} : (probs t L a s s').length ≤ 20000 := by
  unfold probs
  rw [List.length_append, List.length_append, List.length_append]
  have h1 := ovL_len (t := t) (L := L) (a := a)
  have := sq_le hn
  have := inL_len (t := t) (a := a) hn
  have := preL_len (a := a) hA hn (s := s)
  have := ovrL_len (a := a) hA hn (s := s')
  omega
theorem runend_ok (hA : Acc t L) {o : simulate_Report} {i : Nat} (hi : i < L.length) : simulate_run_end_p ⟨t, L, o⟩ (i : Int) = some (endT t (lau L i)) := by
  have := end_ok hA.chk (hA.ok _ (lau_mem hi))
  unfold temporal_end_p at this
  unfold simulate_run_end_p
  rw [idx_nat, lau_get hi]
  exact this
theorem runend51_ok (hA : Acc t L) {o : simulate_Report} {i : Nat} (hi : i < L.length) : simulate_run_end_38_p ⟨t, L, o⟩ (i : Int) = some (endT t (lau L i)) := by
  have := runend_ok hA (o := o) hi
  unfold simulate_run_end_p at this
  unfold simulate_run_end_38_p
  exact this
theorem report_ok {t : Temporal} {L : List Launch} {o : simulate_Report} (h : o.Problems.length ≤ 1000000000) (a b c d e : Int) : simulate_run_report_p ⟨t, L, o⟩ a b c d e = some (o.Problems ++ [⟨a, b, c, d, e⟩]) := by
  unfold simulate_run_report_p
  rw [app_ok (by simp; omega)]; rfl
theorem overlapsR_ok (hA : Acc t L) (hn : L.length ≤ 40) {o : simulate_Report} (ho : o.Problems.length ≤ 100000000) : simulate_run_overlaps_p ⟨t, L, o⟩ a = some (o.Problems ++ ovL t L a) := by
  unfold simulate_run_overlaps_p
  simp only
  rw [forAppN (n := L.length) (base := o.Problems) (g := fun i => (List.range L.length).flatMap fun k => if ovB t L a i k then [(⟨a, 18, (i : Int), (k : Int), -1⟩ : simulate_Problem)] else []) L.length (fun i _ => by
    have := flatMap_le (l := List.range L.length) (k := 1) (f := fun k => if ovB t L a i k then [(⟨a, 18, (i : Int), (k : Int), -1⟩ : simulate_Problem)] else []) fun k _ => by split <;> simp
    simpa using this)]
  · rfl
  · intro i out hi hout
    have hsq := sq_le hn
    rw [idx_nat, lau_get hi, Option.bind_some]
    rw [forAppN (n := L.length) (base := out) (g := fun k => if ovB t L a i k then [(⟨a, 18, (i : Int), (k : Int), -1⟩ : simulate_Problem)] else []) 1 (fun k _ => by split <;> simp)]
    · rfl
    · intro k out2 hk hout2
      rw [idx_nat, lau_get hk, Option.bind_some]
      have e : (if decide ((lau L i).At = a) then (if !decide ((k : Int) = (i : Int)) then (if decide ((lau L i).Job = (lau L k).Job) then (if decide ((lau L k).At < a) then ((simulate_run_end_38_p (⟨t, L, (⟨o.Events, o.States, out2, o.Makespan⟩ : simulate_Report)⟩ : simulate_run) (k : Int)).bind <| fun (y100 : Int) =>
          if decide (a ≤ y100) then (some true)
          else (if decide ((lau L k).At = a) then (some (decide ((k : Int) < (i : Int))))
          else (some false)))
          else (if decide ((lau L k).At = a) then (some (decide ((k : Int) < (i : Int))))
          else (some false)))
          else (some false))
          else (some false))
          else (some false)) = some (ovB t L a i k) := by
        rw [runend51_ok hA hk]
        unfold ovB
        by_cases c1 : (lau L i).At = a
        · by_cases c2 : (k : Int) = (i : Int)
          · have : k = i := by omega
            simp [c1, this]
          · have c2' : k ≠ i := by omega
            by_cases c3 : (lau L i).Job = (lau L k).Job
            · have d3 : decide ((lau L i).Job = (lau L k).Job) = true := by simp [c3]
              by_cases c4 : (lau L k).At < a
              · by_cases c5 : a ≤ endT t (lau L k)
                · simp [c1, c2, c2', c3, c4, c5]
                · have : ¬ (lau L k).At = a := by omega
                  simp [c1, c2, c2', c3, c4, c5, this]
              · by_cases c6 : (lau L k).At = a
                · simp [c1, c2, c2', c3, c4, c6]
                · simp [c1, c2, c2', c3, c4, c6]
            · simp [c1, c2, c2', c3]
        · simp [c1]
      rw [e, Option.bind_some]
      by_cases c : ovB t L a i k
      · rw [if_pos c, report_ok (by simp only; omega)]
        simp [c]
      · rw [if_neg c]; simp [c]
theorem lack_loop {β : Type} {l : List Fact} {g : Fact → β} {B : Nat → List β → Option (List β)} {base : List β} (hl : l.length ≤ 64)
    (h : ∀ (i : Nat) (x : Fact) (out : List β), l[i]? = some x → out.length ≤ base.length + 64 → B i out = some (out ++ [g x])) : forS B l.length 0 base = some (base ++ l.flatMap fun x => [g x]) :=
  forApp 1 (fun _ _ => by simp) fun i x out hx ho => h i x out hx (by omega)
end
end Go.Pw
/-
  Simulation: a tick's problems and the error that the library finds there.
-/
namespace Go.Pw
theorem prsI_nil {α β : Type} {f : α → α → List β} {l : List α} : prsI f l = [] ↔ l.Pairwise fun x y => f x y = [] := by
  unfold prsI
  rw [List.flatMap_eq_nil_iff, List.pairwise_iff_getElem]
  constructor
  · intro h i j hi hj hij
    have h1 := h i (by simpa using hi)
    rw [prsG_get (List.getElem?_eq_getElem hi)] at h1
    simp only [List.flatMap_eq_nil_iff] at h1
    refine h1 l[j] ?_
    rw [List.mem_drop_iff_getElem]
    exact ⟨j - (i + 1), by omega, by congr 1; omega⟩
  · intro h i hi
    have hi' : i < l.length := by simpa using hi
    rw [prsG_get (List.getElem?_eq_getElem hi')]
    simp only [List.flatMap_eq_nil_iff]
    intro y hy
    rw [List.mem_drop_iff_getElem] at hy
    obtain ⟨j, hj, rfl⟩ := hy
    exact h i _ hi' (by omega) (by omega)
section
variable {t : Temporal} {L : List Launch} {a : Int} {s s' : List Int}
theorem ovL_nil (hA : Acc t L) : ovL t L a = [] ↔ NoOv t L a := by
  unfold ovL NoOv
  rw [List.flatMap_eq_nil_iff]
  have e : ∀ i k, (if ovB t L a i k then [(⟨a, 18, (i : Int), (k : Int), -1⟩ : simulate_Problem)] else []) = [] ↔ ovB t L a i k = false := fun i k => by cases ovB t L a i k <;> simp
  constructor
  · intro h i k hi hk hne h1 h2 ⟨h3, h4⟩
    have hb : ∀ i k, i < L.length → k < L.length → ovB t L a i k = false := fun i k hi hk => by
      have h1 := h i (by simpa using hi)
      rw [List.flatMap_eq_nil_iff] at h1
      exact (e i k).1 (h1 k (by simpa using hk))
    have n1 := hb i k hi hk
    have n2 := hb k i hk hi
    unfold ovB at n1 n2
    have n1 := dec_f n1
    have n2 := dec_f n2
    have g := endT_gt hA.chk (hA.ok _ (lau_mem hi))
    rcases Int.lt_or_eq_of_le h3 with h5 | h5
    · exact n1 ⟨h1, Ne.symm hne, h2, .inl ⟨h5, h4⟩⟩
    · rcases Nat.lt_or_gt_of_ne hne with h6 | h6
      · exact n2 ⟨h5, hne, h2.symm, .inr ⟨h1, h6⟩⟩
      · exact n1 ⟨h1, Ne.symm hne, h2, .inr ⟨h5, h6⟩⟩
  · intro h i hi
    rw [List.flatMap_eq_nil_iff]
    intro k hk
    rw [e]
    have hi : i < L.length := by simpa using hi
    have hk : k < L.length := by simpa using hk
    unfold ovB
    refine decide_eq_false fun ⟨h1, h2, h3, h4⟩ => h i k hi hk (Ne.symm h2) h1 h3 ?_
    have g := endT_gt hA.chk (hA.ok _ (lau_mem hk))
    rcases h4 with h4 | h4 <;> omega
theorem inP_nil (hA : Acc t L) {x y : Nat × Bool} (hx : x.1 < L.length) (hy : y.1 < L.length) : inP t L a x y = [] ↔ intX t L x y = false := by
  unfold inP
  have h := meetV_int (jH_ok hA hx) (jH_ok hA hy) x.2 y.2
  unfold intX
  by_cases c : 0 ≤ meetV (jH t L x) (jH t L y) x.2 y.2
  · rw [if_pos c, h.1 c]; simp
  · rw [if_neg c]
    have : intB (jH t L x) (jH t L y) x.2 y.2 ≠ true := fun e => c (h.2 e)
    simp [this]
theorem inL_nil (hA : Acc t L) : inL t L a = [] ↔ NoInt t L a := by
  unfold inL
  rw [prsI_nil]
  constructor
  · intro h x y hx hy tx ty hne
    obtain ⟨i, hi, ei⟩ := List.mem_iff_getElem.1 (mem_evI.2 ⟨hx, tx⟩)
    obtain ⟨j, hj, ej⟩ := List.mem_iff_getElem.1 (mem_evI.2 ⟨hy, ty⟩)
    have hp := List.pairwise_iff_getElem.1 h
    rcases Nat.lt_trichotomy i j with k | k | k
    · have := hp i j hi hj k
      rw [ei, ej] at this
      exact (inP_nil hA hx hy).1 this
    · subst k; exact absurd (ei.symm.trans ej) hne
    · have := hp j i hj hi k
      rw [ei, ej] at this
      rw [intX_comm]
      exact (inP_nil hA hy hx).1 this
  · intro h
    refine List.Pairwise.imp_of_mem (fun {x y} hx hy hne => ?_) (evI_nodup (t := t) (L := L) (a := a))
    have hx := mem_evI.1 hx
    have hy := mem_evI.1 hy
    exact (inP_nil hA hx.1 hy.1).2 (h x y hx.1 hy.1 hx.2 hy.2 hne)
theorem ones_nil {α β : Type} {l : List α} {f : α → β} : (l.flatMap fun x => [f x]) = [] ↔ l = [] := by cases l <;> simp
theorem preL_nil : preL t L a s = [] ↔ PreOK t L a s := by
  unfold preL PreOK
  rw [List.flatMap_eq_nil_iff]
  constructor
  · intro h x hx tx
    have := h x (mem_evI.2 ⟨hx, tx⟩)
    rw [ones_nil] at this
    exact (holdsB_lack _ _).2 this
  · intro h x hx
    have hx := mem_evI.1 hx
    rw [ones_nil]
    exact (holdsB_lack _ _).1 (h x hx.1 hx.2)
theorem ovrL_nil : ovrL t L a s' = [] ↔ OverOK t L a s' := by
  unfold ovrL OverOK
  rw [List.flatMap_eq_nil_iff]
  constructor
  · intro h i hi h1 h2
    have := h i (by simpa using hi)
    rw [if_pos ⟨h1, h2⟩, ones_nil] at this
    exact (holdsB_lack _ _).2 this
  · intro h i hi
    split
    · rename_i c
      rw [ones_nil]
      exact (holdsB_lack _ _).1 (h i (by simpa using hi) c.1 c.2)
    · rfl
theorem probs_nil (hA : Acc t L) : probs t L a s s' = [] ↔ NoOv t L a ∧ NoInt t L a ∧ PreOK t L a s ∧ OverOK t L a s' := by
  unfold probs
  rw [List.append_eq_nil_iff, List.append_eq_nil_iff, List.append_eq_nil_iff, ovL_nil hA, inL_nil hA, preL_nil, ovrL_nil]
  simp only [and_assoc]
theorem ovL_kind : ∀ p ∈ ovL t L a, p.Kind = 18 ∧ p.At = a := fun p hp => by
  unfold ovL at hp
  obtain ⟨i, _, hp⟩ := List.mem_flatMap.1 hp
  obtain ⟨k, _, hp⟩ := List.mem_flatMap.1 hp
  split at hp
  · rw [List.mem_singleton] at hp
    subst hp; exact ⟨rfl, rfl⟩
  · simp at hp
theorem prsI_mem {α β : Type} {f : α → α → List β} {l : List α} {p : β} (h : p ∈ prsI f l) : ∃ x ∈ l, ∃ y ∈ l, p ∈ f x y := by
  unfold prsI at h
  obtain ⟨i, hi, hp⟩ := List.mem_flatMap.1 h
  have hi' : i < l.length := by simpa using hi
  rw [prsG_get (List.getElem?_eq_getElem hi')] at hp
  obtain ⟨y, hy, hp⟩ := List.mem_flatMap.1 hp
  exact ⟨_, List.getElem_mem hi', y, List.mem_of_mem_drop hy, hp⟩
theorem inL_kind : ∀ p ∈ inL t L a, p.Kind = 17 ∧ p.At = a := fun p hp => by
  obtain ⟨x, _, y, _, hp⟩ := prsI_mem hp
  unfold inP at hp
  split at hp
  · rw [List.mem_singleton] at hp
    subst hp; exact ⟨rfl, rfl⟩
  · simp at hp
theorem preL_kind : ∀ p ∈ preL t L a s, p.Kind = 12 ∧ p.At = a := fun p hp => by
  unfold preL at hp
  obtain ⟨x, _, hp⟩ := List.mem_flatMap.1 hp
  obtain ⟨f, _, hp⟩ := List.mem_flatMap.1 hp
  rw [List.mem_singleton] at hp
  subst hp; exact ⟨rfl, rfl⟩
theorem ovrL_kind : ∀ p ∈ ovrL t L a s', p.Kind = 16 ∧ p.At = a := fun p hp => by
  unfold ovrL at hp
  obtain ⟨i, _, hp⟩ := List.mem_flatMap.1 hp
  split at hp
  · obtain ⟨f, _, hp⟩ := List.mem_flatMap.1 hp
    rw [List.mem_singleton] at hp
    subst hp; exact ⟨rfl, rfl⟩
  · simp at hp
/-- What a tick says, exactly. -/
def TickS (t : Temporal) (L : List Launch) (a : Int) (s : List Int) (r : List Int × Option Int) : Prop :=
  (r.2 = none ∧ NoOv t L a ∧ NoInt t L a ∧ PreOK t L a s ∧ r.1 = aftX t L a s ∧ OverOK t L a (aftX t L a s)) ∨ (r.2 = some 18 ∧ ¬ NoOv t L a) ∨ (r.2 = some 17 ∧ NoOv t L a ∧ ¬ NoInt t L a) ∨ (r.2 = some 12 ∧ NoOv t L a ∧ NoInt t L a ∧ ¬ PreOK t L a s) ∨ (r.2 = some 16 ∧ NoOv t L a ∧ NoInt t L a ∧ PreOK t L a s ∧ ¬ OverOK t L a (aftX t L a s))
theorem tick_s (hA : Acc t L) (hs : s.length = t.Vars.length) (a : Int) : Ok (temporal_tick_p t L a s (hapsAt t L a)) (TickS t L a s) := by
  unfold temporal_tick_p
  have hlen : (hapsAt t L a).length ≤ 8192 := by have := hapsAt_len t a L; have := hA.len; omega
  have hil : (ixA t L a).length = (hapsAt t L a).length := by rw [hapsAt_ix, List.length_map]
  obtain ⟨b, hb, hov⟩ := overlaps_ok hA a
  refine Ok.step hb (Ok.ite (fun h => ⟨_, rfl, .inr (.inl ⟨rfl, fun hn => by rw [hov.2 hn] at h; cases h⟩)⟩) fun h => ?_)
  have hno := hov.1 h
  refine Ok.ctl (fun i _ => ∀ (p q : Nat) (x y : Nat × Bool), p < i → q < p → (ixA t L a)[p]? = some x → (ixA t L a)[q]? = some y → intX t L x y = false) (fun r => r.2 = some 17 ∧ ¬ NoInt t L a) (fun p q x y h => by omega) ?_ (fun r hr => ⟨r, rfl, .inr (.inr (.inl ⟨hr.1, hno, hr.2⟩))⟩) fun _ hni => ?_
  · intro i _ hi hin
    refine Ok.must (by simp; omega) ?_
    rw [Int.toNat_natCast]
    have hi' : i < (ixA t L a).length := by omega
    have gx := List.getElem?_eq_getElem hi'
    refine Ok.ctl (fun k _ => ∀ (q : Nat) (y : Nat × Bool), q < k → (ixA t L a)[q]? = some y → intX t L (ixA t L a)[i] y = false) (fun r => r.2 = some 17 ∧ ¬ NoInt t L a) (fun q y h => by omega) ?_ (fun r hr => ⟨_, rfl, hr⟩) fun _ hk => ⟨_, rfl, fun p q x y h1 h2 h3 h4 => ?_⟩
    · intro k _ hk hkn
      have hk' : k < (ixA t L a).length := by omega
      have gy := List.getElem?_eq_getElem hk'
      have mx := mem_ixA.1 (List.getElem_mem hi')
      have my := mem_ixA.1 (List.getElem_mem hk')
      refine Ok.step (by rw [idx_nat]; exact ix_get gx) (Ok.step (by rw [idx_nat]; exact ix_get gy) (Ok.step (interfere_ok (jH_idx hA mx.1) (jH_idx hA my.1)) ?_))
      refine Ok.ite (fun h => ⟨_, rfl, rfl, fun hn => ?_⟩) fun h => ⟨_, rfl, fun q y h1 h2 => ?_⟩
      · have h2 := hn _ _ mx.1 my.1 mx.2 my.2 fun e => (List.pairwise_iff_getElem.1 (ixA_nodup t L a)) k i hk' hi' hk e.symm
        have h3 : intX t L (ixA t L a)[i] (ixA t L a)[k] = true := h
        rw [h2] at h3; cases h3
      · by_cases e : q = k
        · subst e; rw [gy] at h2; cases h2; exact h
        · exact hkn q y (by omega) h2
    · by_cases e : p = i
      · subst e; rw [gx] at h3; cases h3; exact hk q y h2 h4
      · exact hin p q x y (by omega) h2 h3 h4
  have hnI : NoInt t L a := by
    intro x y hx hy tx ty hne
    obtain ⟨p, hp, ep⟩ := List.mem_iff_getElem.1 (mem_ixA.2 ⟨hx, tx⟩)
    obtain ⟨q, hq, eq⟩ := List.mem_iff_getElem.1 (mem_ixA.2 ⟨hy, ty⟩)
    have gp : (ixA t L a)[p]? = some x := by rw [List.getElem?_eq_getElem hp, ep]
    have gq : (ixA t L a)[q]? = some y := by rw [List.getElem?_eq_getElem hq, eq]
    rcases Nat.lt_trichotomy p q with h | h | h
    · rw [intX_comm]; exact hni q p y x (by omega) h gq gp
    · subst h; exact absurd (ep.symm.trans eq) hne
    · exact hni p q x y (by omega) h gp gq
  refine Ok.ctl (fun i _ => ∀ (p : Nat) (x : Nat × Bool), p < i → (ixA t L a)[p]? = some x → holdsB (rdX t L x) s = true) (fun r => r.2 = some 12 ∧ ¬ PreOK t L a s) (fun p x h => by omega) ?_ (fun r hr => ⟨r, rfl, .inr (.inr (.inr (.inl ⟨hr.1, hno, hnI, hr.2⟩)))⟩) fun _ hpr => ?_
  · intro i _ hi hin
    have hi' : i < (ixA t L a).length := by omega
    have gx := List.getElem?_eq_getElem hi'
    have mx := mem_ixA.1 (List.getElem_mem hi')
    refine Ok.step (by rw [idx_nat]; exact ix_get gx) (Ok.step (reads_ok (jH_idx hA mx.1)) (Ok.step (Holds_ok _ _) ?_))
    refine Ok.ite (fun h => ⟨_, rfl, rfl, fun hn => ?_⟩) fun h => ⟨_, rfl, fun p x h1 h2 => ?_⟩
    · have h2 := hn _ mx.1 mx.2
      have h3 : holdsB (rdH (jH t L (ixA t L a)[i]) (hpOf L (ixA t L a)[i]).end_) s = true := h2
      rw [h3] at h; cases h
    · by_cases e : p = i
      · subst e; rw [gx] at h2; cases h2
        have h3 : holdsB (rdH (jH t L (ixA t L a)[p]) (hpOf L (ixA t L a)[p]).end_) s = true := by simpa using h
        exact h3
      · exact hin p x (by omega) h2
  have hpre : PreOK t L a s := by
    intro x hx tx
    obtain ⟨p, hp, ep⟩ := List.mem_iff_getElem.1 (mem_ixA.2 ⟨hx, tx⟩)
    exact hpr p x (by omega) (by rw [List.getElem?_eq_getElem hp, ep])
  refine Ok.step (after_eq hA hs a) ?_
  generalize he : aftX t L a s = s'
  refine Ok.ctl (fun j _ => ∀ i, i < j → i < L.length → (lau L i).At ≤ a → a < endT t (lau L i) → holdsB (jb t (lau L i)).Over s' = true) (fun r => r.2 = some 16 ∧ ¬ OverOK t L a s') (fun i h => by omega) ?_ (fun r hr => ⟨r, rfl, .inr (.inr (.inr (.inr ⟨hr.1, hno, hnI, hpre, by rw [he]; exact hr.2⟩)))⟩) fun _ hov => ⟨_, rfl, .inl ⟨rfl, hno, hnI, hpre, he.symm, by rw [he]; exact fun i hi => hov i hi hi⟩⟩
  intro j _ hj hin
  refine Ok.step (by rw [idx_nat]; exact lau_get hj) ?_
  have hok := hA.ok _ (lau_mem hj)
  have nx : ((lau L j).At ≤ a → a < endT t (lau L j) → holdsB (jb t (lau L j)).Over s' = true) → ∀ i, i < j + 1 → i < L.length → (lau L i).At ≤ a → a < endT t (lau L i) → holdsB (jb t (lau L i)).Over s' = true := fun h i h1 h2 => by
    by_cases e : i = j
    · subst e; exact h
    · exact hin i (by omega) h2
  by_cases c1 : (lau L j).At ≤ a
  · by_cases c2 : a < endT t (lau L j)
    · simp only [c1, c2, decide_true, if_true, end_ok hA.chk hok, jb_idx hok, Holds_ok, Option.bind_some]
      refine Ok.ite (fun h => ⟨_, rfl, rfl, fun hn => ?_⟩) fun h => ⟨_, rfl, nx fun _ _ => by simpa using h⟩
      rw [hn j hj c1 c2] at h; cases h
    · simp only [c1, c2, decide_true, decide_false, Bool.false_eq_true, if_true, if_false, end_ok hA.chk hok, Option.bind_some]
      exact ⟨_, rfl, nx fun _ h => absurd h c2⟩
  · simp only [c1, decide_false, Bool.false_eq_true, if_false, Option.bind_some]
    exact ⟨_, rfl, nx fun h => absurd h c1⟩
theorem head_kind {k : Int} {l m : List simulate_Problem} (h : ∀ p ∈ l, p.Kind = k) (hn : l ≠ []) : ∃ p q, l ++ m = p :: q ∧ p.Kind = k := by
  cases l with
  | nil => exact absurd rfl hn
  | cons p q => exact ⟨p, q ++ m, rfl, h p (by simp)⟩
/-- .. and the problems. -/
theorem TickS.probs (hA : Acc t L) {r : List Int × Option Int} (h : TickS t L a s r) : (r.2 = none ∧ r.1 = aftX t L a s ∧ probs t L a s (aftX t L a s) = []) ∨ ∃ z p q, r.2 = some z ∧ probs t L a s (aftX t L a s) = p :: q ∧ p.Kind = z ∧ (z = 18 ∨ z = 17 ∨ z = 12 ∨ z = 16) := by
  rcases h with ⟨h1, h2, h3, h4, h5, h6⟩ | ⟨h1, h2⟩ | ⟨h1, h2, h3⟩ | ⟨h1, h2, h3, h4⟩ | ⟨h1, h2, h3, h4, h6⟩
  · exact .inl ⟨h1, h5, (probs_nil hA).2 ⟨h2, h3, h4, h6⟩⟩
  · obtain ⟨p, q, e1, e2⟩ := head_kind (m := inL t L a ++ preL t L a s ++ ovrL t L a (aftX t L a s)) (fun p hp => (ovL_kind (t := t) (L := L) (a := a) p hp).1) (fun e => h2 ((ovL_nil hA).1 e))
    exact .inr ⟨18, p, q, h1, by unfold Go.Pw.probs; rw [← e1]; simp only [List.append_assoc], e2, .inl rfl⟩
  · obtain ⟨p, q, e1, e2⟩ := head_kind (m := preL t L a s ++ ovrL t L a (aftX t L a s)) (fun p hp => (inL_kind (t := t) (L := L) (a := a) p hp).1) (fun e => h3 ((inL_nil hA).1 e))
    exact .inr ⟨17, p, q, h1, by unfold Go.Pw.probs; rw [(ovL_nil hA).2 h2, ← e1]; simp only [List.append_assoc, List.nil_append], e2, .inr (.inl rfl)⟩
  · obtain ⟨p, q, e1, e2⟩ := head_kind (m := ovrL t L a (aftX t L a s)) (fun p hp => (preL_kind (t := t) (L := L) (a := a) (s := s) p hp).1) (fun e => h4 (preL_nil.1 e))
    exact .inr ⟨12, p, q, h1, by unfold Go.Pw.probs; rw [(ovL_nil hA).2 h2, (inL_nil hA).2 h3, ← e1]; simp only [List.append_assoc, List.nil_append], e2, .inr (.inr (.inl rfl))⟩
  · obtain ⟨p, q, e1, e2⟩ := head_kind (m := []) (fun p hp => (ovrL_kind (t := t) (L := L) (a := a) (s' := aftX t L a s) p hp).1) (fun e => h6 (ovrL_nil.1 e))
    exact .inr ⟨16, p, q, h1, by unfold Go.Pw.probs; rw [(ovL_nil hA).2 h2, (inL_nil hA).2 h3, preL_nil.2 h4, ← e1]; simp only [List.append_nil, List.nil_append], e2, .inr (.inr (.inr rfl))⟩
/-! ### the program's tick -/
theorem cut_drop {α : Type} {l : List α} {i : Nat} (hi : i < l.length) (hl : l.length ≤ 1000000) : cut l (IntKind.i64.wrap ((i : Int) + 1)) (l.length : Int) = some (l.drop (i + 1)) := by
  rw [wrap_id (by omega) (by omega)]
  unfold cut
  rw [if_pos (by omega)]
  rw [Int.toNat_natCast, List.take_length]
  rfl
theorem run_tick_ok {fu : Nat} (hfu : 1000 ≤ fu) (hA : Acc t L) (hn : L.length ≤ 40) {o : simulate_Report} (hP : o.Problems.length ≤ 10000000) (hS : o.States.length ≤ 100000) (hs : s.length = t.Vars.length) :
    Ok (simulate_run_tick_p fu ⟨t, L, o⟩ a (evT t L a) s) fun r => AftOK t L a s r.1 ∧ ((evT t L a).length ≤ 20 → r.1 = aftX t L a s) ∧ r.2.1 = o.States ++ [r.1] ∧ r.2.2 = o.Problems ++ probs t L a s r.1 := by
  have hel : (evT t L a).length = (evI t L a).length := by unfold evT; rw [List.length_map]
  have hev := evI_len (t := t) (L := L) (a := a)
  have hg : ∀ {i : Nat} {x : Nat × Bool}, (evI t L a)[i]? = some x → (evT t L a)[i]? = some (evX t L x) := fun h => by unfold evT; rw [List.getElem?_map, h]; rfl
  have l1 := ovL_len (t := t) (L := L) (a := a)
  have l2 := inL_len (t := t) (L := L) (a := a) hn
  have l3 := preL_len (a := a) hA hn (s := s)
  have hsq := sq_le hn
  unfold simulate_run_tick_p
  refine Ok.step (overlapsR_ok hA hn (by omega)) ?_
  have hI : forS (fun i100 => fun (l102 : (List simulate_Problem)) => (idx (evT t L a) (i100 : Int)).bind fun x101 =>
      (cut (evT t L a) (IntKind.i64.wrap ((i100 : Int) + 1)) ((evT t L a).length : Int)).bind fun c100 =>
      (forS (fun i101 => fun (l103 : (List simulate_Problem)) => (idx c100 (i101 : Int)).bind fun x102 =>
      (simulate_run_job_p (⟨t, L, (⟨o.Events, o.States, l103, o.Makespan⟩ : simulate_Report)⟩ : simulate_run) x101).bind <| fun (y100 : Job) =>
      (simulate_run_job_p (⟨t, L, (⟨o.Events, o.States, l103, o.Makespan⟩ : simulate_Report)⟩ : simulate_run) x102).bind <| fun (y101 : Job) =>
      (simulate_meeting_p y100 x101.End y101 x102.End).bind <| fun (y102 : Int) =>
      (if decide (0 ≤ y102) then ((simulate_run_report_p (⟨t, L, (⟨o.Events, o.States, l103, o.Makespan⟩ : simulate_Report)⟩ : simulate_run) a 17 x101.Launch x102.Launch y102).bind <| fun (l104 : (List simulate_Problem)) =>
      some l104)
      else (some l103)).bind (fun (l105 : (List simulate_Problem)) => some l105)) (c100.length) 0 l102).bind (fun (l103 : (List simulate_Problem)) => some l103)) ((evT t L a).length) 0 (o.Problems ++ ovL t L a) = some ((o.Problems ++ ovL t L a) ++ inL t L a) := by
    rw [hel]
    unfold inL prsI
    refine forAppN (n := (evI t L a).length) (g := prsG (inP t L a) (evI t L a)) 80 (fun i hi => ?_) ?_
    · have := prsG_len (inP_len (t := t) (L := L) (a := a)) (evI t L a) i
      omega
    · intro i out hi ho
      rw [List.length_append] at ho
      have gx := List.getElem?_eq_getElem hi
      have mx := mem_evI.1 (List.getElem_mem hi)
      rw [idx_nat, hg gx, Option.bind_some, ← hel, cut_drop (by omega) (by omega), Option.bind_some, prsG_get gx]
      have hd : (evT t L a).drop (i + 1) = ((evI t L a).drop (i + 1)).map (evX t L) := by unfold evT; rw [List.map_drop]
      rw [hd, List.length_map]
      rw [forApp (xs := (evI t L a).drop (i + 1)) (base := out) (g := inP t L a (evI t L a)[i]) 1 (fun y _ => inP_len _ y)]
      · rfl
      · intro k y out2 hy ho2
        rw [List.length_drop] at ho2
        have my := mem_evI.1 (List.mem_of_mem_drop (List.mem_of_getElem? hy))
        rw [idx_nat, List.getElem?_map, hy]
        simp only [Option.map_some, Option.bind_some]
        rw [runjob_ok hA mx.1, Option.bind_some, runjob_ok hA my.1, Option.bind_some]
        have hm := (meeting_ok (jH_ok hA mx.1) (jH_ok hA my.1) (evI t L a)[i].2 y.2).1
        have e1 : (evX t L (evI t L a)[i]).End = (evI t L a)[i].2 := rfl
        have e2 : (evX t L y).End = y.2 := rfl
        rw [e1, e2, hm, Option.bind_some]
        unfold inP
        by_cases c : 0 ≤ meetV (jH t L (evI t L a)[i]) (jH t L y) (evI t L a)[i].2 y.2
        · rw [if_pos c, if_pos (by simpa using c), report_ok (by simp only; omega)]; rfl
        · rw [if_neg c, if_neg (by simpa using c)]; simp
  simp only []
  refine Ok.bind (Ok.of hI ?_)
  have hPre : ∀ (base : List simulate_Problem), base.length ≤ 20000000 → forS (fun i102 => fun (l106 : (List simulate_Problem)) => (idx (evT t L a) (i102 : Int)).bind fun x103 =>
      (simulate_run_job_p (⟨t, L, (⟨o.Events, o.States, l106, o.Makespan⟩ : simulate_Report)⟩ : simulate_run) x103).bind <| fun (y103 : Job) =>
      (simulate_missing_p ((simulate_happening_t y103 x103.End).1) s).bind <| fun (y104 : (List Fact)) =>
      (forS (fun i103 => fun (l107 : (List simulate_Problem)) => (idx y104 (i103 : Int)).bind fun x104 =>
      (simulate_run_report_p (⟨t, L, (⟨o.Events, o.States, l107, o.Makespan⟩ : simulate_Report)⟩ : simulate_run) a 12 x103.Launch (-1) x104.Var).bind <| fun (l108 : (List simulate_Problem)) =>
      some l108) (y104.length) 0 l106).bind (fun (l107 : (List simulate_Problem)) => some l107)) ((evT t L a).length) 0 base = some (base ++ preL t L a s) := by
    intro base hb
    rw [hel]
    unfold preL
    refine forApp (xs := evI t L a) (g := fun x => (lackF (rdX t L x) s).flatMap fun f => [(⟨a, 12, (x.1 : Int), -1, f.Var⟩ : simulate_Problem)]) 64 (fun x hx => ?_) ?_
    · rw [one_len]
      have := lackF_len (rdX t L x) s
      have := len64 (rdX_ok hA (mem_evI.1 hx).1) hA.chk.vars
      omega
    · intro i x out hx ho
      have mx := mem_evI.1 (List.mem_of_getElem? hx)
      have hl := len64 (rdX_ok hA mx.1) hA.chk.vars
      rw [idx_nat, hg hx, Option.bind_some, runjob_ok hA mx.1, Option.bind_some, hap_eq]
      have e1 : ((rdH (jH t L x) (evX t L x).End, wrH (jH t L x) (evX t L x).End) : List Fact × List Fact).1 = rdX t L x := rfl
      rw [e1, missing_ok s (by omega), Option.bind_some]
      have := lackF_len (rdX t L x) s
      rw [lack_loop (g := fun f => (⟨a, 12, (x.1 : Int), -1, f.Var⟩ : simulate_Problem)) (by omega)]
      · rfl
      · intro k f out2 hf ho2
        rw [idx_nat, hf, Option.bind_some, report_ok (by simp only; omega)]
        rfl
  refine Ok.bind (Ok.of (hPre _ (by simp only [List.length_append]; omega)) ?_)
  refine Ok.bind ((write_ok hfu hA hn hs).mono fun s' hs' => ?_)
  have hOv : ∀ (base : List simulate_Problem), base.length ≤ 30000000 → forS (fun i104 => fun (l109 : (List simulate_Problem)) => (idx L (i104 : Int)).bind fun x105 =>
      (if decide (a < x105.At) then (some true)
      else ((simulate_run_end_38_p (⟨t, L, (⟨o.Events, o.States, l109, o.Makespan⟩ : simulate_Report)⟩ : simulate_run) (i104 : Int)).bind <| fun (y106 : Int) =>
      some (decide (y106 ≤ a)))).bind (fun (z100 : Bool) => if z100 then (some l109)
      else ((idx t.Jobs x105.Job).bind fun x106 =>
      (simulate_missing_p x106.Over s').bind <| fun (y107 : (List Fact)) =>
      (forS (fun i105 => fun (l110 : (List simulate_Problem)) => (idx y107 (i105 : Int)).bind fun x107 =>
      (simulate_run_report_p (⟨t, L, (⟨o.Events, o.States, l110, o.Makespan⟩ : simulate_Report)⟩ : simulate_run) a 16 (i104 : Int) (-1) x107.Var).bind <| fun (l111 : (List simulate_Problem)) =>
      some l111) (y107.length) 0 l109).bind (fun (l110 : (List simulate_Problem)) => some l110)))) (L.length) 0 base = some (base ++ ovrL t L a s') := by
    intro base hb
    unfold ovrL
    refine forAppN (n := L.length) (g := fun i => if (lau L i).At ≤ a ∧ a < endT t (lau L i) then (lackF (jb t (lau L i)).Over s').flatMap fun f => [(⟨a, 16, (i : Int), -1, f.Var⟩ : simulate_Problem)] else []) 64 (fun i hi => ?_) ?_
    · split
      · rw [one_len]
        have := lackF_len (jb t (lau L i)).Over s'
        have := over_len hA hi
        omega
      · simp
    · intro i out hi ho
      have hov := over_len hA hi
      rw [idx_nat, lau_get hi, Option.bind_some, runend51_ok hA hi]
      have e : (if decide (a < (lau L i).At) then (some true) else ((some (endT t (lau L i))).bind fun (y106 : Int) => some (decide (y106 ≤ a)))) = some (!decide ((lau L i).At ≤ a ∧ a < endT t (lau L i))) := by
        by_cases c1 : a < (lau L i).At
        · have c2 : ¬ (lau L i).At ≤ a := by omega
          simp [c1, c2]
        · have c2 : (lau L i).At ≤ a := by omega
          by_cases c3 : a < endT t (lau L i)
          · have c4 : ¬ endT t (lau L i) ≤ a := by omega
            simp [c1, c2, c3, c4]
          · have c4 : endT t (lau L i) ≤ a := by omega
            simp [c1, c2, c3, c4]
      rw [e, Option.bind_some]
      by_cases c : (lau L i).At ≤ a ∧ a < endT t (lau L i)
      · rw [if_neg (by simp [c]), if_pos c, jb_idx (hA.ok _ (lau_mem hi)), Option.bind_some, missing_ok s' (by omega), Option.bind_some]
        have := lackF_len (jb t (lau L i)).Over s'
        rw [lack_loop (g := fun f => (⟨a, 16, (i : Int), -1, f.Var⟩ : simulate_Problem)) (by omega)]
        · rfl
        · intro k f out2 hf ho2
          rw [idx_nat, hf, Option.bind_some, report_ok (by simp only; omega)]
          rfl
      · rw [if_pos (by simp only [c, decide_false, Bool.not_false]), if_neg c, List.append_nil]
  refine Ok.bind (Ok.of (hOv _ (by simp only [List.length_append]; omega)) ?_)
  refine Ok.step (app_ok (by simp; omega)) ⟨_, rfl, hs'.1, hs'.2, rfl, ?_⟩
  unfold probs
  simp only [List.append_assoc]
end
end Go.Pw
