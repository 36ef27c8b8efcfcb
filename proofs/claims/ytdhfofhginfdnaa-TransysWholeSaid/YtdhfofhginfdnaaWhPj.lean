/-
  The projection to one variable, in plain Lean: its words.
-/
import Derived.Test.YtdhfofhginfdnaaWhGd
import Derived.Test.YtdhfofhginfdnaaB3
set_option maxHeartbeats 4000000
set_option linter.unusedSimpArgs false
set_option linter.unusedVariables false
namespace Go.Pw
/-! ### small words -/
theorem index_ok (s : List Int) (v : Int) : Ok (slices_Index___int_int__p s v) fun n => 0 ≤ n ↔ v ∈ s := by
  unfold slices_Index___int_int__p
  refine Ok.ctl (fun i _ => v ∉ s.take i) (fun n => 0 ≤ n ∧ v ∈ s) (by simp) ?_ ?_ ?_
  · rintro i _ hi h
    obtain ⟨x, hx⟩ := get_len hi
    simp only [idx_nat, hx, Option.bind_some]
    by_cases e : v = x
    · simp only [e, decide_true, if_true]
      exact Ok.ret ⟨by omega, List.mem_of_getElem? hx⟩
    · simp only [e, decide_false, Bool.false_eq_true, if_false]
      refine Ok.ret ?_
      show v ∉ s.take (i + 1)
      rw [take_snoc hx]
      simp [h, e]
  · rintro r ⟨h1, h2⟩
    exact Ok.ret ⟨fun _ => h2, fun _ => h1⟩
  · intro _ h
    rw [List.take_length] at h
    exact Ok.ret ⟨fun h => by omega, fun h' => absurd h' h⟩
theorem contains_p (s : List Int) (v : Int) : slices_Contains___int_int__p s v = some (decide (v ∈ s)) := by
  unfold slices_Contains___int_int__p
  obtain ⟨n, hn, h⟩ := index_ok s v
  rw [hn]
  simp only [Option.bind_some, Option.some.injEq]
  by_cases h1 : v ∈ s
  · simp [h1, h.2 h1]
  · have : ¬ 0 ≤ n := fun h2 => h1 (h.1 h2)
    simp [h1, this]
theorem contains_o (s : List Int) (v : Int) : slices_Contains___int_int__o_p s v = some (decide (v ∈ s)) := contains_p s v
open Classical in
theorem has_p (f : List Fact) (v : Int) : project_has_p f v = some (decide (∃ x ∈ f, x.Var = v)) := by
  unfold project_has_p api_Fact__f94_p
  have h1 : Ok (api_Fact__f94_100_p f v) fun n => (0 ≤ n ↔ ∃ x ∈ f, x.Var = v) := by
    unfold api_Fact__f94_100_p
    refine Ok.ctl (fun i _ => ¬ ∃ x ∈ f.take i, x.Var = v) (fun n => 0 ≤ n ∧ ∃ x ∈ f, x.Var = v) (by simp) ?_ ?_ ?_
    · rintro i _ hi h
      obtain ⟨x, hx⟩ := get_len hi
      have ht : project_has_c1_t x v = decide (x.Var = v) := by
        have := project_has_c1_tot x v
        unfold project_has_c1_p at this
        exact (Zu this).symm
      simp only [idx_nat, hx, Option.bind_some, ht]
      by_cases hb : x.Var = v
      · simp only [hb, decide_true, if_true]
        exact Ok.ret ⟨by omega, x, List.mem_of_getElem? hx, hb⟩
      · simp only [hb, decide_false, Bool.false_eq_true, if_false]
        refine Ok.ret ?_
        show ¬ ∃ x ∈ f.take (i + 1), x.Var = v
        rw [take_snoc hx]
        rintro ⟨y, hy, e⟩
        rcases List.mem_append.1 hy with hy | hy
        · exact h ⟨y, hy, e⟩
        · simp only [List.mem_singleton] at hy; subst hy; exact hb e
    · rintro r ⟨h1, h2⟩
      exact Ok.ret ⟨fun _ => h2, fun _ => h1⟩
    · intro _ h
      rw [List.take_length] at h
      exact Ok.ret ⟨fun h => by omega, fun h' => absurd h' h⟩
  obtain ⟨n, hn, h2⟩ := h1
  rw [hn]
  simp only [Option.bind_some, Option.some.injEq]
  by_cases h3 : ∃ x ∈ f, x.Var = v
  · simp only [h3, h2.2 h3, decide_true]
  · have : ¬ 0 ≤ n := fun h => h3 (h2.1 h)
    simp only [h3, this, decide_false]
theorem nodup_int_len {l : List Int} {n : Nat} (hn : l.Nodup) (h : ∀ w ∈ l, 0 ≤ w ∧ w < (n : Int)) : l.length ≤ n := by
  have := nodup_short' (n := n) (L := l.map Int.toNat) ?_ ?_
  · simpa using this
  · refine List.pairwise_map.2 (List.Pairwise.imp_of_mem ?_ hn)
    intro a b ha hb hne e
    have := h a ha
    have := h b hb
    exact hne (by omega)
  · intro x hx
    obtain ⟨y, hy, rfl⟩ := List.mem_map.1 hx
    have := h y hy
    omega
/-! ### the variables outside -/
def Free (o : Op) (v w : Int) : Prop := w ≠ v ∧ (¬ ∃ x ∈ o.Pre, x.Var = w) ∧ ∃ e ∈ o.Effs, e.Var = v ∧ ∃ f ∈ e.When, f.Var = w
theorem sortInts_ok {l : List Int} (h : l.length < 4611686018427387904) : ∃ k, sortInts_p l = some k ∧ k.Perm l ∧ k.Pairwise fun a b => a ≤ b := by
  unfold sortInts_p
  rw [if_pos h]
  refine ⟨_, rfl, List.mergeSort_perm l _, ?_⟩
  have hp : (l.mergeSort fun x y => decide (x ≤ y)).Pairwise (fun x y => decide (x ≤ y) = true) := by
    apply List.pairwise_mergeSort
    · intro a b c h1 h2
      simp only [decide_eq_true_eq] at *
      omega
    · intro a b
      simp only [Bool.or_eq_true, decide_eq_true_eq]
      omega
  exact hp.imp fun h => by simpa using h
theorem outside_ok {vars : List Int} {o : Op} {v : Int} (ho : OpOK vars o) (hn : vars.length ≤ 64) : Ok (project_outside_p o [v]) fun l => l.Nodup ∧ ∀ w, w ∈ l ↔ Free o v w := by
  classical
  unfold project_outside_p
  refine Ok.bind (Ok.forS (fun i l => l.Nodup ∧ (∀ w ∈ l, 0 ≤ w ∧ w < (vars.length : Int)) ∧ ∀ w, w ∈ l ↔ w ≠ v ∧ (¬ ∃ x ∈ o.Pre, x.Var = w) ∧ ∃ e ∈ o.Effs.take i, e.Var = v ∧ ∃ f ∈ e.When, f.Var = w) ⟨by simp, by simp, by simp⟩ ?_ ?_)
  · rintro i l hi ⟨g1, g2, g3⟩
    obtain ⟨e, he⟩ := get_len hi
    have hem := List.mem_of_getElem? he
    simp only [idx_nat, he, Option.bind_some, contains_p, List.mem_singleton]
    by_cases h1 : e.Var = v
    · simp only [h1, decide_true, Bool.not_true, Bool.false_eq_true, if_false]
      refine Ok.bind (Ok.forS (fun j k => k.Nodup ∧ (∀ w ∈ k, 0 ≤ w ∧ w < (vars.length : Int)) ∧ ∀ w, w ∈ k ↔ w ∈ l ∨ w ≠ v ∧ (¬ ∃ x ∈ o.Pre, x.Var = w) ∧ ∃ f ∈ e.When.take j, f.Var = w) ⟨g1, g2, by simp⟩ ?_ ?_)
      · rintro j k hj ⟨f1, f2, f3⟩
        obtain ⟨f, hf⟩ := get_len hj
        have hfm := List.mem_of_getElem? hf
        have hfr := (ho.eff e hem).1.r f hfm
        have hkl := nodup_int_len f1 f2
        simp only [idx_nat, hf, Option.bind_some, contains_p, contains_o, has_p, List.mem_singleton]
        have hstep : ∀ w, (∃ g ∈ e.When.take (j + 1), g.Var = w) ↔ (∃ g ∈ e.When.take j, g.Var = w) ∨ f.Var = w := by
          intro w
          rw [take_snoc hf]
          constructor
          · rintro ⟨g, hg, rfl⟩
            rcases List.mem_append.1 hg with hg | hg
            · exact .inl ⟨g, hg, rfl⟩
            · simp only [List.mem_singleton] at hg; subst hg; exact .inr rfl
          · rintro (⟨g, hg, rfl⟩ | rfl)
            · exact ⟨g, List.mem_append_left _ hg, rfl⟩
            · exact ⟨f, by simp, rfl⟩
        have hstay : (f.Var = v ∨ (∃ x ∈ o.Pre, x.Var = f.Var) ∨ f.Var ∈ k) → ∀ w, w ∈ k ↔ w ∈ l ∨ w ≠ v ∧ (¬ ∃ x ∈ o.Pre, x.Var = w) ∧ ∃ f ∈ e.When.take (j + 1), f.Var = w := by
          intro h w
          rw [hstep, f3]
          constructor
          · rintro (h | ⟨h2, h3, h4⟩)
            · exact .inl h
            · exact .inr ⟨h2, h3, .inl h4⟩
          · rintro (h2 | ⟨h2, h3, h4 | rfl⟩)
            · exact .inl h2
            · exact .inr ⟨h2, h3, h4⟩
            · rcases h with h | h | h
              · exact absurd h h2
              · exact absurd h h3
              · exact (f3 _).1 h
        by_cases h2 : f.Var = v
        · simp only [h2, decide_true, Bool.not_true, Bool.false_eq_true, if_false, Option.bind_some]
          exact Ok.ret ⟨f1, f2, hstay (.inl h2)⟩
        by_cases h3 : ∃ x ∈ o.Pre, x.Var = f.Var
        · simp only [h2, h3, decide_true, decide_false, Bool.not_true, Bool.not_false, if_true, Bool.false_eq_true, if_false, Option.bind_some]
          exact Ok.ret ⟨f1, f2, hstay (.inr (.inl h3))⟩
        by_cases h4 : f.Var ∈ k
        · simp only [h2, h3, h4, decide_true, decide_false, Bool.not_true, Bool.not_false, if_true, Bool.false_eq_true, if_false, Option.bind_some]
          exact Ok.ret ⟨f1, f2, hstay (.inr (.inr h4))⟩
        simp only [h2, h3, h4, decide_true, decide_false, Bool.not_true, Bool.not_false, if_true, Bool.false_eq_true, if_false, Option.bind_some]
        rw [app_ok (by simp only [List.length_singleton]; omega)]
        refine Ok.ret ⟨?_, ?_, fun w => ?_⟩
        · exact List.nodup_append.2 ⟨f1, by simp, by rintro a ha b hb rfl; simp only [List.mem_singleton] at hb; subst hb; exact h4 ha⟩
        · intro w hw
          rcases List.mem_append.1 hw with hw | hw
          · exact f2 w hw
          · simp only [List.mem_singleton] at hw; subst hw; exact ⟨hfr.1, hfr.2.1⟩
        · rw [hstep, List.mem_append, f3, List.mem_singleton]
          constructor
          · rintro ((h | ⟨h5, h6, h7⟩) | rfl)
            · exact .inl h
            · exact .inr ⟨h5, h6, .inl h7⟩
            · exact .inr ⟨h2, h3, .inr rfl⟩
          · rintro (h | ⟨h5, h6, h7 | rfl⟩)
            · exact .inl (.inl h)
            · exact .inl (.inr ⟨h5, h6, h7⟩)
            · exact .inr rfl
      · rintro k ⟨f1, f2, f3⟩
        rw [List.take_length] at f3
        refine Ok.ret ⟨f1, f2, fun w => ?_⟩
        rw [f3, g3, take_snoc he]
        constructor
        · rintro (⟨h2, h3, e', he', h4⟩ | ⟨h2, h3, h4⟩)
          · exact ⟨h2, h3, e', List.mem_append_left _ he', h4⟩
          · exact ⟨h2, h3, e, by simp, h1, h4⟩
        · rintro ⟨h2, h3, e', he', h4, h5⟩
          rcases List.mem_append.1 he' with he' | he'
          · exact .inl ⟨h2, h3, e', he', h4, h5⟩
          · simp only [List.mem_singleton] at he'; subst he'; exact .inr ⟨h2, h3, h5⟩
    · simp only [h1, decide_false, Bool.not_false, if_true]
      refine Ok.ret ⟨g1, g2, fun w => ?_⟩
      rw [g3, take_snoc he]
      constructor
      · rintro ⟨h2, h3, e', he', h4⟩
        exact ⟨h2, h3, e', List.mem_append_left _ he', h4⟩
      · rintro ⟨h2, h3, e', he', h4, h5⟩
        rcases List.mem_append.1 he' with he' | he'
        · exact ⟨h2, h3, e', he', h4, h5⟩
        · simp only [List.mem_singleton] at he'; subst he'; exact absurd h4 h1
  · rintro l ⟨g1, g2, g3⟩
    have hl := nodup_int_len g1 g2
    obtain ⟨k, hk, hp, _⟩ := sortInts_ok (l := l) (by omega)
    rw [hk]
    simp only [Option.bind_some]
    rw [List.take_length] at g3
    exact Ok.ret ⟨hp.nodup_iff.2 g1, fun w => by rw [hp.mem_iff, g3]; rfl⟩
/-! ### combinations of values -/
def dom (vars : List Int) (w : Int) : Int := vars[w.toNat]?.getD 0
def prd : List Int → Int
  | [] => 1
  | x :: l => x * prd l
theorem prd_append (l k : List Int) : prd (l ++ k) = prd l * prd k := by
  induction l with
  | nil => simp [prd]
  | cons x l ih => simp only [List.cons_append, prd, ih, Int.mul_assoc]
theorem prd_pos {l : List Int} (h : ∀ x ∈ l, 1 ≤ x) : 1 ≤ prd l := by
  induction l with
  | nil => simp [prd]
  | cons x l ih =>
    have h1 := h x (by simp)
    have h2 := ih fun y hy => h y (by simp [hy])
    simp only [prd]
    have : 1 * 1 ≤ x * prd l := Int.mul_le_mul h1 h2 (by omega) (by omega)
    omega
theorem prd_perm {l k : List Int} (h : l.Perm k) : prd l = prd k := by
  induction h with
  | nil => rfl
  | cons x _ ih => simp only [prd, ih]
  | swap x y l => simp only [prd]; rw [← Int.mul_assoc, ← Int.mul_assoc, Int.mul_comm y x]
  | trans _ _ h1 h2 => rw [h1, h2]
theorem prd_le_append {l k : List Int} (hl : ∀ x ∈ l, 1 ≤ x) (hk : ∀ x ∈ k, 1 ≤ x) : prd l ≤ prd (l ++ k) := by
  rw [prd_append]
  have h1 := prd_pos hl
  have h2 := prd_pos hk
  have : prd l * 1 ≤ prd l * prd k := Int.mul_le_mul_of_nonneg_left h2 (by omega)
  omega
theorem dom_pos {t : Task} (hv : ∀ n ∈ t.Vars, 1 ≤ n ∧ n ≤ 64) {w : Int} (h0 : 0 ≤ w) (h1 : w < (t.Vars.length : Int)) : 1 ≤ dom t.Vars w ∧ dom t.Vars w ≤ 64 := by
  obtain ⟨d, hd⟩ := get_len (xs := t.Vars) (i := w.toNat) (by omega)
  have := hv d (List.mem_of_getElem? hd)
  unfold dom
  rw [hd]
  exact this
theorem count_ok {t : Task} (hv : ∀ n ∈ t.Vars, 1 ≤ n ∧ n ≤ 64) {l : List Int} (hl : ∀ w ∈ l, 0 ≤ w ∧ w < (t.Vars.length : Int)) :
    Ok (project_count_p t l) fun r => (prd (l.map (dom t.Vars)) ≤ 4096 ∧ r = (prd (l.map (dom t.Vars)), true)) ∨ (4096 < prd (l.map (dom t.Vars)) ∧ r = (0, false)) := by
  have hall : ∀ k : List Int, (∀ w ∈ k, w ∈ l) → ∀ x ∈ k.map (dom t.Vars), 1 ≤ x := by
    intro k hk x hx
    obtain ⟨w, hw, rfl⟩ := List.mem_map.1 hx
    have := hl w (hk w hw)
    exact (dom_pos hv this.1 this.2).1
  unfold project_count_p
  refine Ok.ctl (fun i n => n = prd ((l.take i).map (dom t.Vars)) ∧ n ≤ 4096) (fun r => 4096 < prd (l.map (dom t.Vars)) ∧ r = (0, false)) ⟨by simp [prd], by omega⟩ ?_ ?_ ?_
  · rintro i n hi ⟨h1, h2⟩
    obtain ⟨w, hw⟩ := get_len hi
    have hwm := List.mem_of_getElem? hw
    have hr := hl w hwm
    have hd := dom_pos hv hr.1 hr.2
    have hp := prd_pos (hall (l.take i) fun w hw => List.mem_of_mem_take hw)
    rw [← h1] at hp
    have e1 : idx t.Vars w = some (dom t.Vars w) := var_idx hr.1 hr.2
    have hm : prd ((l.take (i + 1)).map (dom t.Vars)) = n * dom t.Vars w := by
      rw [take_snoc hw, List.map_append, prd_append, ← h1]
      simp [prd]
    have b1 : n * dom t.Vars w ≤ 4096 * 64 := Int.mul_le_mul h2 hd.2 (by omega) (by omega)
    have b0 : 0 ≤ n * dom t.Vars w := Int.mul_nonneg (by omega) (by omega)
    simp only [idx_nat, hw, e1, Option.bind_some, wrap_id (n := n * dom t.Vars w) (by omega) (by omega)]
    by_cases h3 : 4096 < n * dom t.Vars w
    · simp only [h3, decide_true, if_true]
      refine Ok.ret ⟨?_, rfl⟩
      have h4 := prd_le_append (hall (l.take (i + 1)) fun w hw => List.mem_of_mem_take hw) (hall (l.drop (i + 1)) fun w hw => List.mem_of_mem_drop hw)
      rw [← List.map_append, List.take_append_drop] at h4
      omega
    · simp only [h3, decide_false, Bool.false_eq_true, if_false]
      exact Ok.ret ⟨hm.symm, by omega⟩
  · rintro r h
    exact Ok.ret (.inr h)
  · rintro n ⟨h1, h2⟩
    rw [List.take_length] at h1
    exact Ok.ret (.inl ⟨by omega, by rw [h1]⟩)
theorem number1 {t : Task} {s : List Int} {v x : Int} (hv : ∀ n ∈ t.Vars, 1 ≤ n ∧ n ≤ 64) (h0 : 0 ≤ v) (h1 : v < (t.Vars.length : Int)) (hx : s[v.toNat]? = some x) (b0 : 0 ≤ x) (b1 : x ≤ 1000000) : project_number_p t [v] s = some x := by
  have hd := dom_pos hv h0 h1
  have e1 : idx t.Vars v = some (dom t.Vars v) := var_idx h0 h1
  have e2 : idx s v = some x := by unfold idx; rw [if_pos h0, hx]
  unfold project_number_p
  simp only [List.length_singleton, forS, idx_nat, List.getElem?_cons_zero, Option.bind_some, e1, e2, Int.zero_mul]
  rw [wrap_id (n := 0) (by omega) (by omega), Int.zero_add, wrap_id (by omega) (by omega)]
theorem number1_o {t : Task} {s : List Int} {v x : Int} (hv : ∀ n ∈ t.Vars, 1 ≤ n ∧ n ≤ 64) (h0 : 0 ≤ v) (h1 : v < (t.Vars.length : Int)) (hx : s[v.toNat]? = some x) (b0 : 0 ≤ x) (b1 : x ≤ 1000000) : project_number_o_p t [v] s = some x := number1 hv h0 h1 hx b0 b1
/-! ### put -/
def putL (vars : List Int) : List Int → List Int → Int → List Int
  | [], s, _ => s
  | w :: r, s, k => putL vars r (s.set w.toNat (k % dom vars w)) (k / dom vars w)
def numL (vars : List Int) : List Int → (Int → Int) → Int
  | [], _ => 0
  | w :: r, a => a w + dom vars w * numL vars r a
theorem putL_len {vars : List Int} : ∀ (r s : List Int) (k : Int), (putL vars r s k).length = s.length
  | [], _, _ => rfl
  | w :: r, s, k => by unfold putL; rw [putL_len r]; simp
theorem putL_out {vars : List Int} : ∀ {r s : List Int} {k : Int} {w : Nat}, (∀ x ∈ r, 0 ≤ x) → (w : Int) ∉ r → (putL vars r s k)[w]? = s[w]?
  | [], _, _, _, _, _ => rfl
  | x :: r, s, k, w, h, hw => by
    unfold putL
    rw [putL_out (fun y hy => h y (by simp [hy])) (fun hm => hw (by simp [hm])), List.getElem?_set_ne]
    intro e
    have := h x (by simp)
    exact hw (by simp; left; omega)
theorem putL_in {vars : List Int} : ∀ {r s : List Int} {k : Int}, r.Nodup → (∀ x ∈ r, 0 ≤ x ∧ x.toNat < s.length ∧ 1 ≤ dom vars x) → ∀ x ∈ r, ∃ y, (putL vars r s k)[x.toNat]? = some y ∧ 0 ≤ y ∧ y < dom vars x
  | [], _, _, _, _, x, hx => by simp at hx
  | w :: r, s, k, hn, h, x, hx => by
    obtain ⟨hnw, hnr⟩ := List.nodup_cons.1 hn
    unfold putL
    by_cases hxr : x ∈ r
    · exact putL_in hnr (fun y hy => by have := h y (by simp [hy]); simpa using this) x hxr
    · rcases List.mem_cons.1 hx with rfl | hx
      · have hr := h x (by simp)
        refine ⟨k % dom vars x, ?_, Int.emod_nonneg _ (by omega), Int.emod_lt_of_pos _ (by omega)⟩
        rw [putL_out (fun y hy => (h y (by simp [hy])).1) (by rw [Int.toNat_of_nonneg hr.1]; exact hnw), List.getElem?_set_self hr.2.1]
      · exact absurd hx hxr
theorem numL_lt {vars : List Int} {a : Int → Int} : ∀ {r : List Int}, (∀ x ∈ r, 0 ≤ a x ∧ a x < dom vars x) → 0 ≤ numL vars r a ∧ numL vars r a < prd (r.map (dom vars))
  | [], _ => by simp [numL, prd]
  | w :: r, h => by
    have h1 := h w (by simp)
    obtain ⟨h2, h3⟩ := numL_lt (vars := vars) (a := a) (r := r) fun y hy => h y (by simp [hy])
    simp only [numL, prd, List.map_cons]
    have h4 : 0 ≤ dom vars w * numL vars r a := Int.mul_nonneg (by omega) h2
    have h5 : dom vars w * (numL vars r a + 1) ≤ dom vars w * prd (r.map (dom vars)) := Int.mul_le_mul_of_nonneg_left (by omega) (by omega)
    rw [Int.mul_add, Int.mul_one] at h5
    omega
theorem putL_num {vars : List Int} {a : Int → Int} : ∀ {r s : List Int}, r.Nodup → (∀ x ∈ r, 0 ≤ x ∧ x.toNat < s.length ∧ 0 ≤ a x ∧ a x < dom vars x) → ∀ x ∈ r, (putL vars r s (numL vars r a))[x.toNat]? = some (a x)
  | [], _, _, _, x, hx => by simp at hx
  | w :: r, s, hn, h, x, hx => by
    obtain ⟨hnw, hnr⟩ := List.nodup_cons.1 hn
    have hw := h w (by simp)
    have hmod : (a w + dom vars w * numL vars r a) % dom vars w = a w := by rw [Int.add_mul_emod_self_left]; exact Int.emod_eq_of_lt hw.2.2.1 hw.2.2.2
    have hdiv : (a w + dom vars w * numL vars r a) / dom vars w = numL vars r a := by rw [Int.add_mul_ediv_left _ _ (by omega), Int.ediv_eq_zero_of_lt hw.2.2.1 hw.2.2.2, Int.zero_add]
    simp only [numL, putL, hmod, hdiv]
    by_cases hxr : x ∈ r
    · exact putL_num hnr (fun y hy => by have := h y (by simp [hy]); simpa using this) x hxr
    · rcases List.mem_cons.1 hx with rfl | hx
      · rw [putL_out (fun y hy => (h y (by simp [hy])).1) (by rw [Int.toNat_of_nonneg hw.1]; exact hnw), List.getElem?_set_self hw.2.1]
      · exact absurd hx hxr
theorem put_rounds {t : Task} (hv : ∀ n ∈ t.Vars, 1 ≤ n ∧ n ≤ 64) {l : List Int} (hl : ∀ w ∈ l, 0 ≤ w ∧ w < (t.Vars.length : Int)) : ∀ (m : Nat) (s : List Int) (k : Int), m ≤ l.length → s.length = t.Vars.length → 0 ≤ k → k ≤ 4611686018427387904 →
    ∃ q, forS (fun i => un2 fun (s : List Int) (n : Int) => (idx l ((l.length - 1 - i : Nat) : Int)).bind fun v => (idx t.Vars v).bind fun d => (must (!decide (d = 0))).bind fun _ => (setI s v (n.tmod d)).bind fun s' => some (s', IntKind.i64.wrap (n.tdiv d))) m (l.length - m) (s, k) = some (putL t.Vars (l.take m).reverse s k, q)
  | 0, s, k, _, _, _, _ => ⟨k, rfl⟩
  | m + 1, s, k, hm, hs, h0, h1 => by
    obtain ⟨w, hw⟩ := get_len (xs := l) (i := m) (by omega)
    have hr := hl w (List.mem_of_getElem? hw)
    have hd := dom_pos hv hr.1 hr.2
    have e1 : idx t.Vars w = some (dom t.Vars w) := var_idx hr.1 hr.2
    have e0 : l.length - 1 - (l.length - (m + 1)) = m := by omega
    have hm0 : must (!decide (dom t.Vars w = 0)) = some () := by unfold must; rw [if_pos (by simp; omega)]
    have ht1 : k.tmod (dom t.Vars w) = k % dom t.Vars w := Int.tmod_eq_emod_of_nonneg h0
    have ht2 : k.tdiv (dom t.Vars w) = k / dom t.Vars w := Int.tdiv_eq_ediv_of_nonneg h0
    have hq0 : 0 ≤ k / dom t.Vars w := Int.ediv_nonneg h0 (by omega)
    have hq1 : k / dom t.Vars w ≤ k := Int.ediv_le_self _ h0
    have hset : setI s w (k % dom t.Vars w) = some (s.set w.toNat (k % dom t.Vars w)) := by unfold setI; rw [if_pos ⟨hr.1, by omega⟩]
    obtain ⟨q, hq⟩ := put_rounds hv hl m (s.set w.toNat (k % dom t.Vars w)) (k / dom t.Vars w) (by omega) (by simpa using hs) hq0 (by omega)
    refine ⟨q, ?_⟩
    rw [take_snoc hw, List.reverse_append, List.reverse_singleton, List.singleton_append]
    simp only [forS, un2, e0, idx_nat, hw, e1, hm0, Option.bind_some, ht1, ht2, hset, wrap_id (n := k / dom t.Vars w) (by omega) (by omega), putL]
    rw [show l.length - (m + 1) + 1 = l.length - m by omega]
    exact hq
theorem put_ok {t : Task} (hv : ∀ n ∈ t.Vars, 1 ≤ n ∧ n ≤ 64) {l : List Int} (hl : ∀ w ∈ l, 0 ≤ w ∧ w < (t.Vars.length : Int)) (hb : l.length ≤ 4096) {s : List Int} {k : Int} (hs : s.length = t.Vars.length) (h0 : 0 ≤ k) (h1 : k ≤ 4611686018427387904) : put_p t l s k = some (putL t.Vars l.reverse s k) := by
  obtain ⟨q, hq⟩ := put_rounds hv hl l.length s k (Nat.le_refl _) hs h0 h1
  rw [Nat.sub_self, List.take_length] at hq
  unfold put_p
  have hm : must (decide (l.length ≤ 17592186044415)) = some () := by unfold must; rw [if_pos (by simp; omega)]
  rw [hm]
  simp only [Option.bind_some]
  rw [hq]
  rfl
/-! ### conditions and effects -/
def hold (f : List Fact) (s : List Int) : Prop := ∀ x ∈ f, s[x.Var.toNat]? = some x.Val
open Classical in
theorem tHolds {vars s : List Int} {f : List Fact} (hf : FactsOK vars f) (hs : s.length = vars.length) : base_Holds_p f s = some (decide (hold f s)) := by
  unfold base_Holds_p
  rw [ctl_list (r := false) (fun x => s[x.Var.toNat]? = some x.Val)]
  · by_cases h : hold f s
    · rw [decide_eq_true h]; exact if_pos h
    · rw [decide_eq_false h]; exact if_neg h
  · intro i x hx
    have hr := hf.r x (List.mem_of_getElem? hx)
    unfold InR at hr
    obtain ⟨y, hy⟩ := get_len (xs := s) (i := x.Var.toNat) (by omega)
    have e1 : idx s x.Var = some y := by unfold idx; rw [if_pos hr.1, hy]
    have a1 : ¬ x.Var < 0 := by omega
    have a2 : ¬ (s.length : Int) ≤ x.Var := by omega
    simp only [idx_nat, hx, Option.bind_some, a1, a2, e1, hy, decide_false, Bool.false_eq_true, if_false, Option.some.injEq]
    by_cases h : y = x.Val <;> simp [h]
open Classical in
theorem tHolds_o {vars s : List Int} {f : List Fact} (hf : FactsOK vars f) (hs : s.length = vars.length) : task_Holds_o_p f s = some (decide (hold f s)) := tHolds hf hs
open Classical in
/-- The value of a variable behind an operator's effects. -/
noncomputable def effV (effs : List Effect) (v : Int) (s : List Int) : Int := effs.foldl (fun c e => if e.Var = v ∧ hold e.When s then e.Val else c) (s[v.toNat]?.getD 0)
open Classical in
theorem effV_snoc (effs : List Effect) (e : Effect) (v : Int) (s : List Int) : effV (effs ++ [e]) v s = if e.Var = v ∧ hold e.When s then e.Val else effV effs v s := by simp [effV]
theorem effV_congr {v : Int} {s s' : List Int} (h0 : s[v.toNat]? = s'[v.toNat]?) {effs : List Effect} (h : ∀ e ∈ effs, e.Var = v → (hold e.When s ↔ hold e.When s')) : effV effs v s = effV effs v s' := by
  unfold effV
  rw [h0]
  generalize s'[v.toNat]?.getD 0 = c
  induction effs generalizing c with
  | nil => rfl
  | cons e effs ih =>
    simp only [List.foldl_cons]
    have he : (e.Var = v ∧ hold e.When s) ↔ (e.Var = v ∧ hold e.When s') := by
      constructor
      · rintro ⟨h1, h2⟩; exact ⟨h1, (h e (by simp) h1).1 h2⟩
      · rintro ⟨h1, h2⟩; exact ⟨h1, (h e (by simp) h1).2 h2⟩
    classical
    refine Eq.trans (congrArg (fun z => List.foldl _ z effs) ?_) (ih (fun e' he' => h e' (by simp [he'])) _)
    by_cases hc : e.Var = v ∧ hold e.When s
    · rw [if_pos hc, if_pos (he.1 hc)]
    · rw [if_neg hc, if_neg fun h => hc (he.2 h)]
theorem effV_range {vars : List Int} {v : Int} {s : List Int} {x : Int} (hx : s[v.toNat]? = some x) (h0 : 0 ≤ x) (h1 : x < dom vars v) {effs : List Effect} (h : ∀ e ∈ effs, InR vars ⟨e.Var, e.Val⟩) : 0 ≤ effV effs v s ∧ effV effs v s < dom vars v := by
  classical
  have key : ∀ (l : List Effect) (c : Int), (∀ e ∈ l, InR vars ⟨e.Var, e.Val⟩) → 0 ≤ c → c < dom vars v → 0 ≤ l.foldl (fun c e => if e.Var = v ∧ hold e.When s then e.Val else c) c ∧ l.foldl (fun c e => if e.Var = v ∧ hold e.When s then e.Val else c) c < dom vars v := by
    intro l
    induction l with
    | nil => exact fun c _ h0 h1 => ⟨h0, h1⟩
    | cons e l ih =>
      intro c h h0 h1
      simp only [List.foldl_cons]
      have he := h e (by simp)
      by_cases hc : e.Var = v ∧ hold e.When s
      · rw [if_pos hc]
        refine ih _ (fun e' he' => h e' (by simp [he'])) he.2.2.1 ?_
        have := he.2.2.2
        rw [← hc.1]
        exact this
      · rw [if_neg hc]
        exact ih _ (fun e' he' => h e' (by simp [he'])) h0 h1
  unfold effV
  rw [hx]
  exact key effs x h h0 h1
end Go.Pw
