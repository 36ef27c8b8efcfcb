/- -/
import Derived.Test.YtcpkjkmbdolfnaaGreatDoorMbTb
import Derived.Test.YtcpkjkmbdolfnaaGreatDoorBB
set_option maxHeartbeats 4000000
set_option linter.unusedSimpArgs false
set_option linter.unusedVariables false
namespace Go.Pw
/-! ### small words -/
theorem Qm1 (s : List Int) (v : Int) : Ok (J5 s v) fun n => 0 ≤ n ↔ v ∈ s := by
 unfold J5
 refine Ok.ctl (fun i _ => v ∉ s.take i) (fun n => 0 ≤ n ∧ v ∈ s) (by simp) ?_ ?_ ?_
 ·rintro i _ hi h
  obtain ⟨x, hx⟩ := Qy hi
  simp only [Qn, hx, Option.bind_some]
  by_cases e : v = x
  ·simp only [e, decide_true, if_true]
   exact Ok.ret ⟨by omega, List.mem_of_getElem? hx⟩
  ·simp only [e, decide_false, Bool.false_eq_true, if_false]
   refine Ok.ret ?_
   show v ∉ s.take (i + 1)
   rw [QG hx]
   simp [h, e]
 ·rintro r ⟨h1, h2⟩
  exact Ok.ret ⟨fun _ => h2, fun _ => h1⟩
 ·intro _ h
  rw [List.take_length] at h
  exact Ok.ret ⟨fun h => by omega, fun h' => absurd h' h⟩
theorem QaS (s : List Int) (v : Int) : Q9 s v = some (decide (v ∈ s)) := by
 unfold Q9
 obtain ⟨n, hn, h⟩ := Qm1 s v
 rw [hn]
 simp only [Option.bind_some, Option.some.injEq]
 by_cases h1 : v ∈ s
 ·simp [h1, h.2 h1]
 ·have : ¬ 0 ≤ n := fun h2 => h1 (h.1 h2)
  simp [h1, this]
theorem Qkk (s : List Int) (v : Int) : J4 s v = some (decide (v ∈ s)) := QaS s v
open Classical in
theorem Qo3 (f : List Fact) (v : Int) : Qab f v = some (decide (∃ x ∈ f, x.Var = v)) := by
 unfold Qab YN
 have h1 : Ok (Ki f v) fun n => (0 ≤ n ↔ ∃ x ∈ f, x.Var = v) := by
  unfold Ki
  refine Ok.ctl (fun i _ => ¬ ∃ x ∈ f.take i, x.Var = v) (fun n => 0 ≤ n ∧ ∃ x ∈ f, x.Var = v) (by simp) ?_ ?_ ?_
  ·rintro i _ hi h
   obtain ⟨x, hx⟩ := Qy hi
   have ht : KZ x v = decide (x.Var = v) := by
    have := QbR x v
    unfold Ya at this
    exact (Zu this).symm
   simp only [Qn, hx, Option.bind_some, ht]
   by_cases hb : x.Var = v
   ·simp only [hb, decide_true, if_true]
    exact Ok.ret ⟨by omega, x, List.mem_of_getElem? hx, hb⟩
   ·simp only [hb, decide_false, Bool.false_eq_true, if_false]
    refine Ok.ret ?_
    show ¬ ∃ x ∈ f.take (i + 1), x.Var = v
    rw [QG hx]
    rintro ⟨y, hy, e⟩
    rcases List.mem_append.1 hy with hy | hy
    ·exact h ⟨y, hy, e⟩
    ·simp only [List.mem_singleton] at hy; subst hy; exact hb e
  ·rintro r ⟨h1, h2⟩
   exact Ok.ret ⟨fun _ => h2, fun _ => h1⟩
  ·intro _ h
   rw [List.take_length] at h
   exact Ok.ret ⟨fun h => by omega, fun h' => absurd h' h⟩
 obtain ⟨n, hn, h2⟩ := h1
 rw [hn]
 simp only [Option.bind_some, Option.some.injEq]
 by_cases h3 : ∃ x ∈ f, x.Var = v
 ·simp only [h3, h2.2 h3, decide_true]
 ·have : ¬ 0 ≤ n := fun h => h3 (h2.1 h)
  simp only [h3, this, decide_false]
theorem Qac {l : List Int} {n : Nat} (hn : l.Nodup) (h : ∀ w ∈ l, 0 ≤ w ∧ w < (n : Int)) : l.length ≤ n := by
 have := nodup_short' (n := n) (L := l.map Int.toNat) ?_ ?_
 ·simpa using this
 ·refine List.pairwise_map.2 (List.Pairwise.imp_of_mem ?_ hn)
  intro a b ha hb hne e
  have := h a ha
  have := h b hb
  exact hne (by omega)
 ·intro x hx
  obtain ⟨y, hy, rfl⟩ := List.mem_map.1 hx
  have := h y hy
  omega
/-! ### the variables outside -/
def QkT (o : Op) (v w : Int) : Prop := w ≠ v ∧ (¬ ∃ x ∈ o.Pre, x.Var = w) ∧ ∃ e ∈ o.Effs, e.Var = v ∧ ∃ f ∈ e.When, f.Var = w
theorem Qdc {l : List Int} (h : l.length < 4611686018427387904) : ∃ k, Y5 l = some k ∧ k.Perm l ∧ k.Pairwise fun a b => a ≤ b := by
 unfold Y5
 rw [if_pos h]
 refine ⟨_, Z, List.mergeSort_perm l _, ?_⟩
 have hp : (l.mergeSort fun x y => decide (x ≤ y)).Pairwise (fun x y => decide (x ≤ y) = true) := by
  apply List.pairwise_mergeSort
  ·intro a b c h1 h2
   simp only [decide_eq_true_eq] at *
   omega
  ·intro a b
   simp only [Bool.or_eq_true, decide_eq_true_eq]
   omega
 exact hp.imp fun h => by simpa using h
theorem Qkd {vars : List Int} {o : Op} {v : Int} (ho : OpOK vars o) (hn : vars.length ≤ 64) : Ok (KN o [v]) fun l => l.Nodup ∧ ∀ w, w ∈ l ↔ QkT o v w := by
 classical
 unfold KN
 refine Ok.bind (QO (fun i l => l.Nodup ∧ (∀ w ∈ l, 0 ≤ w ∧ w < (vars.length : Int)) ∧ ∀ w, w ∈ l ↔ w ≠ v ∧ (¬ ∃ x ∈ o.Pre, x.Var = w) ∧ ∃ e ∈ o.Effs.take i, e.Var = v ∧ ∃ f ∈ e.When, f.Var = w) ⟨by simp, by simp, by simp⟩ ?_ ?_)
 ·rintro i l hi ⟨g1, g2, g3⟩
  obtain ⟨e, he⟩ := Qy hi
  have hem := List.mem_of_getElem? he
  simp only [Qn, he, Option.bind_some, QaS, List.mem_singleton]
  by_cases h1 : e.Var = v
  ·simp only [h1, decide_true, Bool.not_true, Bool.false_eq_true, if_false]
   refine Ok.bind (QO (fun j k => k.Nodup ∧ (∀ w ∈ k, 0 ≤ w ∧ w < (vars.length : Int)) ∧ ∀ w, w ∈ k ↔ w ∈ l ∨ w ≠ v ∧ (¬ ∃ x ∈ o.Pre, x.Var = w) ∧ ∃ f ∈ e.When.take j, f.Var = w) ⟨g1, g2, by simp⟩ ?_ ?_)
   ·rintro j k hj ⟨f1, f2, f3⟩
    obtain ⟨f, hf⟩ := Qy hj
    have hfm := List.mem_of_getElem? hf
    have hfr := (ho.eff e hem).1.r f hfm
    have hkl := Qac f1 f2
    simp only [Qn, hf, Option.bind_some, QaS, Qkk, Qo3, List.mem_singleton]
    have hstep : ∀ w, (∃ g ∈ e.When.take (j + 1), g.Var = w) ↔ (∃ g ∈ e.When.take j, g.Var = w) ∨ f.Var = w := by
     intro w
     rw [QG hf]
     constructor
     ·rintro ⟨g, hg, rfl⟩
      rcases List.mem_append.1 hg with hg | hg
      ·exact .inl ⟨g, hg, Z⟩
      ·simp only [List.mem_singleton] at hg; subst hg; exact .inr rfl
     ·rintro (⟨g, hg, rfl⟩ | rfl)
      ·exact ⟨g, List.mem_append_left _ hg, Z⟩
      ·exact ⟨f, by simp, Z⟩
    have hstay : (f.Var = v ∨ (∃ x ∈ o.Pre, x.Var = f.Var) ∨ f.Var ∈ k) → ∀ w, w ∈ k ↔ w ∈ l ∨ w ≠ v ∧ (¬ ∃ x ∈ o.Pre, x.Var = w) ∧ ∃ f ∈ e.When.take (j + 1), f.Var = w := by
     intro h w
     rw [hstep, f3]
     constructor
     ·rintro (h | ⟨h2, h3, h4⟩)
      ·exact .inl h
      ·exact .inr ⟨h2, h3, .inl h4⟩
     ·rintro (h2 | ⟨h2, h3, h4 | rfl⟩)
      ·exact .inl h2
      ·exact .inr ⟨h2, h3, h4⟩
      ·rcases h with h | h | h
       ·exact absurd h h2
       ·exact absurd h h3
       ·exact (f3 _).1 h
    by_cases h2 : f.Var = v
    ·simp only [h2, decide_true, Bool.not_true, Bool.false_eq_true, if_false, Option.bind_some]
     exact Ok.ret ⟨f1, f2, hstay (.inl h2)⟩
    by_cases h3 : ∃ x ∈ o.Pre, x.Var = f.Var
    ·simp only [h2, h3, decide_true, decide_false, Bool.not_true, Bool.not_false, if_true, Bool.false_eq_true, if_false, Option.bind_some]
     exact Ok.ret ⟨f1, f2, hstay (.inr (.inl h3))⟩
    by_cases h4 : f.Var ∈ k
    ·simp only [h2, h3, h4, decide_true, decide_false, Bool.not_true, Bool.not_false, if_true, Bool.false_eq_true, if_false, Option.bind_some]
     exact Ok.ret ⟨f1, f2, hstay (.inr (.inr h4))⟩
    simp only [h2, h3, h4, decide_true, decide_false, Bool.not_true, Bool.not_false, if_true, Bool.false_eq_true, if_false, Option.bind_some]
    rw [Jh (by simp only [List.length_singleton]; omega)]
    refine Ok.ret ⟨?_, ?_, fun w => ?_⟩
    ·exact List.nodup_append.2 ⟨f1, by simp, by rintro a ha b hb rfl; simp only [List.mem_singleton] at hb; subst hb; exact h4 ha⟩
    ·intro w hw
     rcases List.mem_append.1 hw with hw | hw
     ·exact f2 w hw
     ·simp only [List.mem_singleton] at hw; subst hw; exact ⟨hfr.1, hfr.2.1⟩
    ·rw [hstep, List.mem_append, f3, List.mem_singleton]
     constructor
     ·rintro ((h | ⟨h5, h6, h7⟩) | rfl)
      ·exact .inl h
      ·exact .inr ⟨h5, h6, .inl h7⟩
      ·exact .inr ⟨h2, h3, .inr Z⟩
     ·rintro (h | ⟨h5, h6, h7 | rfl⟩)
      ·exact .inl (.inl h)
      ·exact .inl (.inr ⟨h5, h6, h7⟩)
      ·exact .inr Z
   ·rintro k ⟨f1, f2, f3⟩
    rw [List.take_length] at f3
    refine Ok.ret ⟨f1, f2, fun w => ?_⟩
    rw [f3, g3, QG he]
    constructor
    ·rintro (⟨h2, h3, e', he', h4⟩ | ⟨h2, h3, h4⟩)
     ·exact ⟨h2, h3, e', List.mem_append_left _ he', h4⟩
     ·exact ⟨h2, h3, e, by simp, h1, h4⟩
    ·rintro ⟨h2, h3, e', he', h4, h5⟩
     rcases List.mem_append.1 he' with he' | he'
     ·exact .inl ⟨h2, h3, e', he', h4, h5⟩
     ·simp only [List.mem_singleton] at he'; subst he'; exact .inr ⟨h2, h3, h5⟩
  ·simp only [h1, decide_false, Bool.not_false, if_true]
   refine Ok.ret ⟨g1, g2, fun w => ?_⟩
   rw [g3, QG he]
   constructor
   ·rintro ⟨h2, h3, e', he', h4⟩
    exact ⟨h2, h3, e', List.mem_append_left _ he', h4⟩
   ·rintro ⟨h2, h3, e', he', h4, h5⟩
    rcases List.mem_append.1 he' with he' | he'
    ·exact ⟨h2, h3, e', he', h4, h5⟩
    ·simp only [List.mem_singleton] at he'; subst he'; exact absurd h4 h1
 ·rintro l ⟨g1, g2, g3⟩
  have hl := Qac g1 g2
  obtain ⟨k, hk, hp, _⟩ := Qdc (l := l) (by omega)
  rw [hk]
  simp only [Option.bind_some]
  rw [List.take_length] at g3
  exact Ok.ret ⟨hp.nodup_iff.2 g1, fun w => by rw [hp.mem_iff, g3]; rfl⟩
/-! ### combinations of values -/
def JO (vars : List Int) (w : Int) : Int := vars[w.toNat]?.getD 0
def Ke : List Int → Int
 | [] => 1
 | x :: l => x * Ke l
theorem QbL (l k : List Int) : Ke (l ++ k) = Ke l * Ke k := by
 induction l with
 | nil => simp [Ke]
 | cons x l ih => simp only [List.cons_append, Ke, ih, Int.mul_assoc]
theorem Qca {l : List Int} (h : ∀ x ∈ l, 1 ≤ x) : 1 ≤ Ke l := by
 induction l with
 | nil => simp [Ke]
 | cons x l ih =>
  have h1 := h x (by simp)
  have h2 := ih fun y hy => h y (by simp [hy])
  simp only [Ke]
  have : 1 * 1 ≤ x * Ke l := Int.mul_le_mul h1 h2 (by omega) (by omega)
  omega
theorem Qe3 {l k : List Int} (h : l.Perm k) : Ke l = Ke k := by
 induction h with
 | nil => rfl
 | cons x _ ih => simp only [Ke, ih]
 | swap x y l => simp only [Ke]; rw [← Int.mul_assoc, ← Int.mul_assoc, Int.mul_comm y x]
 | trans _ _ h1 h2 => rw [h1, h2]
theorem Qcm {l k : List Int} (hl : ∀ x ∈ l, 1 ≤ x) (hk : ∀ x ∈ k, 1 ≤ x) : Ke l ≤ Ke (l ++ k) := by
 rw [QbL]
 have h1 := Qca hl
 have h2 := Qca hk
 have : Ke l * 1 ≤ Ke l * Ke k := Int.mul_le_mul_of_nonneg_left h2 (by omega)
 omega
theorem Kf {t : Task} (hv : ∀ n ∈ t.Vars, 1 ≤ n ∧ n ≤ 64) {w : Int} (h0 : 0 ≤ w) (h1 : w < (t.Vars.length : Int)) : 1 ≤ JO t.Vars w ∧ JO t.Vars w ≤ 64 := by
 obtain ⟨d, hd⟩ := Qy (xs := t.Vars) (i := w.toNat) (by omega)
 have := hv d (List.mem_of_getElem? hd)
 unfold JO
 rw [hd]
 exact this
theorem Qg0 {t : Task} (hv : ∀ n ∈ t.Vars, 1 ≤ n ∧ n ≤ 64) {l : List Int} (hl : ∀ w ∈ l, 0 ≤ w ∧ w < (t.Vars.length : Int)) :
  Ok (Km t l) fun r => (Ke (l.map (JO t.Vars)) ≤ 4096 ∧ r = (Ke (l.map (JO t.Vars)), true)) ∨ (4096 < Ke (l.map (JO t.Vars)) ∧ r = (0, false)) := by
 have hall : ∀ k : List Int, (∀ w ∈ k, w ∈ l) → ∀ x ∈ k.map (JO t.Vars), 1 ≤ x := by
  intro k hk x hx
  obtain ⟨w, hw, rfl⟩ := List.mem_map.1 hx
  have := hl w (hk w hw)
  exact (Kf hv this.1 this.2).1
 unfold Km
 refine Ok.ctl (fun i n => n = Ke ((l.take i).map (JO t.Vars)) ∧ n ≤ 4096) (fun r => 4096 < Ke (l.map (JO t.Vars)) ∧ r = (0, false)) ⟨by simp [Ke], by omega⟩ ?_ ?_ ?_
 ·rintro i n hi ⟨h1, h2⟩
  obtain ⟨w, hw⟩ := Qy hi
  have hwm := List.mem_of_getElem? hw
  have hr := hl w hwm
  have hd := Kf hv hr.1 hr.2
  have hp := Qca (hall (l.take i) fun w hw => List.mem_of_mem_take hw)
  rw [← h1] at hp
  have e1 : Qz t.Vars w = some (JO t.Vars w) := Qdu hr.1 hr.2
  have hm : Ke ((l.take (i + 1)).map (JO t.Vars)) = n * JO t.Vars w := by
   rw [QG hw, List.map_append, QbL, ← h1]
   simp [Ke]
  have b1 : n * JO t.Vars w ≤ 4096 * 64 := Int.mul_le_mul h2 hd.2 (by omega) (by omega)
  have b0 : 0 ≤ n * JO t.Vars w := Int.mul_nonneg (by omega) (by omega)
  simp only [Qn, hw, e1, Option.bind_some, QA (n := n * JO t.Vars w) (by omega) (by omega)]
  by_cases h3 : 4096 < n * JO t.Vars w
  ·simp only [h3, decide_true, if_true]
   refine Ok.ret ⟨?_, Z⟩
   have h4 := Qcm (hall (l.take (i + 1)) fun w hw => List.mem_of_mem_take hw) (hall (l.drop (i + 1)) fun w hw => List.mem_of_mem_drop hw)
   rw [← List.map_append, List.take_append_drop] at h4
   omega
  ·simp only [h3, decide_false, Bool.false_eq_true, if_false]
   exact Ok.ret ⟨hm.symm, by omega⟩
 ·rintro r h
  exact Ok.ret (.inr h)
 ·rintro n ⟨h1, h2⟩
  rw [List.take_length] at h1
  exact Ok.ret (.inl ⟨by omega, by rw [h1]⟩)
theorem QkA {t : Task} {s : List Int} {v x : Int} (hv : ∀ n ∈ t.Vars, 1 ≤ n ∧ n ≤ 64) (h0 : 0 ≤ v) (h1 : v < (t.Vars.length : Int)) (hx : s[v.toNat]? = some x) (b0 : 0 ≤ x) (b1 : x ≤ 1000000) : Ka t [v] s = some x := by
 have hd := Kf hv h0 h1
 have e1 : Qz t.Vars v = some (JO t.Vars v) := Qdu h0 h1
 have e2 : Qz s v = some x := by unfold Qz; rw [if_pos h0, hx]
 unfold Ka
 simp only [List.length_singleton, forS, Qn, List.getElem?_cons_zero, Option.bind_some, e1, e2, Int.zero_mul]
 rw [QA (n := 0) (by omega) (by omega), Int.zero_add, QA (by omega) (by omega)]
theorem Qln {t : Task} {s : List Int} {v x : Int} (hv : ∀ n ∈ t.Vars, 1 ≤ n ∧ n ≤ 64) (h0 : 0 ≤ v) (h1 : v < (t.Vars.length : Int)) (hx : s[v.toNat]? = some x) (b0 : 0 ≤ x) (b1 : x ≤ 1000000) : Ka t [v] s = some x := QkA hv h0 h1 hx b0 b1
/-! ### put -/
def QbX (vars : List Int) : List Int → List Int → Int → List Int
 | [], s, _ => s
 | w :: r, s, k => QbX vars r (s.set w.toNat (k % JO vars w)) (k / JO vars w)
def Qeb (vars : List Int) : List Int → (Int → Int) → Int
 | [], _ => 0
 | w :: r, a => a w + JO vars w * Qeb vars r a
theorem QiW {vars : List Int} : ∀ (r s : List Int) (k : Int), (QbX vars r s k).length = s.length
 | [], _, _ => rfl
 | w :: r, s, k => by unfold QbX; rw [QiW r]; simp
theorem Qe2 {vars : List Int} : ∀ {r s : List Int} {k : Int} {w : Nat}, (∀ x ∈ r, 0 ≤ x) → (w : Int) ∉ r → (QbX vars r s k)[w]? = s[w]?
 | [], _, _, _, _, _ => rfl
 | x :: r, s, k, w, h, hw => by
  unfold QbX
  rw [Qe2 (fun y hy => h y (by simp [hy])) (fun hm => hw (by simp [hm])), List.getElem?_set_ne]
  intro e
  have := h x (by simp)
  exact hw (by simp; left; omega)
theorem Qk8 {vars : List Int} : ∀ {r s : List Int} {k : Int}, r.Nodup → (∀ x ∈ r, 0 ≤ x ∧ x.toNat < s.length ∧ 1 ≤ JO vars x) → ∀ x ∈ r, ∃ y, (QbX vars r s k)[x.toNat]? = some y ∧ 0 ≤ y ∧ y < JO vars x
 | [], _, _, _, _, x, hx => by simp at hx
 | w :: r, s, k, hn, h, x, hx => by
  obtain ⟨hnw, hnr⟩ := List.nodup_cons.1 hn
  unfold QbX
  by_cases hxr : x ∈ r
  ·exact Qk8 hnr (fun y hy => by have := h y (by simp [hy]); simpa using this) x hxr
  ·rcases List.mem_cons.1 hx with rfl | hx
   ·have hr := h x (by simp)
    refine ⟨k % JO vars x, ?_, Int.emod_nonneg _ (by omega), Int.emod_lt_of_pos _ (by omega)⟩
    rw [Qe2 (fun y hy => (h y (by simp [hy])).1) (by rw [Int.toNat_of_nonneg hr.1]; exact hnw), List.getElem?_set_self hr.2.1]
   ·exact absurd hx hxr
theorem Qik {vars : List Int} {a : Int → Int} : ∀ {r : List Int}, (∀ x ∈ r, 0 ≤ a x ∧ a x < JO vars x) → 0 ≤ Qeb vars r a ∧ Qeb vars r a < Ke (r.map (JO vars))
 | [], _ => by simp [Qeb, Ke]
 | w :: r, h => by
  have h1 := h w (by simp)
  obtain ⟨h2, h3⟩ := Qik (vars := vars) (a := a) (r := r) fun y hy => h y (by simp [hy])
  simp only [Qeb, Ke, List.map_cons]
  have h4 : 0 ≤ JO vars w * Qeb vars r a := Int.mul_nonneg (by omega) h2
  have h5 : JO vars w * (Qeb vars r a + 1) ≤ JO vars w * Ke (r.map (JO vars)) := Int.mul_le_mul_of_nonneg_left (by omega) (by omega)
  rw [Int.mul_add, Int.mul_one] at h5
  omega
theorem QiV {vars : List Int} {a : Int → Int} : ∀ {r s : List Int}, r.Nodup → (∀ x ∈ r, 0 ≤ x ∧ x.toNat < s.length ∧ 0 ≤ a x ∧ a x < JO vars x) → ∀ x ∈ r, (QbX vars r s (Qeb vars r a))[x.toNat]? = some (a x)
 | [], _, _, _, x, hx => by simp at hx
 | w :: r, s, hn, h, x, hx => by
  obtain ⟨hnw, hnr⟩ := List.nodup_cons.1 hn
  have hw := h w (by simp)
  have hmod : (a w + JO vars w * Qeb vars r a) % JO vars w = a w := by rw [Int.add_mul_emod_self_left]; exact Int.emod_eq_of_lt hw.2.2.1 hw.2.2.2
  have hdiv : (a w + JO vars w * Qeb vars r a) / JO vars w = Qeb vars r a := by rw [Int.add_mul_ediv_left _ _ (by omega), Int.ediv_eq_zero_of_lt hw.2.2.1 hw.2.2.2, Int.zero_add]
  simp only [Qeb, QbX, hmod, hdiv]
  by_cases hxr : x ∈ r
  ·exact QiV hnr (fun y hy => by have := h y (by simp [hy]); simpa using this) x hxr
  ·rcases List.mem_cons.1 hx with rfl | hx
   ·rw [Qe2 (fun y hy => (h y (by simp [hy])).1) (by rw [Int.toNat_of_nonneg hw.1]; exact hnw), List.getElem?_set_self hw.2.1]
   ·exact absurd hx hxr
theorem QgE {t : Task} (hv : ∀ n ∈ t.Vars, 1 ≤ n ∧ n ≤ 64) {l : List Int} (hl : ∀ w ∈ l, 0 ≤ w ∧ w < (t.Vars.length : Int)) : ∀ (m : Nat) (s : List Int) (k : Int), m ≤ l.length → s.length = t.Vars.length → 0 ≤ k → k ≤ 4611686018427387904 →
  ∃ q, forS (fun i => QM fun (s : List Int) (n : Int) => (Qz l ((l.length - 1 - i : Nat) : Int)).bind fun v => (Qz t.Vars v).bind fun d => (must (!decide (d = 0))).bind fun _ => (JG s v (n.tmod d)).bind fun s' => some (s', IntKind.i64.wrap (n.tdiv d))) m (l.length - m) (s, k) = some (QbX t.Vars (l.take m).reverse s k, q)
 | 0, s, k, _, _, _, _ => ⟨k, rfl⟩
 | m + 1, s, k, hm, hs, h0, h1 => by
  obtain ⟨w, hw⟩ := Qy (xs := l) (i := m) (by omega)
  have hr := hl w (List.mem_of_getElem? hw)
  have hd := Kf hv hr.1 hr.2
  have e1 : Qz t.Vars w = some (JO t.Vars w) := Qdu hr.1 hr.2
  have e0 : l.length - 1 - (l.length - (m + 1)) = m := by omega
  have hm0 : must (!decide (JO t.Vars w = 0)) = some () := by unfold must; rw [if_pos (by simp; omega)]
  have ht1 : k.tmod (JO t.Vars w) = k % JO t.Vars w := Int.tmod_eq_emod_of_nonneg h0
  have ht2 : k.tdiv (JO t.Vars w) = k / JO t.Vars w := Int.tdiv_eq_ediv_of_nonneg h0
  have hq0 : 0 ≤ k / JO t.Vars w := Int.ediv_nonneg h0 (by omega)
  have hq1 : k / JO t.Vars w ≤ k := Int.ediv_le_self _ h0
  have hset : JG s w (k % JO t.Vars w) = some (s.set w.toNat (k % JO t.Vars w)) := by unfold JG; rw [if_pos ⟨hr.1, by omega⟩]
  obtain ⟨q, hq⟩ := QgE hv hl m (s.set w.toNat (k % JO t.Vars w)) (k / JO t.Vars w) (by omega) (by simpa using hs) hq0 (by omega)
  refine ⟨q, ?_⟩
  rw [QG hw, List.reverse_append, List.reverse_singleton, List.singleton_append]
  simp only [forS, QM, e0, Qn, hw, e1, hm0, Option.bind_some, ht1, ht2, hset, QA (n := k / JO t.Vars w) (by omega) (by omega), QbX]
  rw [show l.length - (m + 1) + 1 = l.length - m by omega]
  exact hq
theorem QjK {t : Task} (hv : ∀ n ∈ t.Vars, 1 ≤ n ∧ n ≤ 64) {l : List Int} (hl : ∀ w ∈ l, 0 ≤ w ∧ w < (t.Vars.length : Int)) (hb : l.length ≤ 4096) {s : List Int} {k : Int} (hs : s.length = t.Vars.length) (h0 : 0 ≤ k) (h1 : k ≤ 4611686018427387904) : QdM t l s k = some (QbX t.Vars l.reverse s k) := by
 obtain ⟨q, hq⟩ := QgE hv hl l.length s k (Nat.le_refl _) hs h0 h1
 rw [Nat.sub_self, List.take_length] at hq
 unfold QdM
 have hm : must (decide (l.length ≤ 17592186044415)) = some () := by unfold must; rw [if_pos (by simp; omega)]
 rw [hm]
 simp only [Option.bind_some]
 rw [hq]
 rfl
/-! ### conditions and effects -/
def JD (f : List Fact) (s : List Int) : Prop := ∀ x ∈ f, s[x.Var.toNat]? = some x.Val
open Classical in
theorem QjG {vars s : List Int} {f : List Fact} (hf : FactsOK vars f) (hs : s.length = vars.length) : YK f s = some (decide (JD f s)) := by
 unfold YK
 rw [KG (r := false) (fun x => s[x.Var.toNat]? = some x.Val)]
 ·by_cases h : JD f s
  ·rw [decide_eq_true h]; exact if_pos h
  ·rw [decide_eq_false h]; exact if_neg h
 ·intro i x hx
  have hr := hf.r x (List.mem_of_getElem? hx)
  unfold InR at hr
  obtain ⟨y, hy⟩ := Qy (xs := s) (i := x.Var.toNat) (by omega)
  have e1 : Qz s x.Var = some y := by unfold Qz; rw [if_pos hr.1, hy]
  have a1 : ¬ x.Var < 0 := by omega
  have a2 : ¬ (s.length : Int) ≤ x.Var := by omega
  simp only [Qn, hx, Option.bind_some, a1, a2, e1, hy, decide_false, Bool.false_eq_true, if_false, Option.some.injEq]
  by_cases h : y = x.Val <;> simp [h]
open Classical in
theorem Qmn {vars s : List Int} {f : List Fact} (hf : FactsOK vars f) (hs : s.length = vars.length) : QaA f s = some (decide (JD f s)) := QjG hf hs
open Classical in
noncomputable def YT (effs : List Effect) (v : Int) (s : List Int) : Int := effs.foldl (fun c e => if e.Var = v ∧ JD e.When s then e.Val else c) (s[v.toNat]?.getD 0)
open Classical in
theorem Qc0 (effs : List Effect) (e : Effect) (v : Int) (s : List Int) : YT (effs ++ [e]) v s = if e.Var = v ∧ JD e.When s then e.Val else YT effs v s := by simp [YT]
theorem QgP {v : Int} {s s' : List Int} (h0 : s[v.toNat]? = s'[v.toNat]?) {effs : List Effect} (h : ∀ e ∈ effs, e.Var = v → (JD e.When s ↔ JD e.When s')) : YT effs v s = YT effs v s' := by
 unfold YT
 rw [h0]
 generalize s'[v.toNat]?.getD 0 = c
 induction effs generalizing c with
 | nil => rfl
 | cons e effs ih =>
  simp only [List.foldl_cons]
  have he : (e.Var = v ∧ JD e.When s) ↔ (e.Var = v ∧ JD e.When s') := by
   constructor
   ·rintro ⟨h1, h2⟩; exact ⟨h1, (h e (by simp) h1).1 h2⟩
   ·rintro ⟨h1, h2⟩; exact ⟨h1, (h e (by simp) h1).2 h2⟩
  classical
  refine Eq.trans (congrArg (fun z => List.foldl _ z effs) ?_) (ih (fun e' he' => h e' (by simp [he'])) _)
  by_cases hc : e.Var = v ∧ JD e.When s
  ·rw [if_pos hc, if_pos (he.1 hc)]
  ·rw [if_neg hc, if_neg fun h => hc (he.2 h)]
theorem QgO {vars : List Int} {v : Int} {s : List Int} {x : Int} (hx : s[v.toNat]? = some x) (h0 : 0 ≤ x) (h1 : x < JO vars v) {effs : List Effect} (h : ∀ e ∈ effs, InR vars ⟨e.Var, e.Val⟩) : 0 ≤ YT effs v s ∧ YT effs v s < JO vars v := by
 classical
 have key : ∀ (l : List Effect) (c : Int), (∀ e ∈ l, InR vars ⟨e.Var, e.Val⟩) → 0 ≤ c → c < JO vars v → 0 ≤ l.foldl (fun c e => if e.Var = v ∧ JD e.When s then e.Val else c) c ∧ l.foldl (fun c e => if e.Var = v ∧ JD e.When s then e.Val else c) c < JO vars v := by
  intro l
  induction l with
  | nil => exact fun c _ h0 h1 => ⟨h0, h1⟩
  | cons e l ih =>
   intro c h h0 h1
   simp only [List.foldl_cons]
   have he := h e (by simp)
   by_cases hc : e.Var = v ∧ JD e.When s
   ·rw [if_pos hc]
    refine ih _ (fun e' he' => h e' (by simp [he'])) he.2.2.1 ?_
    have := he.2.2.2
    rw [← hc.1]
    exact this
   ·rw [if_neg hc]
    exact ih _ (fun e' he' => h e' (by simp [he'])) h0 h1
 unfold YT
 rw [hx]
 exact key effs x h h0 h1
end Go.Pw
/- -/
set_option maxHeartbeats 4000000
namespace Go.Pw
theorem QfZ {vars : List Int} {w : Nat} (h : w < vars.length) : vars[w]? = some (JO vars (w : Int)) := by
 obtain ⟨d, hd⟩ := Qy h
 unfold JO
 rw [Int.toNat_natCast, hd]
 rfl
theorem StateOK.at {vars s : List Int} (h : StateOK vars s) {w : Int} (h0 : 0 ≤ w) (h1 : w < (vars.length : Int)) : ∃ x, s[w.toNat]? = some x ∧ 0 ≤ x ∧ x < JO vars w := by
 obtain ⟨x, hx⟩ := Qy (xs := s) (i := w.toNat) (by rw [h.len]; omega)
 have := QfZ (vars := vars) (w := w.toNat) (by omega)
 rw [Int.toNat_of_nonneg h0] at this
 exact ⟨x, hx, h.r _ _ _ hx this⟩
theorem StateOK.set {vars s : List Int} (h : StateOK vars s) {w : Int} {x : Int} (h0 : 0 ≤ x) (h1 : x < JO vars w) : StateOK vars (s.set w.toNat x) := by
 refine ⟨by simp [h.len], fun i y d hy hd => ?_⟩
 by_cases e : w.toNat = i
 ·have hlt := (List.getElem?_eq_some_iff.1 hy).1
  simp only [List.length_set] at hlt
  subst e
  rw [List.getElem?_set_self hlt] at hy
  cases hy
  unfold JO at h1
  rw [hd] at h1
  exact ⟨h0, h1⟩
 ·rw [List.getElem?_set_ne e] at hy
  exact h.r i y d hy hd
def TB (t : Task) (o : Op) (v a b : Int) : Prop := ∃ σ, StateOK t.Vars σ ∧ σ[v.toNat]? = some a ∧ JD o.Pre σ ∧ b = YT o.Effs v σ
theorem Qlb {l : List Int} (hl : l.length ≤ 4096) : Ok ((Y5 l).bind fun k => (Jn k).bind <| QM fun (n : Nat) (r : List Int) => (must (decide (n ≤ r.length))).bind fun _ => some (r.take n)) fun r => r.Pairwise (fun a b => a < b) ∧ (∀ x, x ∈ r ↔ x ∈ l) ∧ r.length ≤ l.length := by
 obtain ⟨k, hk, hp, hs⟩ := Qdc (l := l) (by omega)
 rw [hk]
 simp only [Option.bind_some]
 have hlen := hp.length_eq
 obtain ⟨⟨n, r⟩, hc, h1, h2, h3⟩ := Qel (eq := fun a b : Int => decide (a = b)) (by simp) 0 k (by omega)
 simp only at h1 h2 h3
 have hc' : Jn k = some (n, r) := hc
 rw [hc']
 simp only [Option.bind_some, QM]
 refine Ok.must (by simp; omega) (Ok.ret ?_)
 rw [h3]
 refine ⟨(Qd7 (le := fun a b => a ≤ b) (lt := fun a b => a < b) (by intro a b h hne; omega) (by intro a b c h h'; omega) (by intro a b c h h'; omega) k none hs (by simp)).1, fun x => ?_, ?_⟩
 ·rw [QjL, hp.mem_iff]
 ·have := Qia k none
  omega
theorem QjV {t : Task} (ht : GoodT t) {i : Nat} {o : Op} (hi : t.Ops[i]? = some o) {v a : Int} (hv0 : 0 ≤ v) (hv1 : v < (t.Vars.length : Int)) (ha0 : 0 ≤ a) (ha1 : a < JO t.Vars v) {fr : List Int} (hfn : fr.Nodup) (hfm : ∀ w, w ∈ fr ↔ QkT o v w)
  (hbig : Ke (fr.map (JO t.Vars)) ≤ 4096) : Ok (KM t (i : Int) [v] fr a) fun L => L.Pairwise (fun a b => a < b) ∧ (∀ b, b ∈ L ↔ TB t o v a b) ∧ (L.length : Int) ≤ Ke (fr.map (JO t.Vars)) := by
 classical
 have hop := ht.op o (List.mem_of_getElem? hi)
 have hdv := Kf ht.v hv0 hv1
 have hnv := ht.nv
 have hfr : ∀ w ∈ fr, 0 ≤ w ∧ w < (t.Vars.length : Int) := by
  intro w hw
  obtain ⟨_, _, e, he, _, f, hf, rfl⟩ := (hfm w).1 hw
  have := (hop.eff e he).1.r f hf
  exact ⟨this.1, this.2.1⟩
 have hfl := Qac hfn hfr
 have hfd : ∀ x ∈ fr.map (JO t.Vars), 1 ≤ x := by
  intro x hx
  obtain ⟨w, hw, rfl⟩ := List.mem_map.1 hx
  exact (Kf ht.v (hfr w hw).1 (hfr w hw).2).1
 have hP1 := Qca hfd
 have hvf : v ∉ fr := fun h => ((hfm v).1 h).1 rfl
 unfold KM
 rw [Qn, hi]
 simp only [Option.bind_some]
 refine Ok.step (Qb0 (by omega) (by omega)) ?_
 have hput0 : QdM t [v] (List.replicate t.Vars.length 0) a = some ((List.replicate t.Vars.length (0 : Int)).set v.toNat a) := by
  rw [QjK ht.v (by simp [hv0, hv1]) (by simp) (by simp) ha0 (by omega)]
  simp only [List.reverse_singleton, QbX]
  rw [Int.emod_eq_of_lt ha0 ha1]
 refine Ok.step hput0 ?_
 have hst0 : StateOK t.Vars (List.replicate t.Vars.length 0) := by
  refine ⟨by simp, fun j x d hx hd => ?_⟩
  have hx0 : x = 0 := by
   have := List.mem_of_getElem? hx
   exact (List.mem_replicate.1 this).2
  have := ht.v d (List.mem_of_getElem? hd)
  omega
 have hst1 : StateOK t.Vars ((List.replicate t.Vars.length (0 : Int)).set v.toNat a) := hst0.set ha0 ha1
 have hst1v : ((List.replicate t.Vars.length (0 : Int)).set v.toNat a)[v.toNat]? = some a := by rw [List.getElem?_set_self (by simp; omega)]
 refine Ok.ctl (fun j s => StateOK t.Vars s ∧ s[v.toNat]? = some a ∧ JD (o.Pre.take j) s) (fun r => r = [] ∧ ∃ x ∈ o.Pre, x.Var = v ∧ x.Val ≠ a) ⟨hst1, hst1v, by simp [JD]⟩ ?_ ?_ ?_
 ·rintro j s hj ⟨g1, g2, g3⟩
  obtain ⟨x, hx⟩ := Qy hj
  have hxm := List.mem_of_getElem? hx
  have hr := hop.pre.r x hxm
  have hbef : ∀ y ∈ o.Pre.take j, y.Var < x.Var := by
   have := hop.pre.take (j + 1)
   rw [QG hx] at this
   exact (FactsOK.snoc.1 this).2.2
  simp only [Qn, hx, Option.bind_some, QaS, List.mem_singleton]
  by_cases h1 : x.Var = v
  ·have e1 : Qz s x.Var = some a := by unfold Qz; rw [if_pos hr.1, h1, g2]
   simp only [h1, decide_true, if_true]
   rw [h1] at e1
   simp only [e1, Option.bind_some]
   by_cases h2 : a = x.Val
   ·simp only [h2, decide_true, Bool.not_true, Bool.false_eq_true, if_false]
    refine Ok.ret ⟨g1, h2 ▸ g2, ?_⟩
    rw [QG hx]
    intro y hy
    rcases List.mem_append.1 hy with hy | hy
    ·exact g3 y hy
    ·simp only [List.mem_singleton] at hy; subst hy; rw [h1, g2, h2]
   ·simp only [h2, decide_false, Bool.not_false, if_true]
    exact Ok.ret ⟨Z, x, hxm, h1, fun e => h2 e.symm⟩
  ·obtain ⟨y, hy, _⟩ := g1.at hr.1 hr.2.1
   have e1 : Qz s x.Var = some y := by unfold Qz; rw [if_pos hr.1, hy]
   have hlt : x.Var.toNat < s.length := by rw [g1.len]; have := hr.1; have := hr.2.1; omega
   have e2 : JG s x.Var x.Val = some (s.set x.Var.toNat x.Val) := by unfold JG; rw [if_pos ⟨hr.1, hlt⟩]
   simp only [h1, decide_false, Bool.false_eq_true, if_false, e1, e2, Option.bind_some]
   refine Ok.ret ⟨g1.set hr.2.2.1 hr.2.2.2, ?_, ?_⟩
   ·rw [List.getElem?_set_ne (by have := hr.1; omega)]; exact g2
   ·rw [QG hx]
    intro z hz
    rcases List.mem_append.1 hz with hz | hz
    ·have := hbef z hz
     have hz0 := (hop.pre.r z (List.mem_of_mem_take hz)).1
     rw [List.getElem?_set_ne (by omega)]
     exact g3 z hz
    ·simp only [List.mem_singleton] at hz; subst hz; rw [List.getElem?_set_self hlt]
 ·rintro r ⟨rfl, x, hx, h1, h2⟩
  refine Ok.ret ⟨by simp, fun b => ⟨fun h => by simp at h, ?_⟩, by simp; omega⟩
  rintro ⟨σ, s1, s2, s3, _⟩
  have := s3 x hx
  rw [h1, s2] at this
  exact absurd (Zu this).symm h2
 ·rintro s2 ⟨g1, g2, g3⟩
  rw [List.take_length] at g3
  obtain ⟨r, hr, hr2⟩ := Qg0 ht.v hfr
  have hr3 : r = (Ke (fr.map (JO t.Vars)), true) := by
   rcases hr2 with ⟨_, h⟩ | ⟨h, _⟩
   ·exact h
   ·omega
  subst hr3
  refine Ok.step hr ?_
  simp only [QM]
  refine Ok.must (by simp; omega) (Ok.bind ?_)
  generalize hN : (Ke (fr.map (JO t.Vars))) = N at *
  have hrev : ∀ w, w ∈ fr.reverse ↔ w ∈ fr := fun w => List.mem_reverse
  have hrn : fr.reverse.Nodup := (List.reverse_perm fr).nodup_iff.2 hfn
  have hNr : Ke (fr.reverse.map (JO t.Vars)) = N := by rw [← hN]; exact Qe3 ((List.reverse_perm fr).map _)
  have hagree : ∀ σ σ', StateOK t.Vars σ → StateOK t.Vars σ' → σ[v.toNat]? = some a → σ'[v.toNat]? = some a → JD o.Pre σ → JD o.Pre σ' → (∀ w ∈ fr, σ[w.toNat]? = σ'[w.toNat]?) → YT o.Effs v σ = YT o.Effs v σ' := by
   intro σ σ' k1 k2 k3 k4 k5 k6 k7
   refine QgP (by rw [k3, k4]) fun e he hev => ?_
   have hsame : ∀ f ∈ e.When, σ[f.Var.toNat]? = σ'[f.Var.toNat]? := by
    intro f hf
    by_cases c1 : f.Var = v
    ·rw [c1, k3, k4]
    ·by_cases c2 : ∃ x ∈ o.Pre, x.Var = f.Var
     ·obtain ⟨x, hx, hxe⟩ := c2
      rw [← hxe, k5 x hx, k6 x hx]
     ·exact k7 _ ((hfm _).2 ⟨c1, c2, e, he, hev, f, hf, Z⟩)
   constructor
   ·intro h f hf; rw [← hsame f hf]; exact h f hf
   ·intro h f hf; rw [hsame f hf]; exact h f hf
  refine QO (fun k q => q.1.length = k ∧ StateOK t.Vars q.2 ∧ q.2[v.toNat]? = some a ∧ JD o.Pre q.2 ∧ (∀ b ∈ q.1, TB t o v a b) ∧
    ∀ σ, StateOK t.Vars σ → σ[v.toNat]? = some a → JD o.Pre σ → Qeb t.Vars fr.reverse (fun w => σ[w.toNat]?.getD 0) < (k : Int) → YT o.Effs v σ ∈ q.1) ?_ ?_ ?_
  ·refine ⟨Z, g1, g2, g3, by simp, ?_⟩
   intro σ k1 k2 k3 hlt
   have := (Qik (vars := t.Vars) (a := fun w => σ[w.toNat]?.getD 0) (r := fr.reverse) fun w hw => by
    obtain ⟨x, hx, h0, h1⟩ := k1.at (hfr w ((hrev w).1 hw)).1 (hfr w ((hrev w).1 hw)).2
    simp only [hx, Option.getD_some]; exact ⟨h0, h1⟩).1
   omega
  ·rintro k ⟨out, l⟩ hk ⟨f1, f2, f3, f4, f5, f6⟩
   simp only at f1 f2 f3 f4 f5 f6
   have hkN : (k : Int) < N := by omega
   have hput : QdM t fr l (k : Int) = some (QbX t.Vars fr.reverse l k) := QjK ht.v hfr (by omega) f2.len (by omega) (by omega)
   have hprem : ∀ x ∈ fr.reverse, 0 ≤ x ∧ x.toNat < l.length ∧ 1 ≤ JO t.Vars x := by
    intro x hx
    have h := hfr x ((hrev x).1 hx)
    exact ⟨h.1, by rw [f2.len]; omega, (Kf ht.v h.1 h.2).1⟩
   have hout : ∀ w : Int, 0 ≤ w → w ∉ fr → (QbX t.Vars fr.reverse l (k : Int))[w.toNat]? = l[w.toNat]? := by
    intro w h0 hw
    refine Qe2 (fun x hx => (hprem x hx).1) ?_
    rw [Int.toNat_of_nonneg h0]
    exact fun h => hw ((hrev w).1 h)
   have hl'len : (QbX t.Vars fr.reverse l (k : Int)).length = t.Vars.length := by rw [QiW, f2.len]
   have hl'ok : StateOK t.Vars (QbX t.Vars fr.reverse l (k : Int)) := by
    refine ⟨hl'len, fun j x d hx hd => ?_⟩
    have hjl := (List.getElem?_eq_some_iff.1 hd).1
    have hdj := QfZ hjl
    rw [hd] at hdj
    have hdj := Zu hdj
    by_cases hm : (j : Int) ∈ fr
    ·obtain ⟨y, hy, h0, h1⟩ := Qk8 (vars := t.Vars) (s := l) (k := (k : Int)) hrn hprem (j : Int) ((hrev _).2 hm)
     rw [Int.toNat_natCast, hx] at hy
     cases hy
     omega
    ·have := hout (j : Int) (by omega) hm
     rw [Int.toNat_natCast] at this
     rw [this] at hx
     exact f2.r j x d hx hd
   have hl'v : (QbX t.Vars fr.reverse l (k : Int))[v.toNat]? = some a := by rw [hout v hv0 hvf, f3]
   have hl'p : JD o.Pre (QbX t.Vars fr.reverse l (k : Int)) := by
    intro x hx
    rw [hout x.Var (hop.pre.r x hx).1 (fun h => ((hfm _).1 h).2.1 ⟨x, hx, rfl⟩)]
    exact f4 x hx
   have hnum : ∀ σ, StateOK t.Vars σ → σ[v.toNat]? = some a → JD o.Pre σ → Qeb t.Vars fr.reverse (fun w => σ[w.toNat]?.getD 0) = (k : Int) → YT o.Effs v σ = YT o.Effs v (QbX t.Vars fr.reverse l (k : Int)) := by
    intro σ k1 k2 k3 hnk
    refine hagree σ _ k1 hl'ok k2 hl'v k3 hl'p fun w hw => ?_
    have h := hfr w hw
    obtain ⟨x, hx, h0, h1⟩ := k1.at h.1 h.2
    have := QiV (vars := t.Vars) (a := fun w => σ[w.toNat]?.getD 0) (s := l) hrn (fun y hy => by
     have h := hfr y ((hrev y).1 hy)
     obtain ⟨x, hx, h0, h1⟩ := k1.at h.1 h.2
     simp only [hx, Option.getD_some]
     exact ⟨h.1, by rw [f2.len]; omega, h0, h1⟩) w ((hrev w).2 hw)
    rw [hnk] at this
    rw [this, hx]
    rfl
   generalize QbX t.Vars fr.reverse l (k : Int) = l' at *
   simp only [QM, hput, Option.bind_some]
   have hclone : Jw l' = some l' := by
    unfold Jw
    rw [Jh (by simp; omega)]
    simp
   simp only [hclone, Option.bind_some]
   refine Ok.bind (QO (fun j m => m.length = t.Vars.length ∧ m[v.toNat]? = some (YT (o.Effs.take j) v l')) ⟨hl'len, by simp [YT, hl'v]⟩ ?_ ?_)
   ·rintro j m hj ⟨e1, e2⟩
    obtain ⟨e, he⟩ := Qy hj
    have hem := List.mem_of_getElem? he
    have her := hop.eff e hem
    have her2 := her.2
    unfold InR at her2
    simp only at her2
    simp only [Qn, he, Option.bind_some, QaS, List.mem_singleton]
    by_cases h1 : e.Var = v
    ·simp only [h1, decide_true, if_true, Qmn her.1 hl'len, Option.bind_some]
     by_cases h2 : JD e.When l'
     ·have i1 : Qz m v = some (YT (o.Effs.take j) v l') := by unfold Qz; rw [if_pos hv0, e2]
      have i2 : JG m v e.Val = some (m.set v.toNat e.Val) := by unfold JG; rw [if_pos ⟨hv0, by omega⟩]
      simp only [h2, decide_true, if_true, i1, i2, Option.bind_some]
      refine Ok.ret ⟨by simp [e1], ?_⟩
      rw [QG he, Qc0, if_pos ⟨h1, h2⟩, List.getElem?_set_self (by omega)]
     ·simp only [h2, decide_false, Bool.false_eq_true, if_false, Option.bind_some]
      refine Ok.ret ⟨e1, ?_⟩
      rw [QG he, Qc0, if_neg (fun h => h2 h.2)]
      exact e2
    ·simp only [h1, decide_false, Bool.false_eq_true, if_false, Option.bind_some]
     refine Ok.ret ⟨e1, ?_⟩
     rw [QG he, Qc0, if_neg (fun h => h1 h.1)]
     exact e2
   ·rintro m ⟨e1, e2⟩
    rw [List.take_length] at e2
    have hrange := QgO (vars := t.Vars) hl'v ha0 ha1 (effs := o.Effs) fun e he => (hop.eff e he).2
    rw [Qln ht.v hv0 hv1 e2 hrange.1 (by omega)]
    simp only [Option.bind_some]
    rw [Jh (by simp only [List.length_singleton]; omega)]
    refine Ok.ret ⟨by simp [f1], hl'ok, hl'v, hl'p, fun b hb => ?_, fun σ k1 k2 k3 hlt => ?_⟩
    ·rcases List.mem_append.1 hb with hb | hb
     ·exact f5 b hb
     ·simp only [List.mem_singleton] at hb
      exact ⟨l', hl'ok, hl'v, hl'p, hb⟩
    ·by_cases hlt' : Qeb t.Vars fr.reverse (fun w => σ[w.toNat]?.getD 0) < (k : Int)
     ·exact List.mem_append_left _ (f6 σ k1 k2 k3 hlt')
     ·refine List.mem_append_right _ ?_
      rw [hnum σ k1 k2 k3 (by omega)]
      simp
  ·rintro ⟨out, l⟩ ⟨f1, f2, f3, f4, f5, f6⟩
   simp only at f1 f2 f3 f4 f5 f6
   refine Ok.mono (Qlb (l := out) (by omega)) ?_
   rintro L ⟨h1, h2, h3⟩
   refine ⟨h1, fun b => ?_, by omega⟩
   rw [h2]
   constructor
   ·exact f5 b
   ·rintro ⟨σ, k1, k2, k3, rfl⟩
    refine f6 σ k1 k2 k3 ?_
    have := (Qik (vars := t.Vars) (a := fun w => σ[w.toNat]?.getD 0) (r := fr.reverse) fun w hw => by
     obtain ⟨x, hx, h0, h1⟩ := k1.at (hfr w ((hrev w).1 hw)).1 (hfr w ((hrev w).1 hw)).2
     simp only [hx, Option.getD_some]; exact ⟨h0, h1⟩).2
    rw [hNr] at this
    omega
end Go.Pw
/- -/
set_option maxHeartbeats 4000000
namespace Go.Pw
def AE (t : Task) (v : Int) (e : Edge) : Prop := ∃ (i : Nat) (o : Op), t.Ops[i]? = some o ∧ e.Label = (i : Int) ∧ TB t o v e.From e.To
def Qgm (t : Task) (v a : Int) : Prop := ∀ f ∈ t.Goal, f.Var = v → f.Val = a
structure AtomRes (t : Task) (v : Int) (x : System) : Prop where
 s : x.States = JO t.Vars v
 i : t.Init[v.toNat]? = some x.Init
 c : x.Costs = t.Ops.map fun o => o.Cost
 gl : (x.Goals.length : Int) = JO t.Vars v
 g : ∀ a : Nat, (a : Int) < JO t.Vars v → ∃ b, x.Goals[a]? = some b ∧ (b = true ↔ Qgm t v a)
 srt : Srt x.Edges
 mem : ∀ e, e ∈ x.Edges ↔ AE t v e
 n : x.Edges.length ≤ 65536
theorem AtomRes.uniq {t : Task} {v : Int} {x y : System} (h : AtomRes t v x) (k : AtomRes t v y) : x = y := by
 have h1 : x.States = y.States := by rw [h.s, k.s]
 have h2 : x.Init = y.Init := by have := h.i; rw [k.i] at this; exact (Zu this).symm
 have h3 : x.Costs = y.Costs := by rw [h.c, k.c]
 have h4 : x.Edges = y.Edges := Srt.ext h.srt k.srt fun e => by rw [h.mem, k.mem]
 have h5 : x.Goals = y.Goals := by
  apply List.ext_getElem?
  intro i
  by_cases hi : i < x.Goals.length
  ·have hlt : (i : Int) < JO t.Vars v := by rw [← h.gl]; omega
   obtain ⟨b, hb, hb2⟩ := h.g i hlt
   obtain ⟨c, hc, hc2⟩ := k.g i hlt
   rw [hb, hc]
   congr 1
   rw [Bool.eq_iff_iff, hb2, hc2]
  ·have := h.gl
   have := k.gl
   rw [List.getElem?_eq_none (by omega), List.getElem?_eq_none (by omega)]
 cases x; cases y
 simp only at *
 subst h1 h2 h3 h4 h5
 rfl
abbrev noS : System := ⟨0, 0, [], [], []⟩
theorem Qma {t : Task} {v : Int} (hn : ∀ o ∈ t.Ops, o.Name.size ≤ 9223372036854775807) : Ok (Ym t [v]) fun e => e = none ↔ GoodT t ∧ 0 ≤ v ∧ v < (t.Vars.length : Int) := by
 unfold Ym
 obtain ⟨e, he, hg⟩ := Qg1 t hn
 rw [he]
 simp only [Option.bind_some]
 cases e with
 | some e =>
  simp only [Option.isSome_some, if_true]
  refine Ok.ret ⟨fun h => (by cases h), fun h => ?_⟩
  have := hg.2 h.1
  cases this
 | none =>
  have hG := hg.1 rfl
  simp only [Option.isSome_none, Bool.false_eq_true, if_false]
  simp only [List.length_singleton, Js, ctl, Qn, List.getElem?_cons_zero, Option.bind_some]
  by_cases h1 : v < 0
  ·simp only [h1, decide_true, if_true, Option.bind_some]
   exact Ok.ret ⟨fun h => (by cases h), fun h => by omega⟩
  by_cases h2 : (t.Vars.length : Int) ≤ v
  ·simp only [h1, h2, decide_true, decide_false, Bool.false_eq_true, if_false, if_true, Option.bind_some]
   exact Ok.ret ⟨fun h => (by cases h), fun h => by omega⟩
  simp only [h1, h2, decide_false, Bool.false_eq_true, if_false, Option.bind_some]
  rw [if_neg (by simp)]
  exact Ok.ret ⟨fun _ => ⟨hG, by omega, by omega⟩, fun _ => rfl⟩
open Classical in
theorem Qls {t : Task} (hg : FactsOK t.Vars t.Goal) {v a : Int} {s : List Int} (hs : s[v.toNat]? = some a) : Ok (forS (fun i => fun (goal : Bool) => (Qz t.Goal (i : Int)).bind fun x =>
  (if goal then ((Q9 [v] x.Var).bind <| fun (y : Bool) =>
  if !y then (some true)
  else ((Qz s x.Var).bind fun z =>
  some (decide (z = x.Val))))
  else (some false)).bind (fun (goal : Bool) => some goal)) (t.Goal.length) 0 true) fun b => b = decide (Qgm t v a) := by
 refine QO (fun i b => b = decide (∀ f ∈ t.Goal.take i, f.Var = v → f.Val = a)) (by simp) ?_ ?_
 ·rintro i b hi rfl
  obtain ⟨x, hx⟩ := Qy hi
  have hr := hg.r x (List.mem_of_getElem? hx)
  simp only [Qn, hx, Option.bind_some, QaS, List.mem_singleton, QG hx]
  by_cases h1 : ∀ f ∈ t.Goal.take i, f.Var = v → f.Val = a
  ·by_cases h2 : x.Var = v
   ·have e1 : Qz s x.Var = some a := by unfold Qz; rw [if_pos hr.1, h2, hs]
    rw [h2] at e1
    simp only [h2, e1, decide_true, Bool.not_true, Bool.false_eq_true, if_false, Option.bind_some]
    rw [if_pos (by simpa using h1)]
    refine Ok.ret ?_
    by_cases h3 : a = x.Val
    ·rw [decide_eq_true h3, decide_eq_true]
     intro f hf hv
     rcases List.mem_append.1 hf with hf | hf
     ·exact h1 f hf hv
     ·simp only [List.mem_singleton] at hf; subst hf; exact h3.symm
    ·rw [decide_eq_false h3, decide_eq_false]
     intro h
     exact h3 (h x (by simp) h2).symm
   ·simp only [h2, decide_false, Bool.not_false, if_true]
    rw [if_pos (by simpa using h1)]
    refine Ok.ret ?_
    rw [decide_eq_true]
    intro f hf hv
    rcases List.mem_append.1 hf with hf | hf
    ·exact h1 f hf hv
    ·simp only [List.mem_singleton] at hf; subst hf; exact absurd hv h2
  ·rw [if_neg (by simpa using h1)]
   refine Ok.ret ?_
   rw [decide_eq_false]
   exact fun h => h1 fun f hf hv => h f (by simp [hf]) hv
 ·rintro b rfl
  rw [List.take_length]
  exact decide_eq_decide.2 Iff.rfl
def QjE (t : Task) (v : Int) : Prop := ∃ M : Nat, (∀ o ∈ t.Ops, ∀ fr : List Int, fr.Nodup → (∀ w, w ∈ fr ↔ QkT o v w) → Ke (fr.map (JO t.Vars)) ≤ M) ∧ M ≤ 4096 ∧ (JO t.Vars v).toNat * t.Ops.length * M < 65536
theorem Qju {t : Task} {v : Int} (ht : GoodT t) (h0 : 0 ≤ v) (h1 : v < (t.Vars.length : Int)) (hn : ∀ o ∈ t.Ops, o.Name.size ≤ 9223372036854775807) :
  Ok (J6 t [v]) fun r => (r.1 = none ∧ AtomRes t v r.2) ∨ (r.1 = some 5 ∧ r.2 = noS ∧ ¬ QjE t v) := by
 classical
 have hd := Kf ht.v h0 h1
 have hno := ht.no
 have hnv := ht.nv
 unfold J6
 obtain ⟨e, he, hg⟩ := Qma (t := t) (v := v) hn
 obtain rfl := hg.2 ⟨ht, h0, h1⟩
 rw [he]
 simp only [Option.bind_some, Option.isSome_none, Bool.false_eq_true, if_false]
 obtain ⟨r, hr, hr2⟩ := Qg0 ht.v (l := [v]) (by simp [h0, h1])
 have hpv : Ke ([v].map (JO t.Vars)) = JO t.Vars v := by simp [Ke]
 have hr3 : r = (JO t.Vars v, true) := by
  rw [hpv] at hr2
  rcases hr2 with ⟨_, h⟩ | ⟨h, _⟩
  ·exact h
  ·omega
 subst hr3
 rw [hr]
 obtain ⟨x0, hx0, hx1, hx2⟩ := ht.init.at h0 h1
 simp only [Option.bind_some, QM, Bool.not_true, Bool.false_eq_true, if_false, QkA ht.v h0 h1 hx0 hx1 (by omega)]
 refine Ok.step (Qb0 (by omega) (by omega)) ?_
 refine Ok.ctl (fun i q => q.1 = (t.Ops.take i).map (fun o => o.Cost) ∧ q.2.length = t.Ops.length ∧ ∀ j o, j < i → t.Ops[j]? = some o → ∃ fr, q.2[j]? = some fr ∧ fr.Nodup ∧ (∀ w, w ∈ fr ↔ QkT o v w) ∧ Ke (fr.map (JO t.Vars)) ≤ 4096)
  (fun r => r = (some 5, noS) ∧ ¬ QjE t v) ⟨by simp, by simp, fun j o hj => by omega⟩ ?_ ?_ ?_
 ·rintro i ⟨cs, fs⟩ hi ⟨g1, g2, g3⟩
  simp only at g1 g2 g3
  obtain ⟨o, ho⟩ := Qy hi
  have hom := List.mem_of_getElem? ho
  have hop := ht.op o hom
  obtain ⟨fr, hf, hf1, hf2⟩ := Qkd hop hnv (v := v)
  have hfr : ∀ w ∈ fr, 0 ≤ w ∧ w < (t.Vars.length : Int) := by
   intro w hw
   obtain ⟨_, _, e, he, _, f, hf, rfl⟩ := (hf2 w).1 hw
   have := (hop.eff e he).1.r f hf
   exact ⟨this.1, this.2.1⟩
  obtain ⟨y, hy⟩ := Qy (xs := fs) (i := i) (by omega)
  simp only [QM, Qn, ho, Option.bind_some]
  rw [Jh (by rw [g1]; simp; omega)]
  simp only [Option.bind_some, hf, hy, QX (show i < fs.length by omega)]
  rw [List.getElem?_set_self (by omega)]
  simp only [Option.bind_some]
  obtain ⟨r, hr, hr2⟩ := Qg0 ht.v hfr
  rw [hr]
  simp only [Option.bind_some]
  rcases hr2 with ⟨h2, rfl⟩ | ⟨h2, rfl⟩
  ·simp only [QM, Bool.not_true, Bool.false_eq_true, if_false]
   refine Ok.ret ⟨by simp only; rw [g1, QG ho]; simp, by simp [g2], fun j o' hj ho' => ?_⟩
   by_cases e : j = i
   ·subst e
    rw [ho] at ho'; cases ho'
    exact ⟨fr, by simp only; rw [List.getElem?_set_self (by omega)], hf1, hf2, h2⟩
   ·simp only
    rw [List.getElem?_set_ne (Ne.symm e)]
    exact g3 j o' (by omega) ho'
  ·simp only [QM, Bool.not_false, if_true]
   refine Ok.ret ⟨Z, ?_⟩
   rintro ⟨M, hM, hM2, _⟩
   have := hM o hom fr hf1 hf2
   omega
 ·rintro r ⟨rfl, h⟩
  exact Ok.ret (.inr ⟨Z, Z, h⟩)
 rintro ⟨cs, fs⟩ ⟨g1, g2, g3⟩
 simp only at g1 g2 g3
 rw [List.take_length] at g1
 simp only [QM]
 refine Ok.step (Qb0 (by omega) (by omega)) (Ok.must (by simp; omega) ?_)
 have hdn : ((JO t.Vars v).toNat : Int) = JO t.Vars v := by omega
 generalize hD : (JO t.Vars v).toNat = D at *
 let Bd : Nat → Prop := fun M => (∀ o ∈ t.Ops, ∀ fr : List Int, fr.Nodup → (∀ w, w ∈ fr ↔ QkT o v w) → Ke (fr.map (JO t.Vars)) ≤ M)
 refine Ok.ctl (fun a q => q.2.2.length = t.Vars.length ∧ q.2.1.length = a ∧ (∀ b, b < a → ∃ z, q.2.1[b]? = some z ∧ (z = true ↔ Qgm t v b)) ∧ Srt q.1 ∧ (∀ e, e ∈ q.1 ↔ AE t v e ∧ e.From < (a : Int)) ∧ q.1.length ≤ 65536 ∧ ∀ M, Bd M → q.1.length ≤ a * t.Ops.length * M)
  (fun r => r = (some 5, noS) ∧ ¬ QjE t v) ⟨by simp, by simp, fun b hb => by omega, List.Pairwise.nil, ?_, by simp, by simp⟩ ?_ ?_ ?_
 ·intro e
  simp only [List.not_mem_nil, false_iff]
  rintro ⟨⟨i, o, _, _, σ, hσ, hv, _⟩, hlt⟩
  obtain ⟨y, hy, hy0, _⟩ := hσ.at h0 h1
  rw [hy] at hv
  have := Zu hv
  omega
 ·rintro a ⟨E, G, s⟩ ha ⟨k1, k2, k3, k4, k5, k6, k7⟩
  simp only at k1 k2 k3 k4 k5 k6 k7
  have haD : (a : Int) < JO t.Vars v := by omega
  have hput : QdM t [v] s (a : Int) = some (s.set v.toNat a) := by
   rw [QjK ht.v (by simp [h0, h1]) (by simp) k1 (by omega) (by omega)]
   simp only [List.reverse_singleton, QbX]
   rw [Int.emod_eq_of_lt (by omega) haD]
  have hsv : (s.set v.toNat (a : Int))[v.toNat]? = some (a : Int) := by rw [List.getElem?_set_self (by omega)]
  simp only [un3, hput, Option.bind_some]
  obtain ⟨b, hb, hb2⟩ := Qls ht.goal hsv
  subst hb2
  refine Ok.step hb ?_
  rw [Jh (by simp only [List.length_singleton]; omega)]
  simp only [Option.bind_some]
  refine Ok.ctl (fun i E' => Srt E' ∧ (∀ e, e ∈ E' ↔ AE t v e ∧ (e.From < (a : Int) ∨ e.From = (a : Int) ∧ e.Label < (i : Int))) ∧ E'.length ≤ 65536 ∧ ∀ M, Bd M → E'.length ≤ (a * t.Ops.length + i) * M)
   (fun r => r = (some 5, noS) ∧ ¬ QjE t v) ⟨k4, fun e => ?_, k6, fun M hM => by simpa using k7 M hM⟩ ?_ ?_ ?_
  ·rw [k5]
   constructor
   ·rintro ⟨h1, h2⟩; exact ⟨h1, .inl h2⟩
   ·rintro ⟨h1, h2 | ⟨h2, h3⟩⟩
    ·exact ⟨h1, h2⟩
    ·obtain ⟨i, o, _, h4, _⟩ := h1
     omega
  ·rintro i E' hi ⟨f1, f2, f3, f4⟩
   obtain ⟨o, ho⟩ := Qy hi
   have hom := List.mem_of_getElem? ho
   obtain ⟨fr, hfr, hf1, hf2, hf3⟩ := g3 i o hi ho
   obtain ⟨L, hL, hL1, hL2, hL3⟩ := QjV ht ho h0 h1 (a := (a : Int)) (by omega) haD hf1 hf2 hf3
   simp only [Qn, hfr, hL, Option.bind_some]
   refine Ok.ctl (fun j E2 => E2 = E' ++ (L.take j).map (fun b => (⟨(a : Int), (i : Int), b⟩ : Edge)) ∧ E2.length ≤ 65536) (fun r => r = (some 5, noS) ∧ ¬ QjE t v) ⟨by simp, f3⟩ ?_ ?_ ?_
   ·rintro j E2 hj ⟨e1, e2⟩
    obtain ⟨b, hb⟩ := Qy hj
    simp only [Qn, hb, Option.bind_some]
    by_cases hc : (E2.length : Int) = 65536
    ·simp only [hc, decide_true, if_true]
     refine Ok.ret ⟨Z, ?_⟩
     rintro ⟨M, hM, hM2, hM3⟩
     rw [hD] at hM3
     have hbd : Bd M := hM
     have q1 := f4 M hbd
     have q2 := hM o hom fr hf1 hf2
     have q3 : E2.length = E'.length + j := by rw [e1]; simp; omega
     have q4 : (a * t.Ops.length + i) * M + M ≤ D * t.Ops.length * M := by
      rw [← Nat.succ_mul]
      refine Nat.mul_le_mul_right _ ?_
      have : (a + 1) * t.Ops.length ≤ D * t.Ops.length := Nat.mul_le_mul_right _ ha
      rw [Nat.succ_mul] at this
      omega
     omega
    ·simp only [hc, decide_false, Bool.false_eq_true, if_false]
     rw [Jh (by simp only [List.length_singleton]; omega)]
     simp only [Option.bind_some]
     refine Ok.ret ⟨?_, by simp; omega⟩
     rw [QG hb, e1]
     simp
   ·rintro r h
    exact Ok.ret h
   ·rintro E2 ⟨e1, e2⟩
    rw [List.take_length] at e1
    subst e1
    refine Ok.ret ⟨?_, fun e => ?_, e2, fun M hM => ?_⟩
    ·refine List.pairwise_append.2 ⟨f1, ?_, ?_⟩
     ·refine List.pairwise_map.2 (hL1.imp ?_)
      intro x y hxy
      exact .inr ⟨Z, .inr ⟨Z, hxy⟩⟩
     ·intro x hx y hy
      obtain ⟨b, hb, rfl⟩ := List.mem_map.1 hy
      rcases ((f2 x).1 hx).2 with h | ⟨h, h'⟩
      ·exact .inl h
      ·exact .inr ⟨h, .inl h'⟩
    ·rw [List.mem_append, f2, List.mem_map]
     constructor
     ·rintro (⟨h2, h3⟩ | ⟨b, hb, rfl⟩)
      ·exact ⟨h2, by omega⟩
      ·exact ⟨⟨i, o, ho, Z, (hL2 b).1 hb⟩, .inr ⟨Z, by simp only; omega⟩⟩
     ·rintro ⟨h2, h3⟩
      by_cases h4 : e.From = (a : Int) ∧ e.Label = (i : Int)
      ·obtain ⟨i', o', ho', hl', hT⟩ := h2
       have : i' = i := by omega
       subst this
       rw [ho] at ho'; cases ho'
       rw [h4.1] at hT
       refine .inr ⟨e.To, (hL2 _).2 hT, ?_⟩
       cases e
       simp only at *
       rw [h4.1, h4.2]
      ·exact .inl ⟨h2, by omega⟩
    ·have q1 := f4 M hM
     have q2 := hM o hom fr hf1 hf2
     rw [← Nat.add_assoc, Nat.succ_mul]
     simp only [List.length_append, List.length_map]
     omega
  ·rintro r ⟨rfl, h⟩
   exact Ok.ret ⟨Z, h⟩
  ·rintro E' ⟨f1, f2, f3, f4⟩
   refine Ok.ret ⟨by simp [k1], by simp [k2], fun b hb => ?_, f1, fun e => ?_, f3, fun M hM => ?_⟩
   ·simp only
    by_cases e : b = a
    ·subst e
     exact ⟨_, by rw [List.getElem?_append_right (by omega), k2, Nat.sub_self]; rfl, by simp⟩
    ·rw [List.getElem?_append_left (by omega)]
     exact k3 b (by omega)
   ·simp only
    rw [f2]
    constructor
    ·rintro ⟨h2, h3⟩; exact ⟨h2, by omega⟩
    ·rintro ⟨h2, h3⟩
     have h4 := h2
     obtain ⟨i', o', ho', hl', hT⟩ := h4
     have := (List.getElem?_eq_some_iff.1 ho').1
     exact ⟨h2, by omega⟩
   ·have := f4 M hM
    simp only
    rw [Nat.succ_mul]
    exact this
 ·rintro r ⟨rfl, h⟩
  exact Ok.ret (.inr ⟨Z, Z, h⟩)
 ·rintro ⟨E, G, s⟩ ⟨k1, k2, k3, k4, k5, k6, k7⟩
  simp only at k1 k2 k3 k4 k5 k6 k7
  simp only [un3]
  refine Ok.ret (.inl ⟨Z, Z, hx0, g1, by simp only; omega, fun a ha => k3 a (by omega), k4, fun e => ?_, k6⟩)
  simp only
  rw [k5]
  constructor
  ·exact fun h => h.1
  ·intro h
   refine ⟨h, ?_⟩
   obtain ⟨_, _, _, _, σ, hσ, hv, _⟩ := h
   obtain ⟨y, hy, _, hy1⟩ := hσ.at h0 h1
   rw [hy] at hv
   have := Zu hv
   omega
theorem QhS {t : Task} {v : Int} (hn : ∀ o ∈ t.Ops, o.Name.size ≤ 9223372036854775807) : Ok (KX t v) fun r =>
  (GoodT t ∧ 0 ≤ v ∧ v < (t.Vars.length : Int) → (r.1 = none ∧ AtomRes t v r.2) ∨ (r.1 = some 5 ∧ r.2 = noS ∧ ¬ QjE t v)) ∧ (¬ (GoodT t ∧ 0 ≤ v ∧ v < (t.Vars.length : Int)) → r.1.isSome = true ∧ r.2 = noS) := by
 unfold KX
 by_cases h : GoodT t ∧ 0 ≤ v ∧ v < (t.Vars.length : Int)
 ·obtain ⟨⟨e, x⟩, hr, h2⟩ := Qju h.1 h.2.1 h.2.2 hn
  rw [hr]
  exact Ok.ret ⟨fun _ => h2, fun h' => absurd h h'⟩
 ·have : Ok (J6 t [v]) fun r => r.1.isSome = true ∧ r.2 = noS := by
   unfold J6
   obtain ⟨e, he, hg⟩ := Qma (t := t) (v := v) hn
   rw [he]
   simp only [Option.bind_some]
   cases e with
   | none => exact absurd (hg.1 rfl) h
   | some e =>
    simp only [Option.isSome_some, if_true]
    exact Ok.ret ⟨Z, Z⟩
  obtain ⟨⟨e, x⟩, hr, h2⟩ := this
  rw [hr]
  exact Ok.ret ⟨fun h' => absurd h' h, fun _ => h2⟩
end Go.Pw
/- -/
set_option maxHeartbeats 4000000
namespace Go.Pw
/-! ### all states -/
def Qed (k : Int) (out : List (List Int)) : List (List Int) := out.flatMap fun s => (List.range k.toNat).map fun (x : Nat) => s ++ [(x : Int)]
def stR : List Int → List (List Int)
 | [] => [[]]
 | k :: r => Qed k (stR r)
def Jq (vars : List Int) : List (List Int) := stR vars.reverse
theorem QgN (k : Int) (hk : 0 ≤ k) (out : List (List Int)) : ((Qed k out).length : Int) = out.length * k := by
 unfold Qed
 induction out with
 | nil => simp
 | cons s out ih =>
  simp only [List.flatMap_cons, List.length_append, List.length_map, List.length_range, List.length_cons]
  rw [Int.natCast_add, ih, Int.natCast_add, Int.add_mul]
  omega
theorem Qk5 : ∀ {r : List Int}, (∀ x ∈ r, 0 ≤ x) → ((stR r).length : Int) = Ke r
 | [], _ => rfl
 | k :: r, h => by
  unfold stR Ke
  rw [QgN k (h k (by simp)), Qk5 fun x hx => h x (by simp [hx]), Int.mul_comm]
theorem StateOK.snoc {vars : List Int} {k : Int} {s : List Int} : StateOK (vars ++ [k]) s ↔ ∃ s' x, s = s' ++ [x] ∧ StateOK vars s' ∧ 0 ≤ x ∧ x < k := by
 constructor
 ·intro h
  have hl := h.len
  simp only [List.length_append, List.length_singleton] at hl
  obtain ⟨x, hx⟩ := Qy (xs := s) (i := vars.length) (by omega)
  have hsp : s = s.take vars.length ++ [x] := by
   have := QG hx
   rw [← this, List.take_of_length_le (by omega)]
  refine ⟨s.take vars.length, x, hsp, ⟨by simp; omega, fun i y d hy hd => ?_⟩, ?_⟩
  ·have hi := (List.getElem?_eq_some_iff.1 hd).1
   refine h.r i y d ?_ (by rw [List.getElem?_append_left hi]; exact hd)
   rw [List.getElem?_take] at hy
   simpa [hi] using hy
  ·exact h.r vars.length x k hx (by simp)
 ·rintro ⟨s', x, rfl, h, h0, h1⟩
  refine ⟨by simp [h.len], fun i y d hy hd => ?_⟩
  by_cases hi : i < vars.length
  ·rw [List.getElem?_append_left (by rw [h.len]; exact hi)] at hy
   rw [List.getElem?_append_left hi] at hd
   exact h.r i y d hy hd
  ·have hlt := (List.getElem?_eq_some_iff.1 hd).1
   simp only [List.length_append, List.length_singleton] at hlt
   obtain rfl : i = vars.length := by omega
   rw [List.getElem?_append_right (by rw [h.len]; exact Nat.le_refl _), h.len, Nat.sub_self] at hy
   rw [List.getElem?_append_right (Nat.le_refl _), Nat.sub_self] at hd
   simp only [List.getElem?_cons_zero, Option.some.injEq] at hy hd
   subst hy hd
   exact ⟨h0, h1⟩
theorem Qig : ∀ {r : List Int} {s : List Int}, s ∈ stR r ↔ StateOK r.reverse s
 | [], s => by
  simp only [stR, List.mem_singleton, List.reverse_nil]
  constructor
  ·rintro rfl; exact ⟨rfl, by simp⟩
  ·intro h; exact List.eq_nil_of_length_eq_zero h.len
 | k :: r, s => by
  rw [List.reverse_cons, StateOK.snoc]
  simp only [stR, Qed, List.mem_flatMap, List.mem_map, List.mem_range]
  constructor
  ·rintro ⟨s', hs', x, hx, rfl⟩
   exact ⟨s', (x : Int), Z, Qig.1 hs', by omega, by omega⟩
  ·rintro ⟨s', x, rfl, h, h0, h1⟩
   exact ⟨s', Qig.2 h, x.toNat, by omega, by rw [Int.toNat_of_nonneg h0]⟩
theorem Qbk {vars s : List Int} : s ∈ Jq vars ↔ StateOK vars s := by
 unfold Jq
 rw [Qig, List.reverse_reverse]
theorem Qjv (l : List Int) : Ke l.reverse = Ke l := Qe3 (List.reverse_perm l)
theorem Qar {vars : List Int} (h : ∀ x ∈ vars, 0 ≤ x) : ((Jq vars).length : Int) = Ke vars := by
 unfold Jq
 rw [Qk5 (fun x hx => h x (List.mem_reverse.1 hx)), Qjv]
theorem Qdd {l : List Int} (h : ∀ x ∈ l, 1 ≤ x) (i : Nat) : Ke (l.take i) ≤ Ke l := by
 have := Qcm (l := l.take i) (k := l.drop i) (fun x hx => h x (List.mem_of_mem_take hx)) (fun x hx => h x (List.mem_of_mem_drop hx))
 rwa [List.take_append_drop] at this
theorem Qfe {vars : List Int} (hv : ∀ n ∈ vars, 1 ≤ n ∧ n ≤ 64) (hn : vars.length ≤ 64) (hp : Ke vars ≤ 4096) : KR vars = some (Jq vars) := by
 unfold KR
 refine Ok.eq (Ok.bind (QO (fun i out => out = Jq (vars.take i)) (by simp [Jq, stR]) ?_ ?_))
 ·rintro i out hi rfl
  obtain ⟨k, hk⟩ := Qy hi
  have hkr := hv k (List.mem_of_getElem? hk)
  have hlen := Qar (vars := vars.take i) fun x hx => by have := hv x (List.mem_of_mem_take hx); omega
  have hle := Qdd (l := vars) (fun x hx => (hv x hx).1) i
  have hle2 := Qdd (l := vars) (fun x hx => (hv x hx).1) (i + 1)
  have hmul : Ke (vars.take (i + 1)) = Ke (vars.take i) * k := by rw [QG hk, QbL]; simp [Ke]
  have hstep : Jq (vars.take (i + 1)) = Qed k (Jq (vars.take i)) := by
   unfold Jq
   rw [QG hk, List.reverse_append, List.reverse_singleton, List.singleton_append]
   rfl
  have hel := QgN k (by omega) (Jq (vars.take i))
  have hsl : ∀ s ∈ Jq (vars.take i), s.length ≤ 64 := fun s hs => by
   have := (Qbk.1 hs).len
   rw [List.length_take] at this
   omega
  rw [hstep]
  generalize Jq (vars.take i) = L at *
  simp only [Qn, hk, Option.bind_some]
  rw [Yr L (fun s => (List.range k.toNat).map fun (x : Nat) => s ++ [(x : Int)]) (s0 := [])]
  ·exact Ok.ret (by simp [Qed])
  ·intro j s u hj hu
   have hs := hsl s (List.mem_of_getElem? hj)
   have hjl := (List.getElem?_eq_some_iff.1 hj).1
   have hul : u.length ≤ 4096 * 64 := by
    rw [hu, List.nil_append]
    refine Nat.le_trans (Qb7 (M := 64) fun x _ => by simp; omega) (Nat.mul_le_mul_right _ ?_)
    rw [List.length_take]
    omega
   have hm : must (decide (k ≤ 9223372036854775807)) = some () := by unfold must; rw [if_pos (by simp; omega)]
   simp only [hj, hm, Option.bind_some]
   rw [Qeh k.toNat (fun (x : Nat) => [s ++ [(x : Int)]]) (s0 := u)]
   ·simp [Kp]
   ·intro x w hx hw
    have hwl : w.length ≤ 4096 * 64 + 64 := by
     rw [hw, Kp]
     simp
     omega
    rw [Jh (by simp; omega)]
    simp only [Option.bind_some, List.nil_append]
    rw [Jh (by simp; omega)]
    simp only [Option.bind_some]
    rw [Jh (by simp; omega)]
    rfl
 ·rintro out rfl
  rw [List.take_length]
  exact Ok.ret Z
/-! ### successors -/
open Classical in
noncomputable def JH (effs : List Effect) (s : List Int) : List Int := effs.foldl (fun c e => if JD e.When s then c.set e.Var.toNat e.Val else c) s
open Classical in
theorem Qdg (effs : List Effect) (e : Effect) (s : List Int) : JH (effs ++ [e]) s = if JD e.When s then (JH effs s).set e.Var.toNat e.Val else JH effs s := by simp [JH]
theorem Qd4 {α : Type} {P : List α → Prop} (h0 : P []) (h1 : ∀ l x, P l → P (l ++ [x])) (l : List α) : P l := by
 have : ∀ r : List α, P r.reverse := by
  intro r
  induction r with
  | nil => exact h0
  | cons x r ih => rw [List.reverse_cons]; exact h1 _ _ ih
 have h := this l.reverse
 rwa [List.reverse_reverse] at h
theorem QdA {vars : List Int} {s : List Int} (hs : StateOK vars s) {effs : List Effect} : (∀ e ∈ effs, InR vars ⟨e.Var, e.Val⟩) → StateOK vars (JH effs s) := by
 refine Qd4 (P := fun effs => (∀ e ∈ effs, InR vars ⟨e.Var, e.Val⟩) → StateOK vars (JH effs s)) (fun _ => hs) ?_ effs
 intro l e ih h
 have h1 := ih fun e' he' => h e' (by simp [he'])
 have h2 := h e (by simp)
 rw [Qdg]
 by_cases hc : JD e.When s
 ·rw [if_pos hc]; exact h1.set h2.2.2.1 h2.2.2.2
 ·rw [if_neg hc]; exact h1
theorem QdB {vars : List Int} {s : List Int} (hs : StateOK vars s) {v : Int} (h0 : 0 ≤ v) (h1 : v < (vars.length : Int)) {effs : List Effect} : (∀ e ∈ effs, InR vars ⟨e.Var, e.Val⟩) → (JH effs s)[v.toNat]? = some (YT effs v s) := by
 refine Qd4 (P := fun effs => (∀ e ∈ effs, InR vars ⟨e.Var, e.Val⟩) → (JH effs s)[v.toNat]? = some (YT effs v s)) (fun _ => ?_) ?_ effs
 ·obtain ⟨x, hx, _⟩ := hs.at h0 h1
  simp [JH, YT, hx]
 ·intro l e ih h
  have i1 := ih fun e' he' => h e' (by simp [he'])
  have h2 := h e (by simp)
  have hok := QdA hs (effs := l) fun e' he' => h e' (by simp [he'])
  have hlen := hok.len
  rw [Qdg, Qc0]
  by_cases hc : JD e.When s
  ·rw [if_pos hc]
   by_cases hv : e.Var = v
   ·rw [if_pos ⟨hv, hc⟩, hv, List.getElem?_set_self (by omega)]
   ·have := h2.1
    rw [if_neg (fun h => hv h.1), List.getElem?_set_ne (by simp only at this; omega)]
    exact i1
  ·rw [if_neg hc, if_neg (fun h => hc h.2)]
   exact i1
theorem QmJ {t : Task} (ht : GoodT t) {i : Nat} {o : Op} (hi : t.Ops[i]? = some o) {s : List Int} (hs : StateOK t.Vars s) :
  Ok (Qa6 t s (i : Int)) fun r => (JD o.Pre s → r = (JH o.Effs s, true)) ∧ (¬ JD o.Pre s → r = ([], false)) := by
 classical
 have hop := ht.op o (List.mem_of_getElem? hi)
 have hlt := (List.getElem?_eq_some_iff.1 hi).1
 have hnv := ht.nv
 have hsl := hs.len
 unfold Qa6
 have a1 : ¬ ((i : Int) < 0) := by omega
 have a2 : ¬ ((t.Ops.length : Int) ≤ (i : Int)) := by omega
 simp only [a1, a2, decide_false, Bool.false_eq_true, if_false, Qn, hi, Option.bind_some, QjG hop.pre hsl]
 by_cases h : JD o.Pre s
 ·simp only [h, decide_true, Bool.not_true, Bool.false_eq_true, if_false]
  rw [Jh (by simp; omega)]
  simp only [Option.bind_some, List.nil_append]
  refine Ok.bind (QO (fun j m => m = JH (o.Effs.take j) s) (by simp [JH]) ?_ ?_)
  ·rintro j m hj rfl
   obtain ⟨e, he⟩ := Qy hj
   have her := hop.eff e (List.mem_of_getElem? he)
   have hok := QdA hs (effs := o.Effs.take j) fun e' he' => (hop.eff e' (List.mem_of_mem_take he')).2
   have her2 := her.2
   unfold InR at her2
   simp only at her2
   have hlen := hok.len
   obtain ⟨y, hy, _⟩ := hok.at her2.1 her2.2.1
   simp only [Qn, he, Option.bind_some, QjG her.1 hsl]
   have i1 : Qz (JH (o.Effs.take j) s) e.Var = some y := by unfold Qz; rw [if_pos her2.1, hy]
   have i2 : JG (JH (o.Effs.take j) s) e.Var e.Val = some ((JH (o.Effs.take j) s).set e.Var.toNat e.Val) := by unfold JG; rw [if_pos ⟨her2.1, by omega⟩]
   rw [QG he, Qdg]
   by_cases hc : JD e.When s
   ·simp only [hc, decide_true, if_true, i1, i2, Option.bind_some]
    exact Ok.ret Z
   ·simp only [hc, decide_false, Bool.false_eq_true, if_false, Option.bind_some]
    exact Ok.ret Z
  ·rintro m rfl
   rw [List.take_length]
   exact Ok.ret ⟨fun _ => rfl, fun h' => absurd trivial h'⟩
 ·simp only [h, decide_false, Bool.not_false, if_true]
  exact Ok.ret ⟨fun h' => h'.elim, fun _ => rfl⟩
/-! ### small tasks -/
theorem Qgv {vars : List Int} (hv : ∀ n ∈ vars, 1 ≤ n ∧ n ≤ 64) {most : Int} (h0 : 64 ≤ most) (h1 : most ≤ 100000) : Ok (Y6 vars most) fun m => (Ke vars ≤ most ∧ m = Ke vars) ∨ (most < Ke vars ∧ m = most + 1) := by
 unfold Y6
 rw [QA (n := most + 1) (by omega) (by omega)]
 refine Ok.ctl (fun i n => n = Ke (vars.take i) ∧ n ≤ most) (fun r => most < Ke vars ∧ r = most + 1) ⟨by simp [Ke], by omega⟩ ?_ ?_ ?_
 ·rintro i n hi ⟨h2, h3⟩
  obtain ⟨k, hk⟩ := Qy hi
  have hkr := hv k (List.mem_of_getElem? hk)
  have hpos := Qca (l := vars.take i) fun x hx => (hv x (List.mem_of_mem_take hx)).1
  rw [← h2] at hpos
  have hmul : Ke (vars.take (i + 1)) = n * k := by rw [QG hk, QbL, ← h2]; simp [Ke]
  have hmm : min (max k 0) (most + 1) = k := by omega
  have b1 : n * k ≤ 100000 * 64 := Int.mul_le_mul (by omega) hkr.2 (by omega) (by omega)
  have b0 : 0 ≤ n * k := Int.mul_nonneg (by omega) (by omega)
  simp only [Qn, hk, Option.bind_some, hmm, QA (n := n * k) (by omega) (by omega)]
  by_cases h4 : most < n * k
  ·simp only [h4, decide_true, if_true]
   have := Qdd (l := vars) (fun x hx => (hv x hx).1) (i + 1)
   exact Ok.ret ⟨by omega, Z⟩
  ·simp only [h4, decide_false, Bool.false_eq_true, if_false]
   exact Ok.ret ⟨hmul.symm, by omega⟩
 ·rintro r h
  exact Ok.ret (.inr h)
 ·rintro n ⟨h2, h3⟩
  rw [List.take_length] at h2
  exact Ok.ret (.inl ⟨by omega, h2⟩)
structure SmallT (t : Task) : Prop where
 g : GoodT t
 nv : t.Vars.length ≤ 12
 no : t.Ops.length ≤ 20
 ne : ∀ o ∈ t.Ops, o.Effs.length ≤ 8
 p : Ke t.Vars ≤ 512
open Classical in
theorem Qmp (t : Task) : Qa5 t = some (decide (SmallT t)) := by
 refine Ok.eq ?_
 unfold Qa5
 by_cases h1 : 12 < (t.Vars.length : Int)
 ·simp only [h1, decide_true, Bool.true_or, if_true]
  exact Ok.ret (by rw [eq_comm, decide_eq_false_iff_not]; intro h; have := h.nv; omega)
 by_cases h2 : 20 < (t.Ops.length : Int)
 ·simp only [h1, h2, decide_true, Bool.or_true, if_true]
  exact Ok.ret (by rw [eq_comm, decide_eq_false_iff_not]; intro h; have := h.no; omega)
 simp only [h1, h2, decide_false, Bool.or_self, Bool.false_eq_true, if_false]
 rw [KG (r := false) (fun o => o.Effs.length ≤ 8)]
 ·by_cases h3 : ∀ o ∈ t.Ops, o.Effs.length ≤ 8
  ·rw [if_pos h3, Qoz]
   by_cases h4 : GoodT t
   ·obtain ⟨m, hm, hm2⟩ := Qgv h4.v (most := 512) (by omega) (by omega)
    simp only [h4, decide_true, if_true, Option.bind_some, hm]
    refine Ok.ret ?_
    rcases hm2 with ⟨h5, rfl⟩ | ⟨h5, rfl⟩
    ·rw [decide_eq_true h5, eq_comm, decide_eq_true_iff]
     exact ⟨h4, by omega, by omega, h3, h5⟩
    ·rw [decide_eq_false (by omega), eq_comm, decide_eq_false_iff_not]
     intro h; have := h.p; omega
   ·simp only [h4, decide_false, Bool.false_eq_true, if_false, Option.bind_some]
    exact Ok.ret (by rw [eq_comm, decide_eq_false_iff_not]; exact fun h => h4 h.g)
  ·rw [if_neg h3]
   exact Ok.ret (by rw [eq_comm, decide_eq_false_iff_not]; exact fun h => h3 h.ne)
 ·intro i o ho
  simp only [Qn, ho, Option.bind_some]
  by_cases h : 8 < (o.Effs.length : Int)
  ·have : ¬ o.Effs.length ≤ 8 := by omega
   simp [h, this]
  ·have : o.Effs.length ≤ 8 := by omega
   simp [h, this]
theorem Qdw {vars : List Int} (hv : ∀ n ∈ vars, 1 ≤ n ∧ n ≤ 64) {l : List Int} (hn : l.Nodup) (hl : ∀ w ∈ l, 0 ≤ w ∧ w < (vars.length : Int)) : Ke (l.map (JO vars)) ≤ Ke vars := by
 have hM : ((List.range vars.length).map fun (i : Nat) => (i : Int)).Nodup := by
  refine List.pairwise_map.2 (List.Pairwise.imp ?_ List.nodup_range)
  intro a b h e
  omega
 obtain ⟨M', hp, _, hm⟩ := QiM l ((List.range vars.length).map fun (i : Nat) => (i : Int)) hn hM (fun c hc => by
  have := hl c hc
  exact List.mem_map.2 ⟨c.toNat, by simp; omega, by omega⟩)
 have hvars : ((List.range vars.length).map fun (i : Nat) => (i : Int)).map (JO vars) = vars := by
  apply List.ext_getElem?
  intro i
  by_cases hi : i < vars.length
  ·rw [QfZ hi]; simp [hi]
  ·rw [List.getElem?_eq_none (by simp; omega), List.getElem?_eq_none (by omega)]
 have h1 := Qe3 (hp.map (JO vars))
 rw [hvars, List.map_append] at h1
 rw [h1]
 have hpos : ∀ w : Int, 0 ≤ w ∧ w < (vars.length : Int) → 1 ≤ JO vars w := by
  intro w hw
  obtain ⟨d, hd⟩ := Qy (xs := vars) (i := w.toNat) (by omega)
  have := hv d (List.mem_of_getElem? hd)
  unfold JO
  rw [hd]
  exact this.1
 refine Qcm ?_ ?_
 ·intro x hx
  obtain ⟨w, hw, rfl⟩ := List.mem_map.1 hx
  exact hpos w (hl w hw)
 ·intro x hx
  obtain ⟨w, hw, rfl⟩ := List.mem_map.1 hx
  obtain ⟨i, hi, rfl⟩ := List.mem_map.1 ((hm w).1 hw).1
  exact hpos _ ⟨by omega, by have := List.mem_range.1 hi; omega⟩
theorem Qlt {t : Task} (ht : GoodT t) {v : Int} (h0 : 0 ≤ v) (h1 : v < (t.Vars.length : Int)) {o : Op} (ho : o ∈ t.Ops) {fr : List Int} (hf : fr.Nodup) (hm : ∀ w, w ∈ fr ↔ QkT o v w) : JO t.Vars v * Ke (fr.map (JO t.Vars)) ≤ Ke t.Vars := by
 have := Qdw ht.v (l := v :: fr) (List.nodup_cons.2 ⟨fun h => ((hm v).1 h).1 rfl, hf⟩) (by
  intro w hw
  rcases List.mem_cons.1 hw with rfl | hw
  ·exact ⟨h0, h1⟩
  ·obtain ⟨_, _, e, he, _, f, hf, rfl⟩ := (hm w).1 hw
   have := ((ht.op o ho).eff e he).1.r f hf
   exact ⟨this.1, this.2.1⟩)
 simpa [Ke] using this
theorem SmallT.room {t : Task} (h : SmallT t) {v : Int} (h0 : 0 ≤ v) (h1 : v < (t.Vars.length : Int)) : QjE t v := by
 have hd := Kf h.g.v h0 h1
 have hp := h.p
 have hpp := Qca fun x hx => (h.g.v x hx).1
 have hno := h.no
 have hq0 : 0 ≤ Ke t.Vars / JO t.Vars v := Int.ediv_nonneg (by omega) (by omega)
 have hq1 : Ke t.Vars / JO t.Vars v ≤ Ke t.Vars := Int.ediv_le_self _ (by omega)
 have hq2 : JO t.Vars v * (Ke t.Vars / JO t.Vars v) ≤ Ke t.Vars := Int.mul_ediv_self_le (by omega)
 refine ⟨(Ke t.Vars / JO t.Vars v).toNat, fun o ho fr hf hm => ?_, by omega, ?_⟩
 ·have h2 := Qlt h.g h0 h1 ho hf hm
  rw [Int.toNat_of_nonneg hq0]
  rw [Int.mul_comm] at h2
  exact (Int.le_ediv_iff_mul_le (by omega)).2 h2
 ·have h3 : (((JO t.Vars v).toNat * (Ke t.Vars / JO t.Vars v).toNat : Nat) : Int) ≤ 512 := by
   rw [Int.natCast_mul, Int.toNat_of_nonneg hq0, Int.toNat_of_nonneg (by omega)]
   omega
  have h4 : (JO t.Vars v).toNat * (Ke t.Vars / JO t.Vars v).toNat ≤ 512 := by omega
  have h5 : (JO t.Vars v).toNat * (Ke t.Vars / JO t.Vars v).toNat * t.Ops.length ≤ 512 * 20 := Nat.mul_le_mul h4 hno
  rw [Nat.mul_right_comm]
  omega
end Go.Pw
/- -/
set_option maxHeartbeats 4000000
namespace Go.Pw
theorem Qfm {α β : Type} {f : α → List β} {m : Nat} : ∀ {xs : List α}, (∀ x ∈ xs, (f x).length = m) → ∀ {r y : Nat} {x : α} {z : β}, xs[r]? = some x → (f x)[y]? = some z → (xs.flatMap f)[r * m + y]? = some z
 | [], _, r, _, _, _, hx, _ => by simp at hx
 | a :: xs, h, 0, y, x, z, hx, hz => by
  simp only [List.getElem?_cons_zero, Option.some.injEq] at hx
  subst hx
  have hlt := (List.getElem?_eq_some_iff.1 hz).1
  rw [List.flatMap_cons, Nat.zero_mul, Nat.zero_add, List.getElem?_append_left hlt]
  exact hz
 | a :: xs, h, r + 1, y, x, z, hx, hz => by
  have ha := h a (by simp)
  rw [List.flatMap_cons, List.getElem?_append_right (by rw [ha, Nat.succ_mul]; omega), ha, show (r + 1) * m + y - m = r * m + y by rw [Nat.succ_mul]; omega]
  exact Qfm (fun x hx => h x (by simp [hx])) (by simpa using hx) hz
def rkZ (l : List (Int × Int)) : Int := l.foldl (fun n p => n * p.1 + p.2) 0
def rk (vars s : List Int) : Int := rkZ (vars.zip s)
theorem QlS : rk [] [] = 0 := rfl
theorem Qna {vars s : List Int} (h : s.length = vars.length) (k x : Int) : rk (vars ++ [k]) (s ++ [x]) = rk vars s * k + x := by
 unfold rk rkZ
 rw [List.zip_append (by omega)]
 simp
theorem StateOK.nil : StateOK [] [] := ⟨rfl, by simp⟩
theorem StateOK.eq_nil {s : List Int} (h : StateOK [] s) : s = [] := List.eq_nil_of_length_eq_zero h.len
theorem Qis (vars : List Int) (k : Int) : Jq (vars ++ [k]) = Qed k (Jq vars) := by
 unfold Jq
 rw [List.reverse_append, List.reverse_singleton, List.singleton_append]
 rfl
theorem QjI {vars : List Int} : (∀ n ∈ vars, 1 ≤ n) → ∀ {s : List Int}, StateOK vars s → 0 ≤ rk vars s ∧ (Jq vars)[(rk vars s).toNat]? = some s := by
 refine Qd4 (P := fun vars => (∀ n ∈ vars, 1 ≤ n) → ∀ {s : List Int}, StateOK vars s → 0 ≤ rk vars s ∧ (Jq vars)[(rk vars s).toNat]? = some s) ?_ ?_ vars
 ·intro _ s hs
  rw [hs.eq_nil]
  exact ⟨by simp [QlS], by simp [QlS, Jq, stR]⟩
 ·intro vars k ih h s hs
  obtain ⟨s', x, rfl, hs', h0, h1⟩ := StateOK.snoc.1 hs
  obtain ⟨i0, i1⟩ := ih (fun n hn => h n (by simp [hn])) hs'
  have hk := h k (by simp)
  have hp : 0 ≤ rk vars s' * k := Int.mul_nonneg i0 (by omega)
  rw [Qna hs'.len]
  refine ⟨by omega, ?_⟩
  rw [Qis]
  have := Qfm (f := fun s => (List.range k.toNat).map fun (x : Nat) => s ++ [(x : Int)]) (m := k.toNat) (xs := Jq vars) (by simp) i1 (y := x.toNat) (z := s' ++ [x]) (by
   rw [List.getElem?_map, List.getElem?_range (by omega)]
   simp [Int.toNat_of_nonneg h0])
  have e : (rk vars s' * k + x).toNat = (rk vars s').toNat * k.toNat + x.toNat := by
   apply Int.ofNat.inj
   show (((rk vars s' * k + x).toNat : Nat) : Int) = (((rk vars s').toNat * k.toNat + x.toNat : Nat) : Int)
   rw [Int.natCast_add, Int.natCast_mul, Int.toNat_of_nonneg i0, Int.toNat_of_nonneg (by omega : 0 ≤ k), Int.toNat_of_nonneg h0, Int.toNat_of_nonneg (by omega)]
  rw [e]
  exact this
theorem QiH {vars : List Int} (hv : ∀ n ∈ vars, 1 ≤ n) {s : List Int} (h : StateOK vars s) : 0 ≤ rk vars s ∧ rk vars s < Ke vars := by
 obtain ⟨h0, h1⟩ := QjI hv h
 have := (List.getElem?_eq_some_iff.1 h1).1
 have hl := Qar (vars := vars) fun x hx => by have := hv x hx; omega
 omega
theorem QhZ {vars : List Int} (hv : ∀ n ∈ vars, 1 ≤ n) {s s' : List Int} (h : StateOK vars s) (h' : StateOK vars s') (e : rk vars s = rk vars s') : s = s' := by
 have h1 := (QjI hv h).2
 have h2 := (QjI hv h').2
 rw [e, h2] at h1
 exact (Zu h1).symm
theorem StateOK.take {vars s : List Int} (h : StateOK vars s) (m : Nat) : StateOK (vars.take m) (s.take m) := by
 refine ⟨by simp [h.len], fun i x d hx hd => ?_⟩
 rw [List.getElem?_take] at hx hd
 by_cases hi : i < m
 ·rw [if_pos hi] at hx hd
  exact h.r i x d hx hd
 ·rw [if_neg hi] at hx; cases hx
end Go.Pw
