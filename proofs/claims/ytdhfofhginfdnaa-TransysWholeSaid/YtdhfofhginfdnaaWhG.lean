/-
  The program's distances, and the chapter's example, in plain Lean.
-/
import Derived.Test.YtdhfofhginfdnaaWhH
set_option maxHeartbeats 4000000
set_option linter.unusedSimpArgs false
set_option linter.unusedVariables false
namespace Go.Pw
theorem goals_ok {n : Nat} {x : System} (h : WS n x) : Ok (transys_goals_p x) fun l => ∃ S : List Nat, l = ints S ∧ S.Nodup ∧ (∀ i ∈ S, i < n) ∧ ∀ i, i ∈ S ↔ gsrc x i := by
  have hn := h.n1
  unfold transys_goals_p
  refine Ok.bind (Ok.forS (fun i l => ∃ S : List Nat, l = ints S ∧ S.Nodup ∧ (∀ j ∈ S, j < i) ∧ ∀ j, j ∈ S ↔ j < i ∧ x.Goals[j]? = some true) ?_ ?_ ?_)
  · exact ⟨[], rfl, List.Pairwise.nil, by simp, by simp⟩
  · rintro i l hi ⟨S, rfl, h1, h2, h3⟩
    obtain ⟨g, hg⟩ := get_len hi
    have hgl := h.g
    rw [idx_nat, hg]
    simp only [Option.bind_some]
    cases g with
    | true =>
      have hSl := nodup_short' h1 h2
      simp only [if_true, app_ok (show ((ints S).length + [(i : Int)].length) * 8 ≤ 140737488355328 by simp [ints]; omega), Option.bind_some]
      refine Ok.ret ⟨S ++ [i], by simp [ints, ofNat_cast], ?_, ?_, fun j => ?_⟩
      · exact List.nodup_append.2 ⟨h1, by simp, fun a ha b hb e => by simp only [List.mem_singleton] at hb; have := h2 a ha; omega⟩
      · intro j hj
        rcases List.mem_append.1 hj with hj | hj
        · have := h2 j hj; omega
        · simp at hj; omega
      · rw [List.mem_append, h3, List.mem_singleton]
        constructor
        · rintro (⟨a, b⟩ | rfl)
          · exact ⟨by omega, b⟩
          · exact ⟨by omega, hg⟩
        · rintro ⟨a, b⟩
          by_cases e : j = i
          · exact .inr e
          · exact .inl ⟨by omega, b⟩
    | false =>
      simp only [Bool.false_eq_true, if_false, Option.bind_some]
      refine Ok.ret ⟨S, rfl, h1, fun j hj => by have := h2 j hj; omega, fun j => ?_⟩
      rw [h3]
      constructor
      · rintro ⟨a, b⟩; exact ⟨by omega, b⟩
      · rintro ⟨a, b⟩
        refine ⟨?_, b⟩
        by_cases e : j = i
        · subst e; rw [hg] at b; cases b
        · omega
  · rintro l ⟨S, rfl, h1, h2, h3⟩
    refine Ok.ret ⟨S, rfl, h1, fun i hi => by have := h2 i hi; have := h.g; omega, fun i => ?_⟩
    rw [h3]
    unfold gsrc
    constructor
    · exact fun h => h.2
    · exact fun h => ⟨(List.getElem?_eq_some_iff.1 h).1, h⟩
theorem SP.congr {A : Arcs} {s t : Nat → Prop} {n : Nat} {l : List Int} (h : SP A s n l) (e : ∀ i, s i ↔ t i) : SP A t n l := by
  have : s = t := funext fun i => propext (e i)
  subst this; exact h
theorem dist_ok {x : System} (hv : VSys x) : Ok (transys_Distances_p x) fun r => r.2 = none ∧ SP (ArcOf x true) (gsrc x) x.States.toNat r.1 := by
  unfold transys_Distances_p
  simp only [tV, valB_iff.2 hv, Option.bind_some, Bool.not_true, Bool.false_eq_true, if_false]
  obtain ⟨l, hl, S, rfl, h1, h2, h3⟩ := goals_ok hv.ws
  refine Ok.step hl (Ok.bind ((shortest_ok hv.ws true h1 h2).mono fun r hr => Ok.ret ⟨rfl, hr.congr h3⟩))
/-! ### the example -/
abbrev exS : System := ⟨2, 0, [2, 0], [⟨0, 0, 1⟩, ⟨1, 1, 1⟩], [false, true]⟩
abbrev exP : System := ⟨4, 0, [2, 0], [⟨0, 0, 3⟩, ⟨3, 1, 3⟩], [false, false, false, true]⟩
theorem exS_v : VSys exS := by
  refine ⟨by decide, by decide, by decide, by decide, by decide, by decide, by decide, by decide, by decide, ?_⟩
  intro i a b ha hb
  match i with
  | 0 => simp at ha hb; subst ha; subst hb; unfold EdLt; decide
  | i + 1 => simp at hb
theorem exP_v : VSys exP := by
  refine ⟨by decide, by decide, by decide, by decide, by decide, by decide, by decide, by decide, by decide, ?_⟩
  intro i a b ha hb
  match i with
  | 0 => simp at ha hb; subst ha; subst hb; unfold EdLt; decide
  | i + 1 => simp at hb
theorem exP_p : ProdRes exS exS exP := by
  refine ⟨rfl, rfl, rfl, rfl, ?_, fun e => ?_⟩
  · unfold Srt EdLt; decide
  · simp [PE, mkE]
theorem exP_sp : SP (ArcOf exP true) (gsrc exP) 4 [2, 1125899906842624, 1125899906842624, 0] := by
  have hA : ∀ v u w, ArcOf exP true v u w ↔ v = 3 ∧ u = 0 ∧ w = 2 ∨ v = 3 ∧ u = 3 ∧ w = 0 := by
    intro v u w
    simp only [ArcOf, List.mem_cons, List.mem_singleton, List.not_mem_nil, or_false, if_true]
    constructor
    · rintro ⟨d, rfl | rfl, l, hl, hw, h1, h2⟩
      · have : l = 0 := by simp only at hl; omega
        subst this
        simp only at h1 h2
        simp at hw
        left; omega
      · have : l = 1 := by simp only at hl; omega
        subst this
        simp only at h1 h2
        simp at hw
        right; omega
    · rintro (⟨rfl, rfl, rfl⟩ | ⟨rfl, rfl, rfl⟩)
      · exact ⟨_, .inl rfl, 0, rfl, rfl, rfl, rfl⟩
      · exact ⟨_, .inr rfl, 1, rfl, rfl, rfl, rfl⟩
  have hI : (Inf : Int) = 1125899906842624 := rfl
  have get : ∀ (i : Nat) (y : Int), ([2, 1125899906842624, 1125899906842624, 0] : List Int)[i]? = some y → (i = 0 ∧ y = 2) ∨ (i = 1 ∧ y = Inf) ∨ (i = 2 ∧ y = Inf) ∨ (i = 3 ∧ y = 0) := by
    intro i y h
    match i with
    | 0 => simp at h; omega
    | 1 => simp at h; omega
    | 2 => simp at h; omega
    | 3 => simp at h; omega
    | i + 4 => simp at h
  have g3 : gsrc exP 3 := rfl
  refine { len := rfl, rng := fun i y h => by rcases get i y h with h | h | h | h <;> omega, s0 := fun i hi => ?_, re := fun i y h hlt => ?_, cl := ?_ }
  · unfold gsrc at hi
    match i with
    | 0 => simp at hi
    | 1 => simp at hi
    | 2 => simp at hi
    | 3 => rfl
    | i + 4 => simp at hi
  · rcases get i y h with ⟨rfl, rfl⟩ | h | h | ⟨rfl, rfl⟩
    · exact .step (v := 3) (c := 0) (w := 2) (.base g3) ((hA _ _ _).2 (.inl ⟨rfl, rfl, rfl⟩))
    · omega
    · omega
    · exact .base g3
  · intro v u w a b harc ha hb hlt
    rcases (hA v u w).1 harc with ⟨rfl, rfl, rfl⟩ | ⟨rfl, rfl, rfl⟩
    · have h1 := get 3 a ha; have h2 := get 0 b hb; omega
    · have h1 := get 3 a ha; have h2 := get 3 b hb; omega
theorem awake_ok : law44_awake_p = some true := by
  have hex : law44_example_t = exS := by
    have := law44_example_tot
    unfold law44_example_p at this
    exact (Zu this).symm
  unfold law44_awake_p
  obtain ⟨⟨e, y⟩, hp, h1, h2⟩ := product_ok exS_v exS_v rfl (by decide) (by decide)
  simp only at h1 h2
  subst h1
  have := h2.uniq exP_p
  subst this
  rw [hex, hp]
  simp only [Option.bind_some, un2]
  obtain ⟨⟨d, e⟩, hd, h3, h4⟩ := dist_ok exP_v
  simp only at h3 h4
  subst h3
  have hdd : d = [2, 1125899906842624, 1125899906842624, 0] := h4.uniq (exP_v.ws.aok true fun i hi => by have := (List.getElem?_eq_some_iff.1 hi).1; simpa using this) exP_sp
  subst hdd
  rw [if_neg (by simp), hd]
  simp [Ints_p, un2]
end Go.Pw
