/-
  The reference's distances, in plain Lean: the least costs of paths.
-/
import Derived.Test.YtdhfofhginfdnaaTrD
import Derived.Test.YtdhfofhginfdnaaTrW
set_option maxHeartbeats 4000000
set_option linter.unusedSimpArgs false
set_option linter.unusedVariables false
namespace Go.Pw
theorem refDist_ok {n : Nat} {x : System} (h : WS n x) : Ok (ref44_Distances_p x) (SP (ArcOf x true) (gsrc x) n) := by
  have hA : AOK (ArcOf x true) (gsrc x) n := h.aok true fun i hi => by have := (List.getElem?_eq_some_iff.1 hi).1; have := h.g; omega
  have hn := h.n1
  have hI : (Inf : Int) = 1125899906842624 := rfl
  unfold ref44_Distances_p
  refine Ok.bind (Ok.forS (fun i l => l = (x.Goals.take i).map fun g => if g then 0 else Inf) (by simp) ?_ ?_)
  · rintro i l hi rfl
    obtain ⟨g, hg⟩ := get_len hi
    rw [idx_nat, hg]
    have hlen : ((x.Goals.take i).map fun g => if g then 0 else Inf).length ≤ 4096 := by have := h.g; simp; omega
    have happ : ∀ d : Int, app 8 ((x.Goals.take i).map fun g => if g then 0 else Inf) [d] = some (((x.Goals.take i).map fun g => if g then 0 else Inf) ++ [d]) := fun d => app_ok (by simp at hlen ⊢; omega)
    cases g with
    | true => simp only [Option.bind_some, if_true, happ]; refine Ok.ret ?_; rw [List.take_add_one, hg]; simp
    | false => simp only [Option.bind_some, Bool.false_eq_true, if_false, happ]; refine Ok.ret ?_; rw [List.take_add_one, hg]; simp
  rintro l0 hl0
  rw [List.take_length] at hl0
  have hD0 : Dst (ArcOf x true) (gsrc x) n l0 := by
    subst hl0
    refine ⟨by simp [h.g], fun i y hy => ?_, fun i hi => ?_, fun i y hy hlt => ?_⟩
    · rw [List.getElem?_map] at hy
      obtain ⟨g, hg, rfl⟩ := Option.map_eq_some_iff.1 hy
      cases g <;> simp
    · rw [List.getElem?_map, hi]; rfl
    · rw [List.getElem?_map] at hy
      obtain ⟨g, hg, rfl⟩ := Option.map_eq_some_iff.1 hy
      cases g with
      | true => exact .base hg
      | false => simp at hlt
  refine Ok.while (fun s : Bool × List Int => Dst (ArcOf x true) (gsrc x) n s.2 ∧ (s.1 = false → ∀ v, ClAt (ArcOf x true) s.2 v)) (fun s => Dst (ArcOf x true) (gsrc x) n s.2 ∧ ∀ v, ClAt (ArcOf x true) s.2 v) (fun _ => False) (fun s => tot s.2 + (if s.1 then 1 else 0)) ⟨hD0, by simp⟩ ?_ (fun _ h => h.elim) ?_
  · rintro ⟨ch, l⟩ ⟨hD, hcl⟩
    cases ch with
    | false => exact ⟨.brk (false, l), rfl, by simp, fun s' e => by cases e; exact ⟨hD, hcl rfl⟩, by simp⟩
    | true =>
      suffices hpass : Ok (forS (fun i35693 => un2 fun (changed36051 : Bool) (l36052 : (List Int)) => (idx x.Edges (i35693 : Int)).bind fun x36446 =>
          ((idx l36052 x36446.To).bind fun x36549 =>
          if decide (x36549 < 1125899906842624) then ((idx x.Costs x36446.Label).bind fun x36562 =>
          (idx l36052 x36446.From).bind fun x36570 =>
          some (decide ((IntKind.i64.wrap (x36549 + x36562)) < x36570)))
          else (some false)).bind (fun (z36516 : Bool) => (if z36516 then ((idx l36052 x36446.To).bind fun x36746 =>
          (idx x.Costs x36446.Label).bind fun x36753 =>
          (idx l36052 x36446.From).bind fun x36761 =>
          (setI l36052 x36446.From (IntKind.i64.wrap (x36746 + x36753))).bind fun l36766 =>
          some (true, l36766))
          else (some (changed36051, l36052))).bind (un2 fun (changed36681 : Bool) (l36682 : (List Int)) => some (changed36681, l36682)))) (x.Edges.length) 0 (false, l))
          (fun s => Dst (ArcOf x true) (gsrc x) n s.2 ∧ (s.1 = true → tot s.2 < tot l) ∧ (s.1 = false → s.2 = l ∧ ∀ v, ClAt (ArcOf x true) l v)) by
        obtain ⟨⟨ch', l'⟩, hr, h1, h2, h3⟩ := hpass
        refine ⟨.next (ch', l'), ?_, fun s' e => ?_, by simp, by simp⟩
        · show ((forS _ _ 0 (false, l)).bind _) = _
          rw [hr]; rfl
        · cases e
          cases ch' with
          | true => have := h2 rfl; exact ⟨⟨h1, by simp⟩, by simp; omega⟩
          | false =>
            obtain ⟨e, hc⟩ := h3 rfl
            simp only at e
            subst e
            exact ⟨⟨h1, fun _ => hc⟩, by simp⟩
      refine Ok.forS (fun i s => Dst (ArcOf x true) (gsrc x) n s.2 ∧ tot s.2 ≤ tot l ∧ (s.1 = true → tot s.2 < tot l) ∧ (s.1 = false → s.2 = l ∧ ∀ v u (w a b : Int), (∃ d ∈ x.Edges.take i, ∃ k : Nat, d.Label = (k : Int) ∧ x.Costs[k]? = some w ∧ d.To = ((v : Nat) : Int) ∧ d.From = ((u : Nat) : Int)) → l[v]? = some a → l[u]? = some b → a < Inf → b ≤ a + w)) ?_ ?_ ?_
      · exact ⟨hD, Nat.le_refl _, by simp, fun _ => ⟨rfl, by simp⟩⟩
      · rintro i ⟨ch, k⟩ hi ⟨h1, h2, h3, h4⟩
        simp only at h1 h2 h3 h4
        obtain ⟨d, hd⟩ := get_len hi
        have hdm := List.mem_of_getElem? hd
        obtain ⟨f, t, lb, rfl, hf, ht, c, hc, c0, c1⟩ := h.edge d hdm
        obtain ⟨a, ha⟩ := get_len (xs := k) (i := t) (by rw [h1.len]; exact ht)
        obtain ⟨b, hb⟩ := get_len (xs := k) (i := f) (by rw [h1.len]; exact hf)
        have ra := h1.rng t a ha
        have rb := h1.rng f b hb
        have hw : IntKind.i64.wrap (a + c) = a + c := wrap_id (by omega) (by omega)
        have harc : ArcOf x true t f c := ⟨_, hdm, lb, rfl, hc, by simp⟩
        have hmore : ∀ (hk : ch = false), ¬ (a < Inf ∧ a + c < b) → k = l ∧ ∀ v u (w a b : Int), (∃ d ∈ x.Edges.take (i + 1), ∃ k : Nat, d.Label = (k : Int) ∧ x.Costs[k]? = some w ∧ d.To = ((v : Nat) : Int) ∧ d.From = ((u : Nat) : Int)) → l[v]? = some a → l[u]? = some b → a < Inf → b ≤ a + w := by
          intro hk hnot
          obtain ⟨e1, e2⟩ := h4 hk
          refine ⟨e1, ?_⟩
          rintro v u w a' b' ⟨d', hd', kk, hl', hc', hv', hu'⟩ ha' hb' hlt
          rw [List.take_add_one, hd] at hd'
          rcases List.mem_append.1 hd' with hd' | hd'
          · exact e2 v u w a' b' ⟨d', hd', kk, hl', hc', hv', hu'⟩ ha' hb' hlt
          · simp only [Option.toList_some, List.mem_singleton] at hd'
            subst hd'
            simp only at hl' hv' hu'
            have g1 : lb = kk := by omega
            have g2 : t = v := by omega
            have g3 : f = u := by omega
            subst g1 g2 g3
            rw [hc] at hc'; cases hc'
            rw [e1] at ha hb
            rw [ha] at ha'; cases ha'
            rw [hb] at hb'; cases hb'
            omega
        simp only [un2, idx_nat, hd, ha, hb, hc, Option.bind_some, hw]
        by_cases hlt : a < 1125899906842624
        · simp only [hlt, decide_true, if_true, Option.bind_some]
          by_cases hl2 : a + c < b
          · simp only [hl2, decide_true, if_true, setI_nat (show f < k.length by rw [h1.len]; exact hf), Option.bind_some]
            have ht := tot_set (l := k) (u := f) (y := b) (z := a + c) hb (by omega) hl2
            refine Ok.ret ⟨h1.set hA harc ha hb hl2, by simp only; omega, fun _ => by simp only; omega, by simp⟩
          · simp only [hl2, decide_false, Bool.false_eq_true, if_false, Option.bind_some]
            exact Ok.ret ⟨h1, h2, h3, fun hk => hmore hk (fun hx => hl2 hx.2)⟩
        · simp only [hlt, decide_false, Bool.false_eq_true, if_false, Option.bind_some]
          exact Ok.ret ⟨h1, h2, h3, fun hk => hmore hk (fun hx => hlt hx.1)⟩
      · rintro ⟨ch, k⟩ ⟨h1, h2, h3, h4⟩
        refine ⟨h1, h3, fun hk => ⟨(h4 hk).1, ?_⟩⟩
        rintro v u w a b ⟨d, hd, kk, hl, hc, hb⟩ hx hy hlt
        simp only [if_true] at hb
        exact (h4 hk).2 v u w a b ⟨d, by rw [List.take_length]; exact hd, kk, hl, hc, hb.1, hb.2⟩ hx hy hlt
  · rintro ⟨ch, l⟩ ⟨h1, h2⟩
    exact Ok.ret ⟨h1, h2⟩
end Go.Pw
