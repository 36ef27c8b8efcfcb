/-
  Texts numbered by first occurrence, in plain Lean.
-/
import Derived.Test.YtagooehmocpcjaaDoorExVE
import Derived.Test.YtagooehmocpcjaaDoorB4
set_option maxHeartbeats 4000000
set_option linter.unusedSimpArgs false
set_option linter.unusedVariables false
namespace Go.Pw
theorem ba_ext {a b : ByteArray} (h : a.data.toList = b.data.toList) : a = b := by
  obtain ⟨⟨a⟩⟩ := a
  obtain ⟨⟨b⟩⟩ := b
  simp at h
  rw [h]
/-- What is known of the map after i entries. -/
structure NumI (l : List ByteArray) (i : Nat) (out : List Int) (m : SMap) : Prop where
  len : out.length = i
  cls : ∀ j, j < i → ∃ k : Nat, out[j]? = some (k : Int) ∧ IsCls (eqL l) j k
  ml : m.length = rnk (eqL l) i
  hit : ∀ j k s, j < i → IsCls (eqL l) j k → l[j]? = some s → mget m s = some (k : Int)
  miss : ∀ s, (∀ j, j < i → l[j]? ≠ some s) → mget m s = none
theorem numbered_ok (l : List ByteArray) (hl : l.length ≤ 100000) (hs : ∀ s ∈ l, s.size ≤ 100000000) :
    Ok (shrink_numbered_o_p l) fun r => ClsL (eqL l) l.length r.1 ∧ r.2 = (rnk (eqL l) l.length : Int) := by
  unfold shrink_numbered_o_p
  refine Ok.bind (Ok.forS (fun i (s : List Int × SMap) => NumI l i s.1 s.2) ⟨rfl, fun j h => absurd h (Nat.not_lt_zero _), rfl, fun j k s h => absurd h (Nat.not_lt_zero _), fun s _ => rfl⟩ ?_ ?_)
  · rintro i ⟨out, m⟩ hi hI
    obtain ⟨x, hx⟩ := get_len hi
    have hxs := hs x (List.mem_of_getElem? hx)
    have hE := eqL_eqv l l.length
    have hml : m.length ≤ 100000 := by
      have := rnk_le (eqL l) i
      rw [hI.ml]; omega
    simp only [un2, idx_nat, hx, Option.bind_some]
    have hg : mapGet m x = some ((mget m x).getD 0, (mget m x).isSome) := by unfold mapGet; rw [if_pos (by simp only [maxLen]; omega)]
    rw [hg]
    simp only [Option.bind_some]
    have hlen := hI.len
    rcases cls_step hE hi with ⟨hr, hc⟩ | ⟨hr, j, hj, hR, hjr, hci, hcj⟩
    · have hmiss : mget m x = none := hI.miss x fun j hj e => hr j hj (by unfold eqL; rw [e, hx])
      have hp : mapPut m x (m.length : Int) = some (mput m x (m.length : Int)) := by unfold mapPut; rw [if_pos (by simp only [maxLen]; omega)]
      simp only [hmiss, Option.isSome_none, Bool.not_false, if_true, hp, Option.bind_some, un2]
      refine Ok.step (app_ok (by simp only [List.length_singleton]; simp only at hlen; omega)) (Ok.ret ⟨?_, ?_, ?_, ?_, ?_⟩)
      · simp only [List.length_append, List.length_singleton]; simp only at hlen; omega
      · intro q hq
        simp only at hlen ⊢
        by_cases e : q = i
        · subst e
          exact ⟨rnk (eqL l) q, by rw [List.getElem?_append_right (by omega), hlen, Nat.sub_self, hI.ml]; rfl, hc⟩
        · obtain ⟨k, h1, h2⟩ := hI.cls q (by omega)
          exact ⟨k, by rw [List.getElem?_append_left (by omega)]; exact h1, h2⟩
      · rw [mput_length, hmiss, rnk_succ]
        simp [hr, hI.ml]
      · intro q k s hq hcq hqs
        rw [mget_put]
        by_cases e : q = i
        · subst e
          rw [hx] at hqs; cases hqs
          rw [if_pos rfl, hI.ml, cls_uniq hE hi hcq hc]
        · have hqi : q < i := by omega
          have hne : ¬ x.data.toList = s.data.toList := fun e2 => hr q hqi (by unfold eqL; rw [hqs, hx, ba_ext e2])
          rw [if_neg hne]
          exact hI.hit q k s hqi hcq hqs
      · intro s hall
        rw [mget_put]
        have hne : ¬ x.data.toList = s.data.toList := fun e2 => hall i (by omega) (by rw [hx, ba_ext e2])
        rw [if_neg hne]
        exact hI.miss s fun q hq => hall q (by omega)
    · obtain ⟨y, hy⟩ := get_len (show j < l.length by omega)
      have hxy : y = x := by have : l[j]? = l[i]? := hR; rw [hy, hx] at this; exact Option.some.inj this
      subst hxy
      have hhit := hI.hit j _ y hj hcj hy
      simp only [hhit, Option.isSome_some, Bool.not_true, Bool.false_eq_true, if_false, Option.bind_some, un2, Option.getD_some]
      refine Ok.step (app_ok (by simp only [List.length_singleton]; simp only at hlen; omega)) (Ok.ret ⟨?_, ?_, ?_, ?_, ?_⟩)
      · simp only [List.length_append, List.length_singleton]; simp only at hlen; omega
      · intro q hq
        simp only at hlen ⊢
        by_cases e : q = i
        · subst e
          exact ⟨rnk (eqL l) j, by rw [List.getElem?_append_right (by omega), hlen, Nat.sub_self]; rfl, hci⟩
        · obtain ⟨k, h1, h2⟩ := hI.cls q (by omega)
          exact ⟨k, by rw [List.getElem?_append_left (by omega)]; exact h1, h2⟩
      · rw [rnk_succ]
        simp [hr, hI.ml]
      · intro q k s hq hcq hqs
        by_cases e : q = i
        · subst e
          rw [hx] at hqs; cases hqs
          rw [hhit, cls_uniq hE hi hcq hci]
        · exact hI.hit q k s (by omega) hcq hqs
      · intro s hall
        exact hI.miss s fun q hq => hall q (by omega)
  · rintro ⟨out, m⟩ hI
    simp only [un2]
    exact Ok.ret ⟨⟨hI.len, hI.cls⟩, by rw [hI.ml]⟩
end Go.Pw
