/-
  P57.2: ScheduleSolutions.
-/
import Derived.Test.YtoofdhjblbnppaaYaHm
set_option linter.unusedVariables false
set_option linter.unusedSimpArgs false
namespace Go.Pw
section
variable {t : Temporal} {L S : List Launch}
theorem SOK.init (hA : Acc t L) : SOK t L (-1) t.Init := by
  refine ⟨hA.chk.ini, fun v hv => ⟨t.Init[v]'(by rw [hA.chk.ini]; exact hv), by simp [hA.chk.ini, hv], .inr ⟨fun y hy _ => ?_, by simp [hA.chk.ini, hv]⟩⟩⟩
  have := (tm_le hA hy).1; omega
theorem States_ok (hA : Acc t L) (hm : mkS t L ≤ 4096) : ∃ out s, temporal_States_p t L = some (out, none) ∧ (out.length : Int) = mkS t L + 1 ∧ idx out (mkS t L) = some s ∧ SOK t L (mkS t L) s := by
  unfold temporal_States_p
  rw [accept_none hA.check hA.len hA.ok, Option.bind_some]
  simp only [Option.isSome_none, Bool.false_eq_true, if_false]
  rw [makespan_ok hA, Option.bind_some, if_neg (by simp; omega)]
  obtain ⟨M, hM, hm2⟩ := happenings_ok hA
  rw [hM, Option.bind_some]
  have h0 := (mkS_ge (t := t) (L := L)).1
  obtain ⟨n, hn⟩ : ∃ n : Nat, mkS t L = (n : Int) := ⟨(mkS t L).toNat, by omega⟩
  rw [hn] at hm ⊢
  simp only [un2]
  rw [wrap_id (n := (n : Int) + 1) (by omega) (by omega), show ((n : Int) + 1).toNat = n + 1 by omega, show ((n : Int) + 1) = ((n + 1 : Nat) : Int) by omega]
  have h : Ok (forS (fun i100 => fun q : List Int × List (List Int) => (hmapGet M (i100 : Int)).bind fun r100 => (temporal_after_p t q.1 r100).bind fun y104 => (app 24 q.2 [y104]).bind fun l100 => some (y104, l100)) (n + 1) 0 (t.Init, [])) (fun q => q.2.length = n + 1 ∧ q.2[n]? = some q.1 ∧ SOK t L (n : Int) q.1) := by
    refine Ok.forS (fun j q => SOK t L ((j : Int) - 1) q.1 ∧ q.2.length = j ∧ (0 < j → q.2[j - 1]? = some q.1)) ⟨by simpa using SOK.init hA, rfl, fun h => by omega⟩ ?_ fun q hq => ⟨hq.2.1, hq.2.2 (by omega), by have := hq.1; rwa [show ((n + 1 : Nat) : Int) - 1 = (n : Int) by omega] at this⟩
    rintro j ⟨s, out⟩ hj ⟨a1, a2, _⟩
    simp only at a1 a2
    refine Ok.step (hm2.hget (by constructor <;> omega)) (Ok.bind ((after_ok hA.chk a1.1 (list := hapsAt t L (j : Int)) fun h hh => ?_).mono fun s' hs' => ?_))
    · obtain ⟨p, hp, e⟩ := List.mem_iff_getElem.1 hh
      obtain ⟨x, _, rfl, hx, _⟩ := haps_get (by rw [List.getElem?_eq_getElem hp, e] : (hapsAt t L (j : Int))[p]? = some h)
      have := hA.ok _ (lau_mem hx)
      exact ⟨this.j0, this.j1⟩
    · refine Ok.step (app_ok (by simp; omega)) ⟨_, rfl, ?_, by simp [a2], fun _ => ?_⟩
      · rw [show ((j + 1 : Nat) : Int) - 1 = (j : Int) by omega]
        exact a1.step (AftOK.of hs')
      · simp only
        rw [show j + 1 - 1 = j by omega, List.getElem?_append_right (by omega), a2]
        simp
  obtain ⟨⟨s, out⟩, h1, h2, h3, h4⟩ := h
  refine ⟨out, s, ?_, by simp only at h2; omega, by rw [idx_nat]; exact h3, h4⟩
  rw [show (Go.Pw.must (decide (((n + 1 : Nat) : Int) ≤ 9223372036854775807))) = some () by simp [Go.Pw.must]; omega, Option.bind_some, h1]
  rfl
/-- The final state is the same. -/
theorem final_eq (hA : Acc t L) (hF : Fine t L) (hp : L.Perm S) {L' : List Launch} (hr : Resch t S L') {a b : List Int} (ha : SOK t L (mkS t L) a) (hb : SOK t L' (mkS t L') b) : a = b := by
  obtain ⟨f, g, h1, h2⟩ := perm_ix hp
  have hAS := hA.perm hp
  have hFS := hF.perm hp
  apply List.ext_getElem (ha.1.trans hb.1.symm)
  intro v hv hv'
  obtain ⟨c, c1, c2⟩ := ha.2 v (by rw [← ha.1]; exact hv)
  obtain ⟨d, d1, d2⟩ := hb.2 v (by rw [← ha.1]; exact hv)
  rw [List.getElem?_eq_getElem hv] at c1
  rw [List.getElem?_eq_getElem hv'] at d1
  have e1 := c2.perm h1 h2
  rw [mkS_perm hp] at e1
  have e2 := hr.last hAS hFS e1
  have := e2.uniq (hr.acc hAS) (fun q _ => (hr.fine hAS hFS).ni q) d2
  rw [Zu c1, Zu d1, this]
theorem Holds_tot {n : Nat} {E : List Bound} {d : List (List Int)} {ts : List Int} {T : Nat → Int} (hn0 : 0 < n) (hn : n ≤ 128) (h : Net n E d) (hl : ts.length = n) (ht : ∀ i, i < n → ts[i]? = some (T i)) (hb : ∀ i, i < n → -1000000000 ≤ T i ∧ T i ≤ 1000000000) :
    Ok (stn_Network_Holds_p ⟨d⟩ ts) (fun r => r = true → Sat E T) := by
  obtain ⟨hR, f, hd, hcl, hdi⟩ := h
  have key : (∀ i j, i < n → j < n → f i j < 1125899906842624 → T j - T i ≤ f i j) → Sat E T := fun k i j c hc => by
    obtain ⟨b1, b2, b3, b4⟩ := hcl.ok i j c hc
    have := hcl.edge i j c hc
    have := k i j b1 b2 (by omega)
    omega
  unfold stn_Network_Holds_p
  rw [show (decide ((ts.length : Int) = ((⟨d⟩ : stn_Network).d.length : Int))) = true by simp [hl, hd.1]]
  simp only [Bool.not_true, Bool.false_eq_true, if_false]
  rw [show idx ts 0 = some (T 0) from by rw [show (0 : Int) = ((0 : Nat) : Int) from rfl, idx_nat, ht 0 hn0], Option.bind_some, Option.bind_some]
  refine Ok.ite (fun _ => ⟨_, rfl, fun h => by cases h⟩) fun _ => ?_
  refine Ok.ctl (fun _ _ => True) (fun r => r = false) trivial ?_ (fun r hr => ⟨r, rfl, fun h => by rw [hr] at h; cases h⟩) fun _ _ => ?_
  · intro j _ hj _
    refine Ok.step (by rw [idx_nat, List.getElem?_eq_getElem hj]) ?_
    exact Ok.ite (fun _ => ⟨_, rfl, rfl⟩) fun _ => ⟨_, rfl, trivial⟩
  show Ok (ctl (forC _ d.length 0 ()) _ _) _
  rw [hd.1]
  refine Ok.ctl (fun i _ => ∀ a b, a < i → b < n → f a b < 1125899906842624 → T b - T a ≤ f a b) (fun r => r = false) (fun a b h => by omega) ?_ (fun r hr => ⟨r, rfl, fun h => by rw [hr] at h; cases h⟩) fun _ hs => ⟨true, rfl, fun _ => key fun i j hi hj hf => hs i j hi hj hf⟩
  intro i _ hi hin
  obtain ⟨row, r1, r2, r3⟩ := hd.row hi
  refine Ok.step r1 (Ok.must (by simp; omega) ?_)
  rw [r2]
  refine Ok.ctl (fun j _ => ∀ b, b < j → f i b < 1125899906842624 → T b - T i ≤ f i b) (fun r => r = false) (fun b h => by omega) ?_ (fun r hr => ⟨_, rfl, hr⟩) fun _ hs => ⟨_, rfl, fun a b ha hb' hf => ?_⟩
  · intro j _ hj hjn
    refine Ok.step (r3 j hj) ?_
    have nx : (f i j < 1125899906842624 → T j - T i ≤ f i j) → ∀ b, b < j + 1 → f i b < 1125899906842624 → T b - T i ≤ f i b := fun h b hb' => by
      by_cases e : b = j
      · subst e; exact h
      · exact hjn b (by omega)
    have b1 := hb i hi
    have b2 := hb j hj
    by_cases c : f i j < 1125899906842624
    · simp only [c, decide_true, if_true]
      rw [idx_nat, ht j hj, Option.bind_some, idx_nat, ht i hi, Option.bind_some, Option.bind_some, wrap_id (by omega) (by omega)]
      exact Ok.ite (fun _ => ⟨_, rfl, rfl⟩) fun h => ⟨_, rfl, nx fun _ => by have := dec_f h; omega⟩
    · simp only [c, decide_false, Bool.false_eq_true, if_false, Option.bind_some]
      exact ⟨_, rfl, nx fun h => absurd h c⟩
  · by_cases e : a = i
    · subst e; exact hs b hb' hf
    · exact hin a b (by omega) hb' hf
end
end Go.Pw
