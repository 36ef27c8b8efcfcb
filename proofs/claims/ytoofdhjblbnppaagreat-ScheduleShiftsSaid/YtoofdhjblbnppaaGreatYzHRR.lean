/-
  The reference's network.
-/
import Derived.Test.YtoofdhjblbnppaaGreatYzHLL
set_option linter.unusedVariables false
set_option linter.unusedSimpArgs false
namespace Go.Pw
theorem all_any {α : Type} (l : List α) (p : α → Bool) : (l.all fun x => !p x) = !(l.any p) := by
  rw [Bool.eq_iff_iff]
  simp
theorem rmeet_ok (a b : List Fact) : ref55_meet_p a b = some (meetB a b) := by
  unfold ref55_meet_p
  rw [ctl_list (p := fun x : Fact => !(b.any fun y => decide (x.Var = y.Var))) (r := true)]
  · rw [all_any]; unfold meetB; cases a.any _ <;> rfl
  · intro j x hx
    rw [idx_nat, hx, Option.bind_some, ctl_list (p := fun y : Fact => !decide (x.Var = y.Var)) (r := true)]
    · rw [all_any]; cases b.any _ <;> rfl
    · intro k y hy
      rw [idx_nat, hy, Option.bind_some]
      by_cases c : x.Var = y.Var <;> simp [c]
theorem rcommon_ok (a b : List Fact) : ref57_common_p a b = some (meetB a b) := rmeet_ok a b
theorem rwr (j : Job) (e : Bool) : ref55_Writes_t j e = wrH j e := by unfold ref55_Writes_t wrH; cases e <;> rfl
theorem rrd (j : Job) (e : Bool) : ref55_Reads_t j e = rdH j e := by unfold ref55_Reads_t rdH; cases e <;> rfl
theorem rint_ok (a b : Job) (e f : Bool) : ref55_Interfere_p a b e f = some (intB a b e f) := by
  unfold ref55_Interfere_p intB
  simp only [rmeet_ok, rwr, rrd, Option.bind_some]
  cases meetB (wrH a e) (wrH b f) <;> cases meetB (wrH a e) (rdH b f) <;> cases meetB (rdH a e) (wrH b f) <;> rfl
theorem rpoint {i : Nat} (h : i < 1000) (e : Bool) : ref57_point_t (i : Int) e = ptH (i, e) := by
  unfold ref57_point_t ptH
  rw [wrap_id (n := 2 * (i : Int)) (by omega) (by omega), wrap_id (by omega) (by omega), wrap_id (by omega) (by omega)]
theorem rafter (q p g : Int) (h0 : 0 ≤ g) (h1 : g ≤ 1000000) : ref57_after_t q p g = ⟨q, p, -g⟩ := by
  unfold ref57_after_t; rw [wrap_id (by omega) (by omega)]; congr 1; omega
section
variable {t : Temporal} {L S : List Launch}
theorem rend_ok (hA : Acc t S) {i : Nat} (hi : i < S.length) : ref55_End_p t (lau S i) = some (endT t (lau S i)) := by
  have hok := hA.ok _ (lau_mem hi)
  have hd := endT_gt hA.chk hok
  have := hok.a0; have := hok.a1
  unfold ref55_End_p
  rw [jb_idx hok, Option.bind_some, wrap_id]
  · rfl
  · unfold endT at hd; omega
  · unfold endT at hd; omega
theorem rat_ok (hA : Acc t S) {x : Nat × Bool} (hx : x.1 < S.length) : ref57_at_p t (lau S x.1) x.2 = some (tmH t S x) := by
  unfold ref57_at_p tmH
  obtain ⟨i, e⟩ := x
  cases e
  · rfl
  · simp only [if_true]; rw [rend_ok hA hx]; rfl
theorem rpair_step (hA : Acc t S) {x y : Nat × Bool} (hx : x.1 < S.length) (hy : y.1 < S.length) (h63 : S.length ≤ 63) {l : List Bound} (hl : l.length ≤ 100000) :
    ((idx t.Jobs (lau S x.1).Job).bind fun x104 => (idx S (y.1 : Int)).bind fun x105 => (idx t.Jobs x105.Job).bind fun x106 => (ref55_Interfere_p x104 x106 x.2 y.2).bind <| fun (y101 : Bool) =>
      if !y101 then (some l)
      else ((ref57_at_p t (lau S x.1) x.2).bind <| fun (y102 : Int) => (ref57_at_p t x105 y.2).bind <| fun (y103 : Int) =>
      (if decide (y102 < y103) then ((app 24 l [(ref57_after_t (ref57_point_t (y.1 : Int) y.2) (ref57_point_t (x.1 : Int) x.2) 1)]).bind fun l104 => some l104)
      else ((app 24 l [(ref57_after_t (ref57_point_t (x.1 : Int) x.2) (ref57_point_t (y.1 : Int) y.2) 1)]).bind fun l105 => some l105)).bind (fun (l106 : (List Bound)) => some l106))) = some (l ++ ordB t S x y) := by
  rw [jb_idx (hA.ok _ (lau_mem hx)), Option.bind_some, idx_nat, lau_get hy, Option.bind_some, jb_idx (hA.ok _ (lau_mem hy)), Option.bind_some, rint_ok, Option.bind_some, rat_ok hA hx, Option.bind_some, rat_ok hA hy, Option.bind_some, app_ok (by simp; omega), app_ok (by simp; omega), rafter _ _ _ (by omega) (by omega), rafter _ _ _ (by omega) (by omega), rpoint (by omega), rpoint (by omega)]
  unfold ordB
  rw [show intB (jb t (lau S x.1)) (jb t (lau S y.1)) x.2 y.2 = intX t S x y from rfl]
  cases intX t S x y with
  | false => simp
  | true =>
    by_cases c : tmH t S x < tmH t S y
    · simp [c]
    · simp [c]
theorem rov_step (hA : Acc t S) (hl : S.length ≤ 63) {i : Nat} {x : Nat × Bool} (hi : i < S.length) (hx : x.1 < S.length) (hne : x.1 ≠ i) {l : List Bound} (hll : l.length ≤ 100000) :
    ((if decide ((i : Int) = (x.1 : Int)) then (some true)
      else ((idx t.Jobs (lau S x.1).Job).bind fun x110 => (idx t.Jobs (lau S i).Job).bind fun x111 => (ref57_common_p (ref55_Writes_t x110 x.2) x111.Over).bind <| fun (y104 : Bool) => some (!y104))).bind (fun (z100 : Bool) => if z100 then (some l)
      else ((ref57_at_p t (lau S x.1) x.2).bind <| fun (y105 : Int) =>
      (if decide (y105 ≤ (lau S i).At) then ((app 24 l [(ref57_after_t (ref57_point_t (i : Int) false) (ref57_point_t (x.1 : Int) x.2) 0)]).bind fun l111 => some l111)
      else ((ref57_at_p t (lau S x.1) x.2).bind <| fun (y106 : Int) => (ref55_End_p t (lau S i)).bind <| fun (y107 : Int) =>
      (if decide (y107 ≤ y106) then ((app 24 l [(ref57_after_t (ref57_point_t (x.1 : Int) x.2) (ref57_point_t (i : Int) true) 0)]).bind fun l112 => some l112)
      else (some l)).bind (fun (l113 : (List Bound)) => some l113))).bind (fun (l114 : (List Bound)) => some l114)))) = some (l ++ ovrB t S i x) := by
  rw [if_neg (by simp; omega), jb_idx (hA.ok _ (lau_mem hx)), Option.bind_some, jb_idx (hA.ok _ (lau_mem hi)), Option.bind_some, rcommon_ok, Option.bind_some, Option.bind_some, rat_ok hA hx, Option.bind_some, Option.bind_some, rend_ok hA hi, Option.bind_some, app_ok (by simp; omega), app_ok (by simp; omega), rafter _ _ _ (by omega) (by omega), rafter _ _ _ (by omega) (by omega), rpoint (by omega), rpoint (by omega), rpoint (by omega), rwr]
  unfold ovrB
  rw [show meetB (wrH (jb t (lau S x.1)) x.2) (jb t (lau S i)).Over = meetB (wrX t S x) (jb t (lau S i)).Over from rfl]
  cases meetB (wrX t S x) (jb t (lau S i)).Over with
  | false => simp
  | true =>
    by_cases c : tmH t S x ≤ (lau S i).At
    · simp [c, ptH]
    · by_cases d : endT t (lau S i) ≤ tmH t S x
      · simp [c, d, ptH]
      · simp [c, d]
end
end Go.Pw
/-
  The reference's network, whole; ScheduleNetworks.
-/
namespace Go.Pw
section
variable {t : Temporal} {L S : List Launch}
def prB : List (Bool × Bool) := [(false, false), (false, true), (true, false), (true, true)]
theorem ordP_pr (t : Temporal) (S : List Launch) (i k : Nat) : ordP t S i k = prB.flatMap fun p => ordB t S (i, p.1) (k, p.2) := by simp [ordP, prB]
theorem RNetwork_ok (hA : Acc t L) (hl : L.length ≤ 63) : ref57_Network_p t L = some (BD t (srtL L), 2 * (L.length : Int) + 1) := by
  unfold ref57_Network_p
  rw [Sorted_ok hA.len, Option.bind_some]
  have hlen : (srtL L).length = L.length := (srtL_perm L).length_eq
  rw [← hlen] at hl ⊢
  have hAS := hA.perm (srtL_perm L).symm
  generalize srtL L = S at *
  clear hA
  have hb := BD_len (t := t) hl
  unfold BD at hb
  simp only [List.length_append] at hb
  refine Ok.eq (Ok.bind (Ok.forS (fun j out => out.length ≤ 3 * j ∧ out = (List.range j).flatMap fun i : Nat => [⟨2 * (i : Int) + 1, 0, 0⟩, ⟨2 * (i : Int) + 2, 2 * (i : Int) + 1, -(jb t (lau S i)).Duration⟩, ⟨2 * (i : Int) + 1, 2 * (i : Int) + 2, (jb t (lau S i)).Duration⟩]) ⟨by simp, rfl⟩ ?_ ?_))
  · rintro j out hj ⟨h1, rfl⟩
    have hok := hAS.ok _ (lau_mem hj)
    have hd := (hAS.chk.job _ (jb_mem hok)).dur
    refine Ok.step (by rw [idx_nat]; exact lau_get hj) (Ok.step (jb_idx hok) (Ok.step (app_ok (by simp only [List.length_cons, List.length_nil]; omega)) ⟨_, rfl, ?_, ?_⟩))
    · rw [List.length_append]; simp only [List.length_cons, List.length_nil]; omega
    · rw [List.range_succ, List.flatMap_append, rpoint (by omega), rpoint (by omega), rafter _ _ _ (by omega) (by omega), rafter _ _ _ (by omega) (by omega)]
      simp [ptH]
  rintro out1 ⟨-, h1⟩
  have h1 : out1 = durL t S := h1
  subst h1
  have hdl := durL_len t S
  -- orders
  refine Ok.bind (Ok.forS (fun j out => out.length ≤ (durL t S).length + 252 * j ∧ out = durL t S ++ (List.range j).flatMap fun i => (List.range' (i + 1) (S.length - (i + 1))).flatMap fun k => ordP t S i k) ⟨by omega, by simp⟩ ?_ ?_)
  · rintro i out hi ⟨hlen, hout⟩
    refine Ok.step (by rw [idx_nat]; exact lau_get hi) ?_
    rw [show ((i : Int) + 1) = ((i + 1 : Nat) : Int) by omega, wrap_id (by omega) (by omega)]
    refine Ok.whileF (n := S.length) (fun j l => l.length ≤ out.length + 4 * (j - (i + 1)) ∧ l = out ++ (List.range' (i + 1) (j - (i + 1))).flatMap fun k => ordP t S i k)
      (fun l => l.length ≤ out.length + 252 ∧ l = out ++ (List.range' (i + 1) (S.length - (i + 1))).flatMap fun k => ordP t S i k) (fun _ => False) (by omega) ⟨by omega, by simp⟩ ?_ ?_ (fun r hr => hr.elim) (fun q hq => ⟨_, rfl, ?_, ?_⟩)
    · rintro k l hk1 hk ⟨g1, g2⟩
      show Ok (if decide ((k : Int) < (S.length : Int)) = true then _ else _) _
      rw [if_pos (by simpa using hk)]
      have e : ([(⟨false, false⟩ : Arr2_bool), ⟨false, true⟩, ⟨true, false⟩, ⟨true, true⟩]) = prB.map fun p => ⟨p.1, p.2⟩ := rfl
      rw [e, List.length_map]
      refine Ok.bind (Ok.forS (fun q m => m.length ≤ l.length + q ∧ m = l ++ (prB.take q).flatMap fun p => ordB t S (i, p.1) (k, p.2)) ⟨Nat.le_refl _, by simp⟩ ?_ fun m hm => ⟨_, rfl, ?_, ?_, ?_⟩)
      · rintro q m hq ⟨a1, a2⟩
        have hq4 : q < 4 := hq
        rw [idx_nat, List.getElem?_map, List.getElem?_eq_getElem hq, Option.map_some, Option.bind_some]
        have := rpair_step hAS (x := (i, prB[q].1)) (y := (k, prB[q].2)) hi hk hl (l := m) (by omega)
        refine ⟨_, this, ?_, ?_⟩
        · rw [List.length_append]
          have := ordB_len t S (i, prB[q].1) (k, prB[q].2)
          omega
        · rw [take_snoc hq, List.flatMap_append, ← List.append_assoc, ← a2, List.flatMap_singleton]; rfl
      · show IntKind.i64.wrap ((k : Int) + 1) = ((k + 1 : Nat) : Int)
        rw [wrap_id (by omega) (by omega)]; rfl
      · have h3 : m.length ≤ l.length + 4 := hm.1
        show m.length ≤ _
        omega
      · have h3 : m = l ++ prB.flatMap fun p => ordB t S (i, p.1) (k, p.2) := hm.2
        show m = _
        rw [h3, g2, show k + 1 - (i + 1) = (k - (i + 1)) + 1 by omega, List.range'_concat, List.flatMap_append, List.append_assoc]
        congr 2
        rw [show i + 1 + 1 * (k - (i + 1)) = k by omega]
        simp [ordP_pr]
    · rintro l ⟨g1, g2⟩
      show Ok (if decide ((S.length : Int) < (S.length : Int)) = true then _ else _) _
      rw [if_neg (by simp)]
      exact ⟨_, rfl, _, rfl, by simp only; omega, g2⟩
    · have h3 : q.2.length ≤ out.length + 252 := hq.1
      have h5 : out.length + 252 ≤ (durL t S).length + 252 * (i + 1) := by rw [Nat.mul_add, ← Nat.add_assoc]; exact Nat.add_le_add_right hlen 252
      exact Nat.le_trans h3 h5
    · have h3 : q.2 = out ++ _ := hq.2
      show q.2 = _
      rw [h3, hout, List.range_succ, List.flatMap_append, List.append_assoc]
      simp
  rintro out2 ⟨-, h2⟩
  have h2 : out2 = durL t S ++ ordL t S := h2
  subst h2
  -- the over conditions
  generalize hB2 : durL t S ++ ordL t S = B2
  have hB2l : B2.length ≤ 90000 := by
    have := durL_len t S
    have := ordL_len t S
    have : S.length * (S.length * 4) ≤ 63 * (63 * 4) := Nat.mul_le_mul hl (Nat.mul_le_mul_right 4 hl)
    rw [← hB2, List.length_append]; omega
  refine Ok.bind (Ok.forS (fun j out => out.length ≤ B2.length + 126 * j ∧ out = B2 ++ (List.range j).flatMap fun i => (List.range S.length).flatMap fun k => if k = i then [] else ovrB t S i (k, false) ++ ovrB t S i (k, true)) ⟨by omega, by simp⟩ ?_ ?_)
  · rintro i out hi ⟨hlen, hout⟩
    refine Ok.step (by rw [idx_nat]; exact lau_get hi) (Ok.bind ?_)
    refine Ok.forS (fun j l => l.length ≤ out.length + 2 * j ∧ l = out ++ (List.range j).flatMap fun k => if k = i then [] else ovrB t S i (k, false) ++ ovrB t S i (k, true)) ⟨by omega, by simp⟩ ?_ fun l hl' => ⟨_, rfl, by have := hl'.1; omega, ?_⟩
    · rintro k l hk ⟨g1, g2⟩
      refine Ok.step (by rw [idx_nat]; exact lau_get hk) (Ok.bind ?_)
      by_cases c : k = i
      · subst c
        refine Ok.forS (fun q m => m = l) rfl ?_ fun m hm => ⟨_, rfl, ?_, ?_⟩
        · rintro q m hq rfl
          have hq2 : q < 2 := hq
          rw [idx_nat, List.getElem?_eq_getElem hq, Option.bind_some, if_pos (by simp), Option.bind_some]
          exact ⟨_, rfl, rfl⟩
        · subst hm; omega
        · subst hm
          rw [List.range_succ, List.flatMap_append, g2]; simp
      · refine Ok.forS (fun q m => m.length ≤ l.length + q ∧ m = l ++ ([false, true].take q).flatMap fun e => ovrB t S i (k, e)) ⟨by omega, by simp⟩ ?_ fun m hm => ⟨_, rfl, ?_, ?_⟩
        · rintro q m hq ⟨a1, a2⟩
          have hq2 : q < 2 := hq
          rw [idx_nat, List.getElem?_eq_getElem hq, Option.bind_some]
          have := rov_step hAS hl (i := i) (x := (k, [false, true][q])) hi hk c (l := m) (by omega)
          refine ⟨_, this, ?_, ?_⟩
          · rw [List.length_append]
            have := ovrB_len t S i (k, [false, true][q])
            omega
          · rw [take_snoc hq, List.flatMap_append, ← List.append_assoc, ← a2, List.flatMap_singleton]
        · have : m.length ≤ l.length + 2 := hm.1
          omega
        · have h3 : m = l ++ [false, true].flatMap fun e => ovrB t S i (k, e) := hm.2
          rw [h3, List.range_succ, List.flatMap_append, g2]
          simp [c]
    · rw [hl'.2, hout, List.range_succ, List.flatMap_append, List.append_assoc]; simp
  rintro out3 ⟨-, h3⟩
  have h3 : out3 = B2 ++ ovrL t S := h3
  subst h3
  generalize hB3 : B2 ++ ovrL t S = B3
  have hB3l : B3.length ≤ 99000 := by
    have := ovrL_len t S
    have : S.length * (S.length * 2) ≤ 63 * (63 * 2) := Nat.mul_le_mul hl (Nat.mul_le_mul_right 2 hl)
    rw [← hB3, List.length_append]; omega
  -- launches of one job
  refine Ok.bind (Ok.forS (fun j out => out.length ≤ B3.length + j ∧ out = B3 ++ (List.range j).flatMap (repB S)) ⟨by omega, by simp⟩ ?_ ?_)
  · rintro i out hi ⟨hlen, hout⟩
    refine Ok.step (by rw [idx_nat]; exact lau_get hi) ?_
    rw [show ((i : Int) + 1) = ((i + 1 : Nat) : Int) by omega, wrap_id (by omega) (by omega)]
    refine Ok.whileF (n := S.length) (fun j l => l = out ∧ ∀ m, i < m → m < j → (lau S m).Job ≠ (lau S i).Job) (fun l => l = out ++ repB S i) (fun _ => False) (by omega) ⟨rfl, fun m h1 h2 => by omega⟩ ?_ ?_ (fun r hr => hr.elim) (fun q hq => ⟨_, rfl, ?_, ?_⟩)
    · rintro k l hk1 hk ⟨rfl, h2⟩
      show Ok (if decide ((k : Int) < (S.length : Int)) = true then _ else _) _
      rw [if_pos (by simpa using hk)]
      refine Ok.step (by rw [idx_nat]; exact lau_get hk) ?_
      by_cases c : (lau S k).Job = (lau S i).Job
      · rw [if_pos (by simpa using c), app_ok (by simp; omega), rpoint (by omega), rpoint (by omega), rafter _ _ _ (by omega) (by omega)]
        refine ⟨_, rfl, ?_⟩
        show _ ++ _ = _ ++ repB S i
        unfold repB
        rw [nextJ_some (by omega) hk c h2]
        rfl
      · rw [if_neg (by simpa using c)]
        refine ⟨_, rfl, ?_, rfl, fun m h3 h4 => ?_⟩
        · show IntKind.i64.wrap ((k : Int) + 1) = ((k + 1 : Nat) : Int)
          rw [wrap_id (by omega) (by omega)]; rfl
        · by_cases e : m = k
          · subst e; exact c
          · exact h2 m h3 (by omega)
    · rintro l ⟨rfl, h2⟩
      show Ok (if decide ((S.length : Int) < (S.length : Int)) = true then _ else _) _
      rw [if_neg (by simp)]
      refine ⟨_, rfl, _, rfl, ?_⟩
      show _ = _ ++ repB S i
      unfold repB
      rw [nextJ_none h2]; simp
    · have h3 : q.2 = out ++ repB S i := hq
      show q.2.length ≤ B3.length + (i + 1)
      rw [h3, List.length_append]
      have := repB_len S i
      omega
    · have h3 : q.2 = out ++ repB S i := hq
      show q.2 = _
      rw [h3, hout, List.range_succ, List.flatMap_append, List.append_assoc]; simp
  rintro out4 ⟨-, h4⟩
  have h4 : out4 = B3 ++ repL S := h4
  subst h4
  refine ⟨_, rfl, ?_⟩
  rw [← hB3, ← hB2, wrap_id (n := 2 * (S.length : Int)) (by omega) (by omega), wrap_id (by omega) (by omega)]
  rfl
end
end Go.Pw
