/-
  The program's search, in plain Lean: it computes the least costs of paths.
-/
import Derived.Test.YtdhfofhginfdnaaWhD
set_option maxHeartbeats 4000000
set_option linter.unusedSimpArgs false
set_option linter.unusedVariables false
namespace Go.Pw
def ints (Q : List Nat) : List Int := Q.map Int.ofNat
theorem ofNat_cast (q : Nat) : Int.ofNat q = (q : Int) := rfl
theorem arcs_ok {n : Nat} {x : System} (h : WS n x) (back : Bool) : Ok ((mk 24 ([] : (List Arc)) x.States).bind fun l5202 =>
  (forS (fun i5208 => fun (l5432 : (List (List Arc))) => (idx x.Edges (i5208 : Int)).bind fun x5691 =>
  (idx x.Costs x5691.Label).bind fun x5742 =>
  (if back then (some (x5691.To, x5691.From))
  else (some (x5691.From, x5691.To))).bind (un2 fun (z5763 : Int) (z5764 : Int) => (idx l5432 z5763).bind fun row5873 =>
  (app 24 row5873 [(⟨z5763, z5764, x5742⟩ : Arc)]).bind fun l5887 =>
  (setI l5432 z5763 l5887).bind fun l5894 =>
  some l5894)) (x.Edges.length) 0 l5202)) fun L => L.length = n ∧ ∀ v, v < n → ∃ row, L[v]? = some row ∧ row.length ≤ 65536 ∧ ∀ a, a ∈ row ↔ ∃ (u : Nat) (w : Int), a = ⟨(v : Int), (u : Int), w⟩ ∧ ArcOf x back v u w := by
  have hn := h.n1
  have he := h.e
  rw [h.s]
  refine Ok.step (mk_ok (by omega) (by omega)) ?_
  refine Ok.forS (fun i L => L.length = n ∧ ∀ v, v < n → ∃ row, L[v]? = some row ∧ row.length ≤ i ∧ ∀ a, a ∈ row ↔ ∃ (u : Nat) (w : Int), a = ⟨(v : Int), (u : Int), w⟩ ∧ ∃ d ∈ x.Edges.take i, ∃ l : Nat, d.Label = (l : Int) ∧ x.Costs[l]? = some w ∧ (if back then d.To = (v : Int) ∧ d.From = (u : Int) else d.From = (v : Int) ∧ d.To = (u : Int))) ?_ ?_ ?_
  · exact ⟨by simp, fun v hv => ⟨[], by simp [hv], by simp, by simp⟩⟩
  · rintro i L hi ⟨h1, h2⟩
    obtain ⟨d, hd⟩ := get_len hi
    obtain ⟨f, t, lb, rfl, hf, ht, c, hc, c0, c1⟩ := h.edge d (List.mem_of_getElem? hd)
    have key : ∀ (v u : Nat), v < n → (∀ (v' u' : Nat), (if back then (t : Int) = (v' : Int) ∧ (f : Int) = (u' : Int) else (f : Int) = (v' : Int) ∧ (t : Int) = (u' : Int)) ↔ v' = v ∧ u' = u) →
        Ok ((idx L (v : Int)).bind fun row5873 => (app 24 row5873 [(⟨(v : Int), (u : Int), c⟩ : Arc)]).bind fun l5887 => (setI L (v : Int) l5887).bind fun l5894 => some l5894)
        (fun L => L.length = n ∧ ∀ v, v < n → ∃ row, L[v]? = some row ∧ row.length ≤ i + 1 ∧ ∀ a, a ∈ row ↔ ∃ (u : Nat) (w : Int), a = ⟨(v : Int), (u : Int), w⟩ ∧ ∃ d ∈ x.Edges.take (i + 1), ∃ l : Nat, d.Label = (l : Int) ∧ x.Costs[l]? = some w ∧ (if back then d.To = (v : Int) ∧ d.From = (u : Int) else d.From = (v : Int) ∧ d.To = (u : Int))) := by
      intro v u hv hvu
      obtain ⟨row, hrow, hlen, hmem⟩ := h2 v hv
      rw [idx_nat, hrow]
      simp only [Option.bind_some]
      refine Ok.step (app_ok (by simp only [List.length_singleton]; omega)) (Ok.step (setI_nat (by omega)) (Ok.ret ⟨by simp [h1], fun v' hv' => ?_⟩))
      have hpart : ∀ (u' : Nat) (w : Int), (∃ d ∈ x.Edges.take (i + 1), ∃ l : Nat, d.Label = (l : Int) ∧ x.Costs[l]? = some w ∧ (if back then d.To = (v' : Int) ∧ d.From = (u' : Int) else d.From = (v' : Int) ∧ d.To = (u' : Int))) ↔
          (∃ d ∈ x.Edges.take i, ∃ l : Nat, d.Label = (l : Int) ∧ x.Costs[l]? = some w ∧ (if back then d.To = (v' : Int) ∧ d.From = (u' : Int) else d.From = (v' : Int) ∧ d.To = (u' : Int))) ∨ (w = c ∧ v' = v ∧ u' = u) := by
        intro u' w
        rw [List.take_add_one, hd]
        simp only [Option.toList_some, List.mem_append, List.mem_singleton, exists_or, or_and_right, exists_eq_left, hvu]
        constructor
        · rintro (h | ⟨l, hl, hw, hb⟩)
          · exact .inl h
          · have : lb = l := by omega
            subst this
            rw [hc] at hw; cases hw
            exact .inr ⟨rfl, hb⟩
        · rintro (h | ⟨rfl, hb⟩)
          · exact .inl h
          · exact .inr ⟨lb, rfl, hc, hb⟩
      by_cases e : v' = v
      · subst e
        refine ⟨row ++ [⟨(v' : Int), (u : Int), c⟩], by simp [h1, hv], by simp; omega, fun a => ?_⟩
        rw [List.mem_append, hmem, List.mem_singleton]
        constructor
        · rintro (⟨u', w, rfl, hh⟩ | rfl)
          · exact ⟨u', w, rfl, (hpart u' w).2 (.inl hh)⟩
          · exact ⟨u, c, rfl, (hpart u c).2 (.inr ⟨rfl, rfl, rfl⟩)⟩
        · rintro ⟨u', w, rfl, hh⟩
          rcases (hpart u' w).1 hh with hh | ⟨rfl, _, rfl⟩
          · exact .inl ⟨u', w, rfl, hh⟩
          · exact .inr rfl
      · obtain ⟨row', hrow', hlen', hmem'⟩ := h2 v' hv'
        refine ⟨row', by rw [List.getElem?_set_ne (Ne.symm e)]; exact hrow', by omega, fun a => ?_⟩
        rw [hmem']
        constructor
        · rintro ⟨u', w, rfl, hh⟩
          exact ⟨u', w, rfl, (hpart u' w).2 (.inl hh)⟩
        · rintro ⟨u', w, rfl, hh⟩
          rcases (hpart u' w).1 hh with hh | ⟨_, h, _⟩
          · exact ⟨u', w, rfl, hh⟩
          · exact absurd h e
    simp only [idx_nat, hd, hc, Option.bind_some]
    cases back with
    | true =>
      simp only [if_true, Option.bind_some, un2]
      exact key t f ht (by intro v' u'; simp; omega)
    | false =>
      simp only [Bool.false_eq_true, if_false, Option.bind_some, un2]
      exact key f t hf (by intro v' u'; simp; omega)
  · rintro L ⟨h1, h2⟩
    refine ⟨h1, fun v hv => ?_⟩
    obtain ⟨row, hrow, hlen, hmem⟩ := h2 v hv
    refine ⟨row, hrow, by omega, fun a => ?_⟩
    rw [hmem, List.take_length]
    rfl
/-- The queue's state. -/
structure QS (n : Nat) (Q : List Nat) (ws : List Bool) (ls : List Int) : Prop where
  l : ls = ints Q
  nd : Q.Nodup
  lt : ∀ q ∈ Q, q < n
  wl : ws.length = n
  w : ∀ j, j < n → ws[j]? = some (decide (j ∈ Q))
theorem shortest_ok {n : Nat} {x : System} (h : WS n x) (back : Bool) {S : List Nat} (hS : S.Nodup) (hSn : ∀ i ∈ S, i < n) : Ok (transys_shortest_p x (ints S) back) (SP (ArcOf x back) (fun i => i ∈ S) n) := by
  have hA : AOK (ArcOf x back) (fun i => i ∈ S) n := h.aok back hSn
  have hn := h.n1
  have hI : (Inf : Int) = 1125899906842624 := rfl
  have hSl : S.length ≤ n := nodup_short' hS hSn
  unfold transys_shortest_p
  obtain ⟨L, hL, hL1, hL2⟩ := arcs_ok h back
  obtain ⟨L0, hL0, hL0'⟩ := Zg hL
  refine Ok.step hL0 (Ok.step hL0' ?_)
  rw [h.s]
  refine Ok.step (mk_ok (by omega) (by omega)) (Ok.bind ?_)
  refine Ok.forS (fun i l => l.length = n ∧ ∀ j, j < i → l[j]? = some Inf) ⟨by simp, by simp⟩ ?_ ?_
  · rintro i l hi ⟨h1, h2⟩
    have hi' : i < n := by simpa using hi
    obtain ⟨y, hy⟩ := get_len (xs := l) (i := i) (by omega)
    simp only [idx_nat, hy, Option.bind_some, setI_nat (show i < l.length by omega)]
    refine Ok.ret ⟨by simp [h1], fun j hj => ?_⟩
    by_cases e : j = i
    · subst e; simp [h1, hi']
    · rw [List.getElem?_set_ne (Ne.symm e)]; exact h2 j (by omega)
  rintro l1 ⟨hl1, hl2⟩
  have hl2' : ∀ j, j < n → l1[j]? = some Inf := fun j hj => hl2 j (by simpa using hj)
  refine Ok.step (mk_ok (by omega) (by omega)) ?_
  have hclone : slices_Clone___int_int__p (ints S) = some (ints S) := by
    unfold slices_Clone___int_int__p
    rw [app_ok (by simp [ints]; omega)]
    simp
  refine Ok.step hclone (Ok.bind ?_)
  refine Ok.forS (fun i s => s.1.length = n ∧ s.2.length = n ∧ (∀ j, j < n → s.1[j]? = some (if j ∈ S.take i then 0 else Inf)) ∧ ∀ j, j < n → s.2[j]? = some (decide (j ∈ S.take i))) ?_ ?_ ?_
  · exact ⟨hl1, by simp, fun j hj => by simp [hl2' j hj], fun j hj => by simp [hj]⟩
  · rintro i ⟨o, ws⟩ hi ⟨h1, h2, h3, h4⟩
    simp only at h1 h2 h3 h4
    have hi' : i < S.length := by simpa [ints] using hi
    obtain ⟨q, hq⟩ := get_len hi'
    have hqn := hSn q (List.mem_of_getElem? hq)
    have hiq : idx (ints S) (i : Int) = some (q : Int) := by rw [idx_nat]; simp [ints, hq, ofNat_cast]
    simp only [un2, hiq, Option.bind_some, idx_nat, h3 q hqn, h4 q hqn, setI_nat (show q < o.length by omega), setI_nat (show q < ws.length by omega)]
    refine Ok.ret ⟨by simp [h1], by simp [h2], fun j hj => ?_, fun j hj => ?_⟩
    · rw [List.take_add_one, hq]
      by_cases e : j = q
      · subst e; simp [h1, hj]
      · rw [List.getElem?_set_ne (Ne.symm e), h3 j hj]; simp [e]
    · rw [List.take_add_one, hq]
      by_cases e : j = q
      · subst e; simp [h2, hj]
      · rw [List.getElem?_set_ne (Ne.symm e), h4 j hj]; simp [e]
  rintro ⟨o1, ws1⟩ ⟨ho1, hw1, ho2, hw2⟩
  simp only at ho1 hw1 ho2 hw2
  have hlen : (ints S).length = S.length := by simp [ints]
  rw [hlen, List.take_length] at ho2 hw2
  have hD : Dst (ArcOf x back) (fun i => i ∈ S) n o1 := by
    refine ⟨ho1, fun i y hy => ?_, fun i hi => ?_, fun i y hy hlt => ?_⟩
    · have hi : i < n := by have := (List.getElem?_eq_some_iff.1 hy).1; omega
      rw [ho2 i hi] at hy
      cases hy
      split <;> omega
    · rw [ho2 i (hSn i hi), if_pos hi]
    · have hi : i < n := by have := (List.getElem?_eq_some_iff.1 hy).1; omega
      rw [ho2 i hi] at hy
      by_cases hs : i ∈ S
      · rw [if_pos hs] at hy; cases hy; exact .base hs
      · rw [if_neg hs] at hy; cases hy; omega
  refine Ok.while (fun s : List Int × List Bool × List Int => ∃ Q, QS n Q s.2.1 s.2.2 ∧ Dst (ArcOf x back) (fun i => i ∈ S) n s.1 ∧ ∀ v, v ∉ Q → ClAt (ArcOf x back) s.1 v) (fun s => SP (ArcOf x back) (fun i => i ∈ S) n s.1) (fun _ => False) (fun s => 2 * tot s.1 + s.2.2.length)
    ⟨S, ⟨rfl, hS, hSn, hw1, hw2⟩, hD, fun v hv u w a b ha hb _ hlt => ?_⟩ ?_ (fun _ h => h.elim) ?_
  · have hvn := (hA.a v u w ha).1
    simp only at hb
    rw [ho2 v hvn, if_neg hv] at hb
    cases hb
    omega
  · rintro ⟨o, ws, ls⟩ ⟨Q, hQ, hDo, hCl⟩
    simp only at hQ hDo hCl
    cases Q with
    | nil =>
      have hls : ls = [] := by rw [hQ.l]; rfl
      subst hls
      exact ⟨.brk (o, ws, []), rfl, by simp, fun s' e => by cases e; exact { hDo with cl := fun v => hCl v (by simp) }, by simp⟩
    | cons q Q =>
      have hls : ls = (q : Int) :: ints Q := by rw [hQ.l]; rfl
      obtain ⟨hqQ, hndQ⟩ := List.nodup_cons.1 hQ.nd
      have hqn : q < n := hQ.lt q (by simp)
      obtain ⟨row, hrow, hrl, hrm⟩ := hL2 q hqn
      obtain ⟨xq, hxq⟩ := get_len (xs := o) (i := q) (by rw [hDo.len]; exact hqn)
      have rxq := hDo.rng q xq hxq
      have hcut : cut ls 1 (ls.length : Int) = some (ints Q) := by unfold cut; rw [if_pos (by rw [hls]; simp; omega)]; rw [hls]; simp
      have hwq := hQ.w q hqn
      have hpos : (0 : Int) < (ls.length : Int) := by rw [hls]; simp
      have hi0 : idx ls 0 = some (q : Int) := by rw [hls]; rfl
      suffices hin : Ok (forS (fun i23833 => un3 fun (l24123 : (List Int)) (l24124 : (List Bool)) (l24125 : (List Int)) => (idx row (i23833 : Int)).bind fun x24458 =>
          (idx l24123 (q : Int)).bind fun x24516 =>
          (idx l24123 x24458.To).bind fun x24523 =>
          if decide (x24523 ≤ (IntKind.i64.wrap (x24516 + x24458.Weight))) then (some (l24123, l24124, l24125))
          else ((setI l24123 x24458.To (IntKind.i64.wrap (x24516 + x24458.Weight))).bind fun l24572 =>
          (idx l24124 x24458.To).bind fun x24584 =>
          (if !x24584 then ((app 8 l24125 [x24458.To]).bind fun l24696 =>
          (setI l24124 x24458.To true).bind fun l24705 =>
          some (l24705, l24696))
          else (some (l24124, l24125))).bind (un2 fun (l24647 : (List Bool)) (l24648 : (List Int)) => some (l24572, l24647, l24648)))) (row.length) 0 (o, ws.set q false, ints Q))
          (fun s => ∃ Q2, QS n Q2 s.2.1 s.2.2 ∧ Dst (ArcOf x back) (fun i => i ∈ S) n s.1 ∧ (∀ v, v ∉ Q2 → ClAt (ArcOf x back) s.1 v) ∧ 2 * tot s.1 + Q2.length ≤ 2 * tot o + Q.length) by
        obtain ⟨⟨o', ws', ls'⟩, hr, Q2, g1, g2, g3, g4⟩ := hin
        simp only at g1 g2 g3 g4
        refine ⟨.next (o', ws', ls'), ?_, fun s' e => ?_, by simp, by simp⟩
        · simp only [un3, hpos, decide_true, if_true, hi0, hcut, idx_nat, hwq, setI_nat (show q < ws.length by rw [hQ.wl]; exact hqn), hrow, Option.bind_some]
          have hmust : must (decide (row.length ≤ 9223372036854775807)) = some () := by unfold must; rw [if_pos (by simp; omega)]
          rw [hmust]
          simp only [Option.bind_some]
          show ((forS _ _ 0 (o, ws.set q false, ints Q)).bind _) = _
          simp only [un3, idx_nat] at hr
          rw [hr]
          rfl
        · cases e
          refine ⟨⟨Q2, g1, g2, g3⟩, ?_⟩
          have e1 : ls'.length = Q2.length := by rw [g1.l]; simp [ints]
          have e2 : ls.length = Q.length + 1 := by rw [hls]; simp [ints]
          simp only [e1, e2]
          omega
      refine Ok.forS (fun i s => ∃ Q2, QS n Q2 s.2.1 s.2.2 ∧ q ∉ Q2 ∧ Dst (ArcOf x back) (fun i => i ∈ S) n s.1 ∧ s.1[q]? = some xq ∧ (∀ v, v ∉ Q2 → v ≠ q → ClAt (ArcOf x back) s.1 v) ∧
        (∀ (u : Nat) (w y : Int), (⟨(q : Int), (u : Int), w⟩ : Arc) ∈ row.take i → s.1[u]? = some y → y ≤ xq + w) ∧ 2 * tot s.1 + Q2.length ≤ 2 * tot o + Q.length) ?_ ?_ ?_
      · refine ⟨Q, ⟨rfl, hndQ, fun q' h' => hQ.lt q' (by simp [h']), by simp [hQ.wl], fun j hj => ?_⟩, hqQ, hDo, hxq, fun v hv hne => hCl v (by simp [hv, hne]), by simp, Nat.le_refl _⟩
        by_cases e : j = q
        · subst e; simp [hQ.wl, hj, hqQ]
        · simp only
          rw [List.getElem?_set_ne (Ne.symm e), hQ.w j hj]; simp [e]
      · rintro i ⟨k, ws', ls'⟩ hi ⟨Q2, g1, g2, g3, g4, g5, g6, g7⟩
        simp only at g1 g2 g3 g4 g5 g6 g7
        obtain ⟨a, ha⟩ := get_len hi
        obtain ⟨u, w, rfl, harc⟩ := (hrm a).1 (List.mem_of_getElem? ha)
        obtain ⟨_, hu, hw0, hw1'⟩ := hA.a q u w harc
        obtain ⟨y, hy⟩ := get_len (xs := k) (i := u) (by rw [g3.len]; exact hu)
        have ry := g3.rng u y hy
        have hwr : IntKind.i64.wrap (xq + w) = xq + w := wrap_id (by omega) (by omega)
        have htk : row.take (i + 1) = row.take i ++ [⟨(q : Int), (u : Int), w⟩] := by rw [List.take_add_one, ha]; rfl
        simp only [un3, idx_nat, ha, g4, hy, Option.bind_some, hwr]
        by_cases hle : y ≤ xq + w
        · simp only [hle, decide_true, if_true]
          refine Ok.ret ⟨Q2, g1, g2, g3, g4, g5, ?_, g7⟩
          intro u' w' y' hm hy'
          rw [htk] at hm
          rcases List.mem_append.1 hm with hm | hm
          · exact g6 u' w' y' hm hy'
          · simp only [List.mem_singleton, Arc.mk.injEq] at hm
            obtain ⟨_, e1, e2⟩ := hm
            have e1' : u' = u := by omega
            subst e1' e2
            simp only at hy'
            rw [hy] at hy'; cases hy'; exact hle
        · have hlt : xq + w < y := by omega
          have huq : u ≠ q := by
            rintro rfl
            rw [g4] at hy; cases hy; omega
          have hD' := g3.set hA harc g4 hy hlt
          have hq' : (k.set u (xq + w))[q]? = some xq := by rw [List.getElem?_set_ne huq]; exact g4
          have hmono : ∀ (v : Nat) (b : Int), (k.set u (xq + w))[v]? = some b → ∃ b', k[v]? = some b' ∧ b ≤ b' := by
            intro v b hb
            by_cases e : u = v
            · subst e
              rw [List.getElem?_set_self (by rw [g3.len]; exact hu)] at hb
              cases hb
              exact ⟨y, hy, by omega⟩
            · rw [List.getElem?_set_ne e] at hb; exact ⟨b, hb, Int.le_refl _⟩
          have htot := tot_set (l := k) (u := u) (y := y) (z := xq + w) hy (by omega) hlt
          have hcl' : ∀ Q3 : List Nat, u ∈ Q3 → (∀ v, v ∉ Q3 → v ∉ Q2) → ∀ v, v ∉ Q3 → v ≠ q → ClAt (ArcOf x back) (k.set u (xq + w)) v := by
            intro Q3 hu3 hsub v hv hvq u2 w2 a2 b2 harc2 ha2 hb2 hlt2
            have hvu : u ≠ v := by rintro rfl; exact hv hu3
            rw [List.getElem?_set_ne hvu] at ha2
            obtain ⟨b', hb', hle'⟩ := hmono u2 b2 hb2
            have := g5 v (hsub v hv) hvq u2 w2 a2 b' harc2 ha2 hb' hlt2
            omega
          have hproc : ∀ (u' : Nat) (w' y' : Int), (⟨(q : Int), (u' : Int), w'⟩ : Arc) ∈ row.take (i + 1) → (k.set u (xq + w))[u']? = some y' → y' ≤ xq + w' := by
            intro u' w' y' hm hy'
            rw [htk] at hm
            rcases List.mem_append.1 hm with hm | hm
            · obtain ⟨b', hb', hle'⟩ := hmono u' y' hy'
              have := g6 u' w' b' hm hb'
              omega
            · simp only [List.mem_singleton, Arc.mk.injEq] at hm
              obtain ⟨_, e1, e2⟩ := hm
              have e1' : u' = u := by omega
              subst e1' e2
              rw [List.getElem?_set_self (by rw [g3.len]; exact hu)] at hy'
              cases hy'; exact Int.le_refl _
          simp only [hle, decide_false, Bool.false_eq_true, if_false, setI_nat (show u < k.length by rw [g3.len]; exact hu), g1.w u hu, Option.bind_some]
          by_cases hin : u ∈ Q2
          · simp only [hin, decide_true, Bool.not_true, Bool.false_eq_true, if_false, Option.bind_some, un2]
            exact Ok.ret ⟨Q2, g1, g2, hD', hq', hcl' Q2 hin (fun v hv => hv), hproc, by simp only; omega⟩
          · have hQl := nodup_short' g1.nd g1.lt
            have hll : ls'.length = Q2.length := by rw [g1.l]; simp [ints]
            simp only [hin, decide_false, Bool.not_false, if_true, Option.bind_some, un2, app_ok (show (ls'.length + [((u : Nat) : Int)].length) * 8 ≤ 140737488355328 by rw [hll, List.length_singleton]; omega), setI_nat (show u < ws'.length by rw [g1.wl]; exact hu)]
            refine Ok.ret ⟨Q2 ++ [u], ⟨by rw [g1.l]; simp [ints], ?_, ?_, by simp [g1.wl], fun j hj => ?_⟩, ?_, hD', hq', hcl' _ (by simp) (fun v hv h' => hv (by simp [h'])), hproc, ?_⟩
            · exact List.nodup_append.2 ⟨g1.nd, by simp, fun a hma b hmb e => by simp only [List.mem_singleton] at hmb; exact hin (hmb ▸ e ▸ hma)⟩
            · intro q' h'
              rcases List.mem_append.1 h' with h' | h'
              · exact g1.lt q' h'
              · simp at h'; subst h'; exact hu
            · by_cases e : j = u
              · subst e; simp [g1.wl, hj]
              · simp only
                rw [List.getElem?_set_ne (Ne.symm e), g1.w j hj]; simp [e]
            · simp [g2, Ne.symm huq]
            · simp only [List.length_append, List.length_singleton]; omega
      · rintro ⟨k, ws', ls'⟩ ⟨Q2, g1, g2, g3, g4, g5, g6, g7⟩
        refine ⟨Q2, g1, g3, fun v hv => ?_, g7⟩
        by_cases e : v = q
        · subst e
          intro u w a b harc ha hb hlt
          simp only at ha hb g4 g6
          rw [g4] at ha; cases ha
          exact g6 u w b (by rw [List.take_length]; exact (hrm _).2 ⟨u, w, rfl, harc⟩) hb
        · exact g5 v hv e
  · rintro ⟨o, ws, ls⟩ hsp
    exact Ok.ret hsp
end Go.Pw
