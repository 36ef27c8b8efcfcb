/-
  The program's steps compute what a ground task means, in plain Lean.
-/
import Derived.Test.YtkfcbmecmdpilaaSxWA
set_option maxHeartbeats 8000000
set_option linter.unusedSimpArgs false
set_option linter.unusedVariables false
namespace Go.Pw
def Small (n : Int) : Prop := -1099511627776 ≤ n ∧ n ≤ 1099511627776
theorem combG_some {op : ByteArray} {a b : Int} (ha : Small a) : ∃ r, ground_combine_p op a b = some r ∧ (r.2 = true → Small r.1) := by
  have key : ∀ n : Int, ∃ z, (if decide ((-1099511627776) ≤ n) = true then (some (decide (n ≤ 1099511627776))) else (some false)) = some z ∧ (z = true → Small n) := by
    intro n
    by_cases h1 : -1099511627776 ≤ n
    · rw [if_pos (decide_eq_true h1)]
      exact ⟨_, rfl, fun h => ⟨h1, of_decide_eq_true h⟩⟩
    · rw [if_neg (by simpa using h1)]
      exact ⟨_, rfl, fun h => by cases h⟩
  unfold ground_combine_p
  by_cases h1 : op = ⟨#[43]⟩
  · rw [if_pos (decide_eq_true h1)]
    obtain ⟨z, e, h⟩ := key (IntKind.i64.wrap (a + b))
    rw [e]
    exact ⟨_, rfl, h⟩
  · rw [if_neg (by simpa using h1)]
    by_cases h2 : op = ⟨#[45]⟩
    · rw [if_pos (decide_eq_true h2)]
      obtain ⟨z, e, h⟩ := key (IntKind.i64.wrap (a - b))
      rw [e]
      exact ⟨_, rfl, h⟩
    · rw [if_neg (by simpa using h2)]
      obtain ⟨z, e, h⟩ := key (IntKind.i64.wrap (a * b))
      rw [e]
      have hc : ∃ q, (if (!decide (a = 0)) = true then ((must (!decide ((max a (IntKind.i64.wrap (0 - a))) = 0))).bind fun u100 => some (decide ((IntKind.i64.wrap ((1099511627776 : Int).tdiv (max a (IntKind.i64.wrap (0 - a))))) < (max b (IntKind.i64.wrap (0 - b)))))) else (some false)) = some q := by
        by_cases h0 : a = 0
        · rw [if_neg (by simp [h0])]; exact ⟨_, rfl⟩
        · rw [if_pos (by simp [h0])]
          obtain ⟨a1, a2⟩ := ha
          rw [wrap_id (n := 0 - a) (by omega) (by omega), show must (!decide (max a (0 - a) = 0)) = some () by rw [decide_eq_false (by omega)]; rfl]
          exact ⟨_, rfl⟩
      obtain ⟨q, eq⟩ := hc
      rw [eq]
      cases q with
      | true => exact ⟨_, rfl, fun h => by cases h⟩
      | false => exact ⟨_, rfl, h⟩
noncomputable def cbG (op : ByteArray) (a b : Int) : Int × Bool := (ground_combine_p op a b).getD (0, false)
theorem combG {op : ByteArray} {a b : Int} (ha : Small a) : ground_combine_p op a b = some (cbG op a b) ∧ ((cbG op a b).2 = true → Small (cbG op a b).1) := by
  obtain ⟨r, h, k⟩ := combG_some (op := op) (b := b) ha
  unfold cbG
  rw [h]
  exact ⟨rfl, k⟩
section
variable {s : GState} {g : Ground} {fu : Nat}
theorem val_small {n : Int} {V : List Int} (hV : ∀ v ∈ V, Small v) (hn : n ≤ (V.length : Int)) {e : GExpr} (h : RE n e) : (valS cbG V e).2 = true → Small (valS cbG V e).1 := by
  induction h with
  | num a b => intro _; simp only [valS, if_true]; exact ⟨a, b⟩
  | @flu N a b =>
    intro _
    obtain ⟨x, hx⟩ := get_len (xs := V) (i := N.toNat) (by omega)
    rw [valS, if_neg (by simp), if_pos rfl, hx]
    exact hV x (List.mem_of_getElem? hx)
  | bin ho ha hb iha ihb =>
    rw [valS_bin cbG ho]
    split
    · rename_i hh
      exact (combG (iha hh.1)).2
    · intro h; cases h
theorem PropS.small (hv : ValidG g) (hp : PropS g s) : ∀ v ∈ s.Values, Small v := fun v hm => by
  obtain ⟨i, hi, rfl⟩ := List.getElem_of_mem hm
  obtain ⟨f, hf⟩ := get_len (xs := g.Fluents) (i := i) (by rw [← hp.l]; exact hi)
  have h1 := hp.r i f _ hf (List.getElem?_eq_getElem hi)
  have h2 := hv.flu f (List.mem_of_getElem? hf)
  obtain ⟨a, _, _, b, _⟩ := h2
  exact ⟨by omega, by omega⟩
theorem gval_ok (hV : ∀ v ∈ s.Values, Small v) : ∀ (fu : Nat) (e : GExpr), SizeOf.sizeOf e < fu → RE (s.Values.length : Int) e → ground_value_p fu s e = some (valS cbG s.Values e)
  | 0, e, h, _ => absurd h (Nat.not_lt_zero _)
  | fu + 1, e, h, hr => by
    cases hr with
    | num a b => rw [ground_value_p]; simp [valS]
    | flu a b =>
      rename_i N
      rw [ground_value_p]
      simp only
      rw [if_neg (by simp), if_pos (by simp), idx_int a]
      obtain ⟨x, hx⟩ := get_len (xs := s.Values) (i := N.toNat) (by omega)
      rw [valS, if_neg (by simp), if_pos rfl, hx]
      rfl
    | @bin op a b ho ha hb =>
      have sa := kid_size (e := ⟨op, 0, [a, b]⟩) (k := a) (by simp)
      have sb := kid_size (e := ⟨op, 0, [a, b]⟩) (k := b) (by simp)
      have hsm := val_small hV (Int.le_refl _) ha
      rw [ground_value_p, valS_bin cbG ho]
      simp only
      rw [if_neg (by rcases ho with h | h | h <;> subst h <;> simp), if_neg (by rcases ho with h | h | h <;> subst h <;> simp)]
      rw [show idx [a, b] 0 = some a from rfl, show idx [a, b] 1 = some b from rfl]
      simp only [Option.bind_some]
      rw [gval_ok hV fu a (by omega) ha, gval_ok hV fu b (by omega) hb]
      simp only [Option.bind_some, un2]
      generalize valS cbG s.Values a = x at hsm
      generalize valS cbG s.Values b = y
      obtain ⟨x1, x2⟩ := x
      obtain ⟨y1, y2⟩ := y
      cases x2 with
      | false => simp
      | true => cases y2 <;> simp [un2, (combG (op := op) (b := y1) (hsm rfl)).1]
open Classical in
theorem gtest_ok (hV : ∀ v ∈ s.Values, Small v) {t : GTest} (ht : TestOK (s.Values.length : Int) t) (h1 : SizeOf.sizeOf t.A < fu) (h2 : SizeOf.sizeOf t.B < fu) : ground_test_p fu s t = some (decide (testS cbG s.Values t)) := by
  obtain ⟨ho, ha, hb⟩ := ht
  unfold ground_test_p testS
  rw [gval_ok hV fu _ h1 ha, gval_ok hV fu _ h2 hb]
  simp only [Option.bind_some, un2]
  generalize valS cbG s.Values t.A = x
  generalize valS cbG s.Values t.B = y
  obtain ⟨x1, x2⟩ := x
  obtain ⟨y1, y2⟩ := y
  have hc : (bif (decide (t.Op = (⟨#[60]⟩ : ByteArray))) then ((decide (x1 < y1)) || (bif (decide (t.Op = (⟨#[60, 61]⟩ : ByteArray))) then ((decide (x1 ≤ y1)) || ((decide (t.Op = (⟨#[61]⟩ : ByteArray))) && decide (x1 = y1))) else ((decide (t.Op = (⟨#[61]⟩ : ByteArray))) && decide (x1 = y1)))) else (bif (decide (t.Op = (⟨#[60, 61]⟩ : ByteArray))) then ((decide (x1 ≤ y1)) || ((decide (t.Op = (⟨#[61]⟩ : ByteArray))) && decide (x1 = y1))) else ((decide (t.Op = (⟨#[61]⟩ : ByteArray))) && decide (x1 = y1)))) = decide (cmpS t.Op x1 y1) := by
    unfold cmpS
    rcases ho with h | h | h <;> rw [h] <;> simp
  simp only
  rw [hc]
  congr 1
  cases x2 <;> cases y2 <;> simp
/-! ### the search in an ascending list -/
theorem nan_t (x : Int) : cmp_isNaN_int__t x = false := by
  have := cmp_isNaN_int__tot x
  unfold cmp_isNaN_int__p at this
  have := Zu this
  rw [← this]; simp
theorem nan2_t (x : Int) : slices_isNaN_int__t x = false := by
  have := slices_isNaN_int__tot x
  unfold slices_isNaN_int__p at this
  have := Zu this
  rw [← this]; simp
theorem less_t (x y : Int) : cmp_Less_int__t x y = decide (x < y) := by
  have := cmp_Less_int__tot x y
  unfold cmp_Less_int__p at this
  have := Zu this
  rw [← this, nan_t]; rfl
open Classical in
theorem search_ok {l : List Int} {t : Int} (hp : l.Pairwise (· < ·)) (hl : l.length ≤ 4096) : ∃ n, slices_BinarySearch___int_int__p l t = some (n, decide (t ∈ l)) := by
  have hat : ∀ {i j : Nat} {x y : Int}, l[i]? = some x → l[j]? = some y → i < j → x < y := fun {i j x y} hx hy hij => by
    obtain ⟨hi, rfl⟩ := List.getElem?_eq_some_iff.1 hx
    obtain ⟨hj, rfl⟩ := List.getElem?_eq_some_iff.1 hy
    exact List.pairwise_iff_getElem.1 hp i j hi hj hij
  have : Ok (slices_BinarySearch___int_int__p l t) fun r => r.2 = decide (t ∈ l) := by
    unfold slices_BinarySearch___int_int__p
    refine Ok.while (fun q : Int × Int => ∃ i j : Nat, q = ((i : Int), (j : Int)) ∧ i ≤ j ∧ j ≤ l.length ∧ (∀ (k : Nat) x, k < i → l[k]? = some x → x < t) ∧ ∀ (k : Nat) x, j ≤ k → l[k]? = some x → t ≤ x)
      (fun q => ∃ i : Nat, q = ((i : Int), (i : Int)) ∧ i ≤ l.length ∧ (∀ (k : Nat) x, k < i → l[k]? = some x → x < t) ∧ ∀ (k : Nat) x, i ≤ k → l[k]? = some x → t ≤ x) (fun _ => False) (fun q => (q.2 - q.1).toNat)
      ⟨0, l.length, rfl, Nat.zero_le _, Nat.le_refl _, fun k x h => absurd h (Nat.not_lt_zero _), fun k x h hx => by have := (List.getElem?_eq_some_iff.1 hx).1; omega⟩ ?_ (fun _ h => h.elim) ?_
    · rintro q ⟨i, j, rfl, hij, hj, h1, h2⟩
      by_cases hlt : i < j
      · obtain ⟨x, hx⟩ := get_len (xs := l) (i := (i + j) / 2) (by omega)
        have hmid : IntKind.i64.wrap ((IntKind.u64.wrap (IntKind.i64.wrap ((i : Int) + (j : Int)))).fdiv (2 ^ 1)) = (((i + j) / 2 : Nat) : Int) := by
          rw [wrap_id (n := (i : Int) + (j : Int)) (by omega) (by omega)]
          have hu : IntKind.u64.wrap ((i : Int) + (j : Int)) = (i : Int) + (j : Int) := by
            unfold IntKind.wrap
            simp [IntKind.signed, IntKind.bits]
            omega
          rw [hu, Int.fdiv_eq_ediv_of_nonneg _ (by decide)]
          rw [wrap_id (by omega) (by omega)]
          omega
        simp only [un2]
        rw [if_pos (decide_eq_true (by omega)), hmid]
        simp only [idx_nat, hx, Option.bind_some, less_t]
        rw [wrap_id (n := (((i + j) / 2 : Nat) : Int) + 1) (by omega) (by omega)]
        by_cases hxt : x < t
        · rw [if_pos (decide_eq_true hxt)]
          refine ⟨.next ((((i + j) / 2 + 1 : Nat) : Int), (j : Int)), by simp [un2], fun s' e => ?_, fun s' e => (by cases e), fun r e => (by cases e)⟩
          cases e
          refine ⟨⟨(i + j) / 2 + 1, j, rfl, by omega, hj, fun k y hk hy => ?_, h2⟩, by simp only; omega⟩
          by_cases e : k = (i + j) / 2
          · subst e; rw [hx] at hy; cases hy; exact hxt
          · have := hat hy hx (by omega); omega
        · rw [if_neg (by simpa using hxt)]
          refine ⟨.next ((i : Int), (((i + j) / 2 : Nat) : Int)), by simp [un2], fun s' e => ?_, fun s' e => (by cases e), fun r e => (by cases e)⟩
          cases e
          refine ⟨⟨i, (i + j) / 2, rfl, by omega, by omega, h1, fun k y hk hy => ?_⟩, by simp only; omega⟩
          by_cases e : k = (i + j) / 2
          · subst e; rw [hx] at hy; cases hy; omega
          · have := hat hx hy (by omega); omega
      · obtain rfl : i = j := by omega
        refine ⟨.brk ((i : Int), (i : Int)), ?_, fun s' e => (by cases e), fun s' e => ?_, fun r e => (by cases e)⟩
        · simp only [un2]
          rw [if_neg (by simp)]
        · cases e
          exact ⟨i, rfl, hj, h1, h2⟩
    · rintro q ⟨i, rfl, hi, h1, h2⟩
      simp only [un2]
      by_cases hlt : i < l.length
      · obtain ⟨x, hx⟩ := get_len hlt
        rw [if_pos (decide_eq_true (by omega))]
        simp only [idx_nat, hx, Option.bind_some, nan2_t]
        by_cases e : x = t
        · subst e
          rw [decide_eq_true (List.mem_of_getElem? hx)]
          simp
          exact Ok.ret rfl
        · have hn : t ∉ l := fun hm => by
            obtain ⟨k, hk, hkt⟩ := List.getElem_of_mem hm
            have hk' : l[k]? = some t := by rw [← hkt]; exact List.getElem?_eq_getElem hk
            rcases Nat.lt_trichotomy k i with q | q | q
            · have := h1 k t q hk'; omega
            · subst q; rw [hx] at hk'; cases hk'; exact e rfl
            · have := hat hx hk' q
              have := h2 i x (Nat.le_refl _) hx
              omega
          rw [decide_eq_false hn]
          simp [e]
          exact Ok.ret rfl
      · rw [if_neg (by simp; omega)]
        have hn : t ∉ l := fun hm => by
          obtain ⟨k, hk, hkt⟩ := List.getElem_of_mem hm
          have hk' : l[k]? = some t := by rw [← hkt]; exact List.getElem?_eq_getElem hk
          have := h1 k t (by omega) hk'
          omega
        rw [decide_eq_false hn]
        exact Ok.ret rfl
  obtain ⟨⟨n, b⟩, h, rfl⟩ := this
  exact ⟨n, h⟩
end
end Go.Pw
/-
  The program's states, goals and next states, in plain Lean.
-/
set_option maxHeartbeats 8000000
namespace Go.Pw
section
variable {s : GState} {g : Ground} {fu : Nat}
open Classical in
theorem has_ok (hp : PropS g s) (hv : ValidG g) (i : Int) : ground_holds_c1_p i s = some (decide (i ∈ s.True)) := by
  unfold ground_holds_c1_p
  obtain ⟨n, h⟩ := search_ok (t := i) hp.t.pw (by have := hp.len; have := hv.a; omega)
  rw [h]; rfl
open Classical in
theorem gholds_ok {c : Cond} (hv : ValidG g) (hp : PropS g s) (hc : CondOK (g.Atoms.length : Int) (g.Fluents.length : Int) c) (hs : SizeOf.sizeOf c ≤ fu) : ground_holds_p fu s c = some (decide (holdS cbG s c)) := by
  obtain ⟨n1, e1, k1⟩ := find_ok (xs := c.Pos) (B := fun i100 => fun (_ : Unit) => (idx c.Pos (i100 : Int)).bind fun x100 => (ground_holds_c2_p x100 s).bind <| fun (y100 : Bool) => if y100 then (some (Ctl.ret (i100 : Int))) else (some (Ctl.next ()))) (f := fun i => decide (i ∉ s.True)) (by
    intro i x hx
    simp only [idx_nat, hx, Option.bind_some]
    unfold ground_holds_c2_p
    rw [has_ok hp hv]
    by_cases h : x ∈ s.True <;> simp [h])
  obtain ⟨n2, e2, k2⟩ := find_ok (xs := c.Neg) (B := fun i100 => fun (_ : Unit) => (idx c.Neg (i100 : Int)).bind fun x100 => (ground_holds_c1_p x100 s).bind <| fun (y100 : Bool) => if y100 then (some (Ctl.ret (i100 : Int))) else (some (Ctl.next ()))) (f := fun i => decide (i ∈ s.True)) (by
    intro i x hx
    simp only [idx_nat, hx, Option.bind_some]
    rw [has_ok hp hv]
    by_cases h : x ∈ s.True <;> simp [h])
  obtain ⟨n3, e3, k3⟩ := find_ok (xs := c.Tests) (B := fun i100 => fun (_ : Unit) => (idx c.Tests (i100 : Int)).bind fun x100 => (ground_holds_c3_p fu x100 s).bind <| fun (y100 : Bool) => if y100 then (some (Ctl.ret (i100 : Int))) else (some (Ctl.next ()))) (f := fun t => decide (¬ testS cbG s.Values t)) (by
    intro i t ht
    have hm := List.mem_of_getElem? ht
    have hz := test_size hm
    simp only [idx_nat, ht, Option.bind_some]
    unfold ground_holds_c3_p
    rw [gtest_ok (hp.small hv) (by rw [hp.l]; exact hc.t t hm) (by omega) (by omega)]
    by_cases h : testS cbG s.Values t <;> simp [h])
  have f1 : slices_ContainsFunc___int_int__f98_p c.Pos s = some (decide (0 ≤ n1)) := by
    unfold slices_ContainsFunc___int_int__f98_p slices_IndexFunc___int_int__f98_p
    rw [e1]; rfl
  have f2 : slices_ContainsFunc___int_int__f96_p c.Neg s = some (decide (0 ≤ n2)) := by
    unfold slices_ContainsFunc___int_int__f96_p slices_IndexFunc___int_int__f96_p
    rw [e2]; rfl
  have f3 : api_GTest__f100_p fu c.Tests s = some (decide (0 ≤ n3)) := by
    unfold api_GTest__f100_p api_GTest__f100_120_p
    rw [e3]; rfl
  unfold ground_holds_p
  rw [f1, f2, f3]
  simp only [decide_eq_true_eq] at k1 k2 k3
  have c1 : ¬ 0 ≤ n1 ↔ ∀ i ∈ c.Pos, i ∈ s.True := by rw [k1]; simp
  have c2 : ¬ 0 ≤ n2 ↔ ∀ i ∈ c.Neg, i ∉ s.True := by rw [k2]; simp
  have c3 : ¬ 0 ≤ n3 ↔ ∀ t ∈ c.Tests, testS cbG s.Values t := by rw [k3]; simp
  by_cases b1 : 0 ≤ n1
  · rw [decide_eq_false (fun h : holdS cbG s c => c1.2 h.1 b1)]; simp [b1]
  by_cases b2 : 0 ≤ n2
  · rw [decide_eq_false (fun h : holdS cbG s c => c2.2 h.2.1 b2)]; simp [b1, b2]
  by_cases b3 : 0 ≤ n3
  · rw [decide_eq_false (fun h : holdS cbG s c => c3.2 h.2.2 b3)]; simp [b1, b2, b3]
  rw [decide_eq_true (show holdS cbG s c from ⟨c1.1 b1, c2.1 b2, c3.1 b3⟩)]
  simp [b1, b2, b3]
theorem gproper_ok (hv : ValidG g) (hp : PropS g s) : ground_proper_p g s = some true := by
  unfold ground_proper_p
  have hlen := hp.len
  have hva := hv.a
  rw [hp.l, indices_ok _ _ (by omega)]
  simp only [decide_true, Bool.not_true, Bool.false_eq_true, if_false, hp.t, Option.bind_some]
  rw [← hp.l, ctl_forP (r := false) (fun _ => True)]
  · rw [if_pos (fun _ _ => trivial)]
  · intro i x hx
    obtain ⟨f, hf⟩ := get_len (xs := g.Fluents) (i := i) (by have := (List.getElem?_eq_some_iff.1 hx).1; rw [← hp.l]; exact this)
    have := hp.r i f x hf hx
    simp only [idx_nat, hx, hf, Option.bind_some]
    rw [if_neg (by simp; omega), decide_eq_false (by omega)]
    simp
open Classical in
theorem ggoal_ok (hv : ValidG g) (hl : LenG g) (hp : PropS g s) (hs : SizeOf.sizeOf g ≤ fu) : ground_Goal_p fu g s = some (decide (goalS cbG g s)) := by
  obtain ⟨n1, e1, k1⟩ := find_ok (xs := g.Goal) (B := fun i100 => fun (_ : Unit) => (idx g.Goal (i100 : Int)).bind fun x100 => (ground_Goal_c1_p fu x100 s).bind <| fun (y100 : Bool) => if y100 then (some (Ctl.ret (i100 : Int))) else (some (Ctl.next ()))) (f := fun c => decide (holdS cbG s c)) (by
    intro i c hc
    have hm := List.mem_of_getElem? hc
    have hz := goal_size hm
    simp only [idx_nat, hc, Option.bind_some]
    unfold ground_Goal_c1_p
    rw [gholds_ok hv hp (hv.goal c hm) (by omega)]
    by_cases h : holdS cbG s c <;> simp [h])
  unfold ground_Goal_p api_Cond__f73_p api_Cond__f73_88_p
  rw [valid_ok hl hs, gproper_ok hv hp, e1]
  simp only [hv, decide_true, if_true, Option.bind_some]
  congr 1
  refine decide_eq_decide.2 ?_
  rw [k1]
  unfold goalS
  simp
theorem ints_clone {l : List Int} (h : l.length * 8 ≤ 140737488355328) : slices_Clone___int_int__p l = some l := by
  unfold slices_Clone___int_int__p
  rw [app_ok (by simpa using h)]
  rfl
theorem ginit_ok (hv : ValidG g) (hl : LenG g) (hs : SizeOf.sizeOf g ≤ fu) : ground_Initial_p fu g = some (initS g) := by
  have h1 := hv.i.len_le
  have h2 := hv.a
  have h3 := hv.f
  apply Ok.eq
  unfold ground_Initial_p
  rw [valid_ok hl hs]
  simp only [hv, decide_true, Bool.not_true, Bool.false_eq_true, if_false, Option.bind_some]
  rw [ints_clone (by omega)]
  simp only [Option.bind_some]
  refine Ok.bind (Ok.forS (fun j (q : List Int) => q = (g.Fluents.take j).map fun f => f.Init) (by simp) ?_ ?_)
  · rintro j q hj rfl
    obtain ⟨f, hf⟩ := get_len hj
    have hle := List.length_take_le j g.Fluents
    simp only [idx_nat, hf, Option.bind_some]
    rw [app_ok (by rw [List.length_map]; simp only [List.length_cons, List.length_nil]; omega)]
    refine Ok.ret ?_
    rw [take_snoc hf, List.map_append]; rfl
  · rintro q rfl
    rw [List.take_length]
    exact Ok.ret rfl
open Classical in
theorem gassigned_ok {o : GOp} {i : Nat} (hv : ValidG g) (hl : LenG g) (hp : PropS g s) (hs : SizeOf.sizeOf g ≤ fu) (hi : g.Ops[i]? = some o) :
    ∃ e, ground_assigned_p fu g s (i : Int) = some (if canS cbG g s o then (newV cbG s.Values o.Assigns s.Values, none) else ([], some e)) := by
  have hm := List.mem_of_getElem? hi
  have hz := op_size hm
  have hpz := pre_size o
  have ho := hv.op o hm
  have hil := (List.getElem?_eq_some_iff.1 hi).1
  have hvf := hv.f
  have hpl := hp.l
  have : Ok (ground_assigned_p fu g s (i : Int)) fun r => ∃ e, r = if canS cbG g s o then (newV cbG s.Values o.Assigns s.Values, none) else ([], some e) := by
    unfold ground_assigned_p
    rw [valid_ok hl hs, gproper_ok hv hp]
    simp only [hv, decide_true, Bool.not_true, Bool.false_eq_true, if_false, Option.bind_some]
    rw [if_neg (by simp; omega)]
    simp only [idx_nat, hi, Option.bind_some]
    rw [gholds_ok hv hp ho.pre (by omega)]
    simp only [Option.bind_some]
    by_cases h1 : holdS cbG s o.Pre
    rotate_left
    · simp only [h1, decide_false, Bool.not_false, if_true]
      exact Ok.ret ⟨12, by rw [if_neg fun h => h1 h.1]⟩
    simp only [h1, decide_true, Bool.not_true, Bool.false_eq_true, if_false]
    rw [ints_clone (by omega)]
    simp only [Option.bind_some]
    refine Ok.ctl (fun j (q : List Int) => q = newV cbG s.Values (o.Assigns.take j) s.Values ∧ ∀ a ∈ o.Assigns.take j, (valS cbG s.Values a.Value).2 = true ∧ ∀ f, g.Fluents[a.Fluent.toNat]? = some f → f.Lo ≤ (valS cbG s.Values a.Value).1 ∧ (valS cbG s.Values a.Value).1 ≤ f.Hi)
      (fun r => r = ([], some 14) ∧ ¬ canS cbG g s o) ⟨by simp [newV], by simp⟩ ?_ ?_ ?_
    · rintro j q hj ⟨rfl, hall⟩
      obtain ⟨a, ha⟩ := get_len hj
      have ham := List.mem_of_getElem? ha
      have haz := value_size ham
      have hr := ass_rng ho.as ham
      have hln := newV_len (cb := cbG) s.Values (o.Assigns.take j) s.Values
      obtain ⟨x, hx⟩ := get_len (xs := newV cbG s.Values (o.Assigns.take j) s.Values) (i := a.Fluent.toNat) (by omega)
      obtain ⟨f, hf⟩ := get_len (xs := g.Fluents) (i := a.Fluent.toNat) (by omega)
      simp only [idx_nat, ha, Option.bind_some]
      rw [gval_ok (hp.small hv) fu a.Value (by omega) (by rw [hpl]; exact hr.2.2), idx_int hr.1, hf]
      simp only [Option.bind_some, un2]
      have hbad : (¬ ((valS cbG s.Values a.Value).2 = true ∧ f.Lo ≤ (valS cbG s.Values a.Value).1 ∧ (valS cbG s.Values a.Value).1 ≤ f.Hi)) → ¬ canS cbG g s o := fun h hc => h ⟨(hc.2 a ham).1, (hc.2 a ham).2 f hf⟩
      have hnew : newV cbG s.Values (o.Assigns.take (j + 1)) s.Values = (newV cbG s.Values (o.Assigns.take j) s.Values).set a.Fluent.toNat (valS cbG s.Values a.Value).1 := by
        rw [take_snoc ha]; unfold newV; rw [List.foldl_append]; rfl
      rw [hnew]
      have hmem : ∀ b, b ∈ o.Assigns.take (j + 1) ↔ b ∈ o.Assigns.take j ∨ b = a := fun b => by rw [take_snoc ha]; simp
      generalize hval : valS cbG s.Values a.Value = v at hbad
      obtain ⟨v1, v2⟩ := v
      simp only at hbad
      cases v2 with
      | false =>
        simp only [Bool.not_false, if_true, Option.bind_some]
        exact Ok.ret ⟨rfl, hbad (by simp)⟩
      | true =>
        simp only [Bool.not_true, Bool.false_eq_true, if_false]
        by_cases h3 : v1 < f.Lo
        · rw [if_pos (decide_eq_true h3)]
          exact Ok.ret ⟨rfl, hbad (by simp; omega)⟩
        · rw [if_neg (by simpa using h3)]
          by_cases h4 : f.Hi < v1
          · simp only [h4, decide_true, Option.bind_some, if_true]
            exact Ok.ret ⟨rfl, hbad (by simp; omega)⟩
          · simp only [h4, decide_false, Option.bind_some, Bool.false_eq_true, if_false]
            rw [idx_int hr.1, hx, setI_int hr.1 (by omega)]
            refine Ok.ret ⟨rfl, fun b hb => ?_⟩
            rcases (hmem b).1 hb with hb | rfl
            · exact hall b hb
            · rw [hval]
              refine ⟨rfl, fun f' hf' => ?_⟩
              rw [hf] at hf'; cases hf'
              exact ⟨by simp only; omega, by simp only; omega⟩
    · rintro r ⟨rfl, hn⟩
      exact Ok.ret ⟨14, by rw [if_neg hn]⟩
    · rintro q ⟨rfl, hall⟩
      rw [List.take_length] at hall
      refine Ok.ret ⟨0, ?_⟩
      rw [if_pos (show canS cbG g s o from ⟨h1, hall⟩), List.take_length]
  obtain ⟨r, h, e, rfl⟩ := this
  exact ⟨e, h⟩
open Classical in
theorem gapply_ok {o : GOp} {i : Nat} (hv : ValidG g) (hl : LenG g) (hp : PropS g s) (hs : SizeOf.sizeOf g ≤ fu) (hi : g.Ops[i]? = some o) :
    ∃ e, ground_Apply_p fu g s (i : Int) = some (if canS cbG g s o then (none, nextS cbG g.Atoms.length s o) else (some e, ⟨[], []⟩)) := by
  have hm := List.mem_of_getElem? hi
  have hz := op_size hm
  have ho := hv.op o hm
  have hva := hv.a
  have hnc := ho.nc
  obtain ⟨e, he⟩ := gassigned_ok hv hl hp hs hi
  refine ⟨e, ?_⟩
  apply Ok.eq
  unfold ground_Apply_p
  rw [he]
  simp only [Option.bind_some]
  by_cases hc : canS cbG g s o
  rotate_left
  · rw [if_neg hc, if_neg hc]
    simp only [un2, Option.isSome_some, if_true]
    exact Ok.ret rfl
  rw [if_pos hc, if_pos hc]
  simp only [un2, Option.isSome_none, Bool.false_eq_true, if_false, idx_nat, hi, Option.bind_some]
  have good : ∀ {m : BMap} {j : Nat} {b : Bool} {a : Int}, i64ok a → m.length ≤ j → j < 256 + 1 →
      (∀ f : Int, (bget m f = some true ↔ ∃ c ∈ o.Changes.take j, c.Atom = f ∧ c.Add = b ∧ holdS cbG s c.When) ∧ (bget m f).getD false = (bget m f).isSome) → bmapGet m a = some (decide (∃ c ∈ o.Changes.take j, c.Atom = a ∧ c.Add = b ∧ holdS cbG s c.When)) := by
    intro m j b a hok _ _ h
    unfold bmapGet
    rw [if_pos hok]
    congr 1
    obtain ⟨h1, h2⟩ := h a
    by_cases q : ∃ c ∈ o.Changes.take j, c.Atom = a ∧ c.Add = b ∧ holdS cbG s c.When
    · rw [decide_eq_true q, h1.2 q]; rfl
    · rw [decide_eq_false q]
      cases hb : bget m a with
      | none => rfl
      | some v =>
        cases v with
        | false => rfl
        | true => exact absurd (h1.1 hb) q
  refine Ok.bind (Ok.forS (fun j (q : BMap × BMap) => (q.1.length ≤ j ∧ ∀ f : Int, (bget q.1 f = some true ↔ ∃ c ∈ o.Changes.take j, c.Atom = f ∧ c.Add = true ∧ holdS cbG s c.When) ∧ (bget q.1 f).getD false = (bget q.1 f).isSome) ∧
      q.2.length ≤ j ∧ ∀ f : Int, (bget q.2 f = some true ↔ ∃ c ∈ o.Changes.take j, c.Atom = f ∧ c.Add = false ∧ holdS cbG s c.When) ∧ (bget q.2 f).getD false = (bget q.2 f).isSome)
    ⟨⟨by simp, fun f => ⟨by simp [bget], rfl⟩⟩, by simp, fun f => ⟨by simp [bget], rfl⟩⟩ ?_ ?_)
  · rintro j ⟨m1, m2⟩ hj ⟨⟨l1, h1⟩, l2, h2⟩
    simp only at l1 h1 l2 h2
    obtain ⟨c, hcj⟩ := get_len hj
    have hcm := List.mem_of_getElem? hcj
    have hcz := when_size hcm
    have hC := ho.chg c hcm
    have hok : i64ok c.Atom := ⟨by have := hC.r0; omega, by have := hC.r1; omega⟩
    have hsn : ∀ (b : Bool) (f : Int), (∃ x ∈ o.Changes.take (j + 1), x.Atom = f ∧ x.Add = b ∧ holdS cbG s x.When) ↔ (∃ x ∈ o.Changes.take j, x.Atom = f ∧ x.Add = b ∧ holdS cbG s x.When) ∨ (c.Atom = f ∧ c.Add = b ∧ holdS cbG s c.When) := by
      intro b f
      rw [take_snoc hcj]
      constructor
      · rintro ⟨x, hx, q⟩
        rcases List.mem_append.1 hx with hx | hx
        · exact .inl ⟨x, hx, q⟩
        · simp only [List.mem_singleton] at hx; subst hx; exact .inr q
      · rintro (⟨x, hx, q⟩ | q)
        · exact ⟨x, by simp [hx], q⟩
        · exact ⟨c, by simp, q⟩
    have keepm : ∀ {m : BMap} {b : Bool}, m.length ≤ j → (∀ f : Int, (bget m f = some true ↔ ∃ c ∈ o.Changes.take j, c.Atom = f ∧ c.Add = b ∧ holdS cbG s c.When) ∧ (bget m f).getD false = (bget m f).isSome) → ¬ (c.Add = b ∧ holdS cbG s c.When) →
        m.length ≤ j + 1 ∧ ∀ f : Int, (bget m f = some true ↔ ∃ c ∈ o.Changes.take (j + 1), c.Atom = f ∧ c.Add = b ∧ holdS cbG s c.When) ∧ (bget m f).getD false = (bget m f).isSome := by
      intro m b hlm hm hn
      refine ⟨by omega, fun f => ⟨?_, (hm f).2⟩⟩
      rw [hsn, (hm f).1]
      exact ⟨.inl, fun h => h.elim id fun q => absurd q.2 hn⟩
    have putm : ∀ {m : BMap} {b : Bool}, m.length ≤ j → (∀ f : Int, (bget m f = some true ↔ ∃ c ∈ o.Changes.take j, c.Atom = f ∧ c.Add = b ∧ holdS cbG s c.When) ∧ (bget m f).getD false = (bget m f).isSome) → c.Add = b → holdS cbG s c.When →
        bmapPut m c.Atom true = some (bput m c.Atom true) ∧ (bput m c.Atom true).length ≤ j + 1 ∧ ∀ f : Int, (bget (bput m c.Atom true) f = some true ↔ ∃ c ∈ o.Changes.take (j + 1), c.Atom = f ∧ c.Add = b ∧ holdS cbG s c.When) ∧ (bget (bput m c.Atom true) f).getD false = (bget (bput m c.Atom true) f).isSome := by
      intro m b hlm hm hb hh
      refine ⟨?_, ?_, fun f => ⟨?_, ?_⟩⟩
      · unfold bmapPut
        rw [if_pos ⟨hok, by show m.length < 9223372036854775807; omega⟩]
      · rw [bput_length]; split <;> omega
      · rw [bget_put, hsn]
        by_cases e : c.Atom = f
        · rw [if_pos e]; exact ⟨fun _ => .inr ⟨e, hb, hh⟩, fun _ => rfl⟩
        · rw [if_neg e, (hm f).1]; exact ⟨.inl, fun h => h.elim id fun q => absurd q.1 e⟩
      · rw [bget_put]
        by_cases e : c.Atom = f
        · rw [if_pos e]; rfl
        · rw [if_neg e]; exact (hm f).2
    simp only [un2, idx_nat, hcj, Option.bind_some]
    rw [gholds_ok hv hp hC.w (by omega)]
    simp only [Option.bind_some]
    by_cases hh : holdS cbG s c.When
    · simp only [hh, decide_true, Bool.not_true, Bool.false_eq_true, if_false]
      cases hadd : c.Add with
      | true =>
        obtain ⟨p1, p2, p3⟩ := putm l1 h1 hadd hh
        simp only [if_true, p1, Option.bind_some]
        refine Ok.ret ⟨⟨p2, p3⟩, ?_⟩
        exact keepm l2 h2 (by rw [hadd]; simp)
      | false =>
        obtain ⟨p1, p2, p3⟩ := putm l2 h2 hadd hh
        simp only [Bool.false_eq_true, if_false, p1, Option.bind_some]
        refine Ok.ret ⟨?_, p2, p3⟩
        exact keepm l1 h1 (by rw [hadd]; simp)
    · simp only [hh, decide_false, Bool.not_false, if_true]
      exact Ok.ret ⟨keepm l1 h1 fun q => hh q.2, keepm l2 h2 fun q => hh q.2⟩
  · rintro ⟨m1, m2⟩ ⟨⟨l1, h1⟩, l2, h2⟩
    simp only at l1 h1 l2 h2
    simp only [un2]
    refine Ok.bind (Ok.forS (fun j (q : List Int) => q = ((idL g.Atoms.length).take j).filter fun i => decide (isS cbG s o i)) (by simp) ?_ ?_)
    · rintro j q hj rfl
      have hok : i64ok (j : Int) := ⟨by omega, by omega⟩
      obtain ⟨n, hn⟩ := search_ok (t := (j : Int)) hp.t.pw (by have := hp.len; omega)
      have g1 := good (b := true) hok l1 (by omega) h1
      have g2 := good (b := false) hok l2 (by omega) h2
      rw [List.take_length] at g1 g2
      rw [hn, g1, g2]
      simp only [Option.bind_some, un2]
      have hk := take_snoc (idL_get hj)
      have hlen := List.length_filter_le (fun i => decide (isS cbG s o i)) ((idL g.Atoms.length).take j)
      have hlt := List.length_take_le j (idL g.Atoms.length)
      rw [hk, List.filter_append]
      have hz : (if decide (∃ c ∈ o.Changes, c.Atom = (j : Int) ∧ c.Add = true ∧ holdS cbG s c.When) = true then some true else (if decide ((j : Int) ∈ s.True) = true then some (!decide (∃ c ∈ o.Changes, c.Atom = (j : Int) ∧ c.Add = false ∧ holdS cbG s c.When)) else some false)) = some (decide (isS cbG s o (j : Int))) := by
        unfold isS
        by_cases e1 : ∃ c ∈ o.Changes, c.Atom = (j : Int) ∧ c.Add = true ∧ holdS cbG s c.When
        · simp [e1]
        · by_cases e2 : (j : Int) ∈ s.True
          · by_cases e3 : ∃ c ∈ o.Changes, c.Atom = (j : Int) ∧ c.Add = false ∧ holdS cbG s c.When
            · simp [e1, e2, e3]
            · simp [e1, e2, e3]
          · simp [e1, e2]
      rw [hz]
      simp only [Option.bind_some]
      by_cases e : isS cbG s o (j : Int)
      · simp only [e, decide_true, if_true]
        rw [app_ok (by simp only [List.length_cons, List.length_nil]; omega)]
        refine Ok.ret ?_
        simp [e]
      · simp only [e, decide_false, Bool.false_eq_true, if_false, Option.bind_some]
        refine Ok.ret ?_
        simp [e]
    · rintro q rfl
      rw [List.take_of_length_le (by rw [idL_len]; exact Nat.le_refl _)]
      exact Ok.ret rfl
open Classical in
theorem project_ok {A F : List Bool} {O : List Int} (hv : ValidG g) (hp : PropS g s) (la : A.length = g.Atoms.length) (lf : F.length = g.Fluents.length) : law19_project_p s ⟨numF A, numF F, O⟩ = some (piS A F s) := by
  have hva := hv.a
  have hvf := hv.f
  have hlen := hp.len
  have hpl := hp.l
  unfold law19_project_p
  simp only [numF_len]
  rw [while_run (fun j => ((j : Int), initTo A s.True j)) A.length (by
    have : s.True.filter (fun x => decide (x < ((0 : Nat) : Int))) = [] := by
      rw [List.filter_eq_nil_iff]; intro y hy; have := (hp.t.rng hy).1; simp; omega
    simp only [initTo, this]; rfl)]
  rotate_left
  · intro j hj
    have hst := initTo_succ (A := A) hp.t j
    have c2 := initTo_le A s.True j
    have hi : (numF A)[j]? = some (at0 (numF A) (j : Int)) := by
      have := idx_at (l := numF A) (i := (j : Int)) (by omega) (by rw [numF_len]; omega)
      rwa [idx_nat] at this
    simp only [un2]
    rw [if_pos (decide_eq_true (by omega)), hst, wrap_succ hj (by omega)]
    simp only [idx_nat, hi, Option.bind_some]
    rw [in_ok (by omega)]
    simp only [Option.bind_some]
    by_cases h0 : 0 ≤ at0 (numF A) (j : Int)
    · rw [if_pos (decide_eq_true h0)]
      by_cases hin : (j : Int) ∈ s.True
      · simp only [hin, decide_true, Option.bind_some, if_true]
        rw [app_ok (by simp only [List.length_cons, List.length_nil]; omega)]
        simp [h0]
      · simp [hin]
    · rw [if_neg (by simpa using h0)]
      simp
      intro _
      omega
  · simp only [un2]
    rw [if_neg (by simp)]
  simp only [un2]
  rw [while_run (fun j => ((j : Int), keepTo F s.Values j)) F.length (by simp [keepTo])]
  rotate_left
  · intro j hj
    obtain ⟨x, hx⟩ := get_len (xs := s.Values) (i := j) (by omega)
    have c1 := keepTo_le F s.Values j
    have hmk := at0_mk (A := F) (i := (j : Int)) (by omega) (by omega)
    rw [mk_nat'] at hmk
    have hi : (numF F)[j]? = some (at0 (numF F) (j : Int)) := by
      have := idx_at (l := numF F) (i := (j : Int)) (by omega) (by rw [numF_len]; omega)
      rwa [idx_nat] at this
    simp only [un2]
    rw [if_pos (by simp; omega), wrap_succ hj (by omega), keepTo_succ hx]
    simp only [idx_nat, hi, hx, Option.bind_some]
    by_cases h0 : 0 ≤ at0 (numF F) (j : Int)
    · rw [if_pos (decide_eq_true h0), if_pos (hmk.1 h0), app_ok (by simp only [List.length_cons, List.length_nil]; omega)]
      rfl
    · rw [if_neg (by simpa using h0), if_neg (fun q => h0 (hmk.2 q))]
      simp
  · simp only [un2]
    rw [if_neg (by simp)]
  simp only [un2]
  have hI : initTo A s.True A.length = (piS A F s).True := by
    have hf : s.True.filter (fun x => decide (x < (A.length : Int))) = s.True := List.filter_eq_self.2 fun x hx => decide_eq_true (by rw [la]; exact (hp.t.rng hx).2)
    unfold initTo piS
    rw [hf]
  have hk := keepTo_len F s.Values
  rw [hI, show F.length = s.Values.length by omega, hk]
  rfl
end
end Go.Pw
/-
  SimplifyFollows, in plain Lean.
-/
set_option maxHeartbeats 8000000
namespace Go.Pw
section
variable {s t u : GState} {g h : Ground} {fu : Nat} {A F : List Bool}
theorem PropS.lens (hv : ValidG g) (hp : PropS g s) : s.True.length ≤ 4096 ∧ s.Values.length ≤ 4096 := by
  have h1 := hp.len
  have h2 := hp.l
  have h3 := hv.a
  have h4 := hv.f
  omega
open Classical in
theorem replaced_ok {cost : Int} (hv : ValidG h) (hl : LenG h) (hp : PropS h t) (hs : SizeOf.sizeOf h ≤ fu) (hex : ∃ (k : Nat) (y : GOp), h.Ops[k]? = some y ∧ canS cbG h t y ∧ y.Cost ≤ cost ∧ nextS cbG h.Atoms.length t y = u) :
    law19_replaced_p fu h t u cost = some true := by
  unfold law19_replaced_p
  rw [while_all (r := true) (n := h.Ops.length) (p := fun k => decide (¬ ∃ y, h.Ops[k]? = some y ∧ canS cbG h t y ∧ y.Cost ≤ cost ∧ nextS cbG h.Atoms.length t y = u))]
  · rw [if_neg]
    obtain ⟨k, y, hk, r⟩ := hex
    intro hall
    exact (of_decide_eq_true (List.all_eq_true.1 hall k (List.mem_range.2 (List.getElem?_eq_some_iff.1 hk).1))) ⟨y, hk, r⟩
  · intro k hk
    obtain ⟨y, hy⟩ := get_len hk
    obtain ⟨e, he⟩ := gapply_ok hv hl hp hs hy
    have hO := hv.op y (List.mem_of_getElem? hy)
    rw [if_pos (lt_len hy), he, wrap_succ hk hl.o]
    have hiff : (∃ y', h.Ops[k]? = some y' ∧ canS cbG h t y' ∧ y'.Cost ≤ cost ∧ nextS cbG h.Atoms.length t y' = u) ↔ canS cbG h t y ∧ y.Cost ≤ cost ∧ nextS cbG h.Atoms.length t y = u := by
      constructor
      · rintro ⟨y', h1, r⟩
        rw [hy] at h1; cases h1
        exact r
      · intro r; exact ⟨y, hy, r⟩
    simp only [hiff, Option.bind_some]
    by_cases hc : canS cbG h t y
    · have hpn := next_prop hO hp hc
      have hln := hpn.lens hv
      rw [if_pos hc]
      simp only [un2, Option.isNone_none, if_true, idx_nat, hy, Option.bind_some]
      rw [rstate_ok (by omega) (by omega)]
      by_cases h1 : y.Cost ≤ cost
      · by_cases h2 : nextS cbG h.Atoms.length t y = u
        · simp [h1, h2, hc]
        · simp [h1, h2, hc]
      · simp [h1, hc]
    · rw [if_neg hc]
      simp [un2, hc]
  · rw [if_neg (not_lt_len _)]
/-- What one operator of the task does, seen in the simplified one. -/
theorem follow_touch {i : Nat} {o : GOp} (hv : ValidG g) (hL : Least g A F) (hp : PropS g s) (hi : g.Ops[i]? = some o) (hT : Touch (Mk A) (Mk F) o) :
    (canS cbG (simpG A F g) (piS A F s) (mapO (at0 (numF A)) (at0 (numF F)) o) ↔ canS cbG g s o) ∧ (canS cbG g s o → nextS cbG (simpG A F g).Atoms.length (piS A F s) (mapO (at0 (numF A)) (at0 (numF F)) o) = piS A F (nextS cbG g.Atoms.length s o)) := by
  have hm := List.mem_of_getElem? hi
  exact ⟨can_map hL hp (hv.op o hm) hT (hL.c.2 o hm), fun hc => next_map hL hp (hv.op o hm) hc hT (hL.c.2 o hm)⟩
theorem pi_prop (hv : ValidG g) (hL : Least g A F) (hp : PropS g s) : PropS (simpG A F g) (piS A F s) := by
  have la : (simpG A F g).Atoms.length = cnt A := keepA_len hL
  have lf : (simpG A F g).Fluents.length = cnt F := keepF_len hL
  have hlv : s.Values.length = F.length := by rw [hp.l, hL.lf]
  refine ⟨?_, by rw [lf]; exact keep_count hlv, fun i f v hf hvv => ?_⟩
  · rw [la]
    refine asc_map (hp.t.pw.sublist List.filter_sublist) fun x hx => ?_
    obtain ⟨hx1, hx2⟩ := List.mem_filter.1 hx
    have := hp.t.rng hx1
    exact (at0_mk this.1 (by rw [hL.la]; exact this.2)).1 (of_decide_eq_true hx2)
  · obtain ⟨j, hj, hjf, hjc⟩ := keep_at (by rw [hL.lf]) hf
    obtain ⟨k, hk, hkv, hkc⟩ := keep_at hlv hvv
    have : j = k := cnt_take_inj hj hk (by omega)
    subst this
    exact hp.r j f v hjf hkv
open Classical in
theorem simplifyFollows_ok {picks : List Int} (hl : LenG g) (hr : RoomT g) (hpk : ∀ x ∈ picks, 0 ≤ x ∧ x < 256) : ∃ fu, law19_SimplifyFollows_p fu g picks = some true := by
  obtain ⟨st, hs1⟩ : ∃ s : simplify_sets, ValidG g → Least g s.atoms s.fluents := by
    by_cases hv : ValidG g
    · obtain ⟨s, _, h⟩ := mrelevant_ok hv (Nat.le_refl _)
      exact ⟨s, fun _ => h⟩
    · exact ⟨⟨[], [], false⟩, fun h => absurd h hv⟩
  obtain ⟨A, F, zz⟩ := st
  simp only at hs1
  refine ⟨fuelOf A F g, ?_⟩
  have hs : SizeOf.sizeOf g ≤ fuelOf A F g := by unfold fuelOf; omega
  have hs2 : SizeOf.sizeOf (simpG A F g) ≤ fuelOf A F g := by unfold fuelOf; omega
  apply Ok.eq
  unfold law19_SimplifyFollows_p
  obtain ⟨b, hb, _⟩ := large_ok (fu := fuelOf A F g) hl hs
  rw [hb, awake_ok]
  simp only [Option.bind_some]
  cases b with
  | true => simp only [if_true, Option.bind_some]; exact Ok.ret rfl
  | false =>
    simp only [Bool.false_eq_true, if_false]
    by_cases h12 : 12 < (g.Ops.length : Int)
    · simp only [h12, decide_true, if_true, Option.bind_some]; exact Ok.ret rfl
    rw [if_neg (by simpa using h12)]
    by_cases h20 : 20 < (picks.length : Int)
    · simp only [h20, decide_true, if_true, Option.bind_some]; exact Ok.ret rfl
    rw [if_neg (by simpa using h20)]
    simp only [Bool.not_true, Option.bind_some, Bool.false_eq_true, if_false]
    by_cases hv : ValidG g
    rotate_left
    · rw [simplify_no hv hl hs, valid_ok hl hs]
      simp only [Option.bind_some, un3, Option.isSome_some, if_true, hv, decide_false, Bool.not_false]
      exact Ok.ret rfl
    have hL := hs1 hv
    have la := hL.la
    have lf := hL.lf
    have hv2 := valid_simp hv hL
    have hl2 : LenG (simpG A F g) := lenG_simp hl
    have lM : (mapL A F g).length = g.Ops.length := by simp [mapL]
    have lS : (staL A F g).length = g.Ops.length := by unfold staL; rw [stayL_len, lM]
    rw [simplify_ok hv hl hr hs hL fuel_map]
    simp only [Option.bind_some, un3, Option.isSome_none, Bool.false_eq_true, if_false]
    rw [if_neg (by simp [numF_len, la, lf, lS])]
    rw [ginit_ok hv hl hs, ginit_ok hv2 hl2 hs2]
    simp only [Option.bind_some]
    have hpi := init_prop hv
    have hpi2 := init_prop hv2
    rw [project_ok hv hpi la lf]
    simp only [Option.bind_some]
    have hpp := pi_prop hv hL hpi
    rw [rstate_ok (by have := hpp.lens hv2; omega) (by have := hpp.lens hv2; omega), pi_init]
    simp only [decide_true, Option.bind_some, Bool.not_true, Bool.false_eq_true, if_false]
    refine Ok.while (fun q : Int × List Int × List Int => ∃ i : Nat, q.1 = (i : Int) ∧ i ≤ picks.length + 1 ∧ PropS g ⟨q.2.1, q.2.2⟩) (fun _ => True) (fun _ => False) (fun q => picks.length + 1 - q.1.toNat) ⟨0, rfl, Nat.zero_le _, hpi⟩ ?_ (fun _ h => h.elim) (fun _ _ => Ok.ret rfl)
    rintro ⟨ii, T, V⟩ ⟨i, hie, hile, hp⟩
    simp only at hie hp
    subst hie
    simp only [un3]
    by_cases hi : i ≤ picks.length
    rotate_left
    · rw [if_neg (by simp; omega)]
      exact ⟨_, rfl, fun s' e => (by cases e), fun s' e => trivial, fun r e => (by cases e)⟩
    rw [if_pos (decide_eq_true (by omega))]
    generalize hst : (⟨T, V⟩ : GState) = s at hp
    have hp2 := pi_prop hv hL hp
    have hlen2 := hp2.lens hv2
    rw [project_ok hv hp la lf]
    simp only [Option.bind_some]
    rw [ggoal_ok hv hl hp hs, ggoal_ok hv2 hl2 hp2 hs2]
    simp only [Option.bind_some]
    simp only [goal_map (cb := cbG) hv hL hp]
    simp only [BEq.rfl, Bool.not_true, Bool.false_eq_true, if_false]
    have inner : Ok (ctl (whileC (R := (Bool)) (un2 fun (can100 : (List Int)) (op100 : Int) => if decide (op100 < (g.Ops.length : Int)) then ((ground_Apply_p (fuelOf A F g) g s op100).bind <| un2 fun (y114 : (Option Int)) (y115 : GState) =>
        (if y114.isNone then ((app 8 can100 [op100]).bind fun l100 =>
        some l100)
        else (some can100)).bind (fun (l101 : (List Int)) => (idx (numF (staL A F g)) op100).bind fun x100 =>
        if decide (0 ≤ x100) then ((ground_Apply_p (fuelOf A F g) (simpG A F g) (piS A F s) x100).bind <| un2 fun (y116 : (Option Int)) (y117 : GState) =>
        (if decide (((simpG A F g).Ops.length : Int) ≤ x100) then (some true)
        else (if !(y114.isNone == y116.isNone) then (some true)
        else (if y114.isNone then ((law19_project_p y115 (⟨numF A, numF F, numF (staL A F g)⟩ : simplify_Map)).bind <| fun (y118 : GState) =>
        (ref18_SameState_p y118 y117).bind <| fun (y119 : Bool) =>
        if !y119 then (some true)
        else ((idx (simpG A F g).Ops x100).bind fun x101 =>
        (idx g.Ops op100).bind fun x102 =>
        if !decide (x101.Cost = x102.Cost) then (some true)
        else (some (!decide (x101.Name = x102.Name)))))
        else (some false)))).bind (fun (z103 : Bool) => if z103 then (some (Ctl.ret false))
        else (some (Ctl.next (l101, IntKind.i64.wrap (op100 + 1))))))
        else ((if y114.isNone then ((law19_project_p y115 (⟨numF A, numF F, numF (staL A F g)⟩ : simplify_Map)).bind <| fun (y120 : GState) =>
        (ref18_SameState_p y120 (piS A F s)).bind <| fun (y121 : Bool) =>
        if !y121 then ((idx g.Ops op100).bind fun x103 =>
        (law19_replaced_p (fuelOf A F g) (simpG A F g) (piS A F s) y120 x103.Cost).bind <| fun (y122 : Bool) =>
        some (!y122))
        else (some false))
        else (some false)).bind (fun (z104 : Bool) => if z104 then (some (Ctl.ret false))
        else (some (Ctl.next (l101, IntKind.i64.wrap (op100 + 1))))))))
        else (some (Ctl.brk (can100, op100)))) ([], 0)) (fun r => some (Ctl.ret r)) (un2 fun (can101 : (List Int)) (op101 : Int) => if ((decide ((can101.length : Int) = 0)) || decide ((i : Int) = (picks.length : Int))) then (some (Ctl.brk ((i : Int), T, V)))
        else ((idx picks (i : Int)).bind fun x104 =>
        (must (!decide ((can101.length : Int) = 0))).bind fun u100 =>
        (idx can101 ((IntKind.i64.wrap x104).tmod (can101.length : Int))).bind fun x105 =>
        (ground_Apply_p (fuelOf A F g) g s x105).bind <| un2 fun (y123 : (Option Int)) (y124 : GState) =>
        if y123.isSome then (some (Ctl.ret false))
        else (some (Ctl.next (IntKind.i64.wrap ((i : Int) + 1), y124.True, y124.Values))))))
        fun c => c = .brk ((i : Int), T, V) ∨ ∃ n : GState, c = .next (((i + 1 : Nat) : Int), n.True, n.Values) ∧ PropS g n := by
      refine Ok.whileM g.Ops.length (fun j (can : List Int) => can.length ≤ j ∧ ∀ x ∈ can, ∃ (k : Nat) (o : GOp), x = (k : Int) ∧ g.Ops[k]? = some o ∧ canS cbG g s o) (fun q => ∀ x ∈ q.1, ∃ (k : Nat) (o : GOp), x = (k : Int) ∧ g.Ops[k]? = some o ∧ canS cbG g s o) (fun _ => False) ⟨by simp, by simp⟩ ?_ (fun _ h => h.elim) ?_
      · rintro j can hj ⟨c1, c2⟩
        simp only [un2]
        by_cases hlt : j < g.Ops.length
        rotate_left
        · rw [if_neg (by simp; omega)]
          exact Ok.ret c2
        obtain ⟨o, ho⟩ := get_len hlt
        have hO := hv.op o (List.mem_of_getElem? ho)
        obtain ⟨e, he⟩ := gapply_ok hv hl hp hs ho
        rw [if_pos (lt_len ho), he]
        simp only [Option.bind_some]
        have hnum := numF_get (A := staL A F g) (i := j) (by omega)
        have hopl : (simpG A F g).Ops.length = cnt (staL A F g) := keep_count (by rw [lS, lM])
        have hS := stayL_get (T := touL A F g) (M := mapL A F g) (i := j) (by omega)
        have hcanT : canS cbG g s o → (if (none : Option Int).isNone = true then ((app 8 can [(j : Int)]).bind fun l100 => some l100) else some can) = some (if canS cbG g s o then can ++ [(j : Int)] else can) := fun hc => by
          rw [if_pos hc, if_pos (show (none : Option Int).isNone = true from rfl), app_ok (by simp; omega)]; rfl
        have hcanF : ¬ canS cbG g s o → (if (some e : Option Int).isNone = true then ((app 8 can [(j : Int)]).bind fun l100 => some l100) else some can) = some (if canS cbG g s o then can ++ [(j : Int)] else can) := fun hc => by
          rw [if_neg hc]; rfl
        have hfin : (if canS cbG g s o then can ++ [(j : Int)] else can).length ≤ j + 1 ∧ ∀ x ∈ (if canS cbG g s o then can ++ [(j : Int)] else can), ∃ (k : Nat) (o : GOp), x = (k : Int) ∧ g.Ops[k]? = some o ∧ canS cbG g s o := by
          by_cases hc : canS cbG g s o
          · rw [if_pos hc]
            refine ⟨by simp; omega, fun x hx => ?_⟩
            rcases List.mem_append.1 hx with hx | hx
            · exact c2 x hx
            · simp only [List.mem_singleton] at hx
              exact ⟨j, o, hx, ho, hc⟩
          · rw [if_neg hc]
            exact ⟨by omega, c2⟩
        rw [wrap_succ hlt hl.o]
        generalize hCan : (if canS cbG g s o then can ++ [(j : Int)] else can) = can2 at hfin hcanT hcanF
        by_cases hc : canS cbG g s o
        · have hpn := next_prop hO hp hc
          have hpn2 := pi_prop hv hL hpn
          have hlpn := hpn2.lens hv2
          rw [if_pos hc]
          simp only [un2]
          rw [hcanT hc]
          simp only [Option.bind_some]
          by_cases hst2 : (staL A F g)[j]? = some true
          · -- it stays
            have hT := (tou_get ho).1 (hS.1 hst2).1
            obtain ⟨f1, f2⟩ := follow_touch hv hL hp ho hT
            have hy := keep_get (S := staL A F g) (xs := mapL A F g) (by rw [lS, lM]) hst2 (map_get ho)
            have hkl := (List.getElem?_eq_some_iff.1 hy).1
            obtain ⟨e2, he2⟩ := gapply_ok (g := simpG A F g) hv2 hl2 hp2 hs2 hy
            rw [if_pos (f1.2 hc), f2 hc] at he2
            rw [idx_nat, hnum, if_pos hst2]
            simp only [Option.bind_some]
            rw [if_pos (by simp), he2]
            simp only [Option.bind_some, un2]
            rw [if_neg (by simp; exact hkl)]
            simp only [Option.isNone_none, BEq.rfl, Bool.not_true, Bool.false_eq_true, if_false, if_true]
            rw [project_ok hv hpn la lf]
            simp only [Option.bind_some]
            rw [rstate_ok (by omega) (by omega), idx_nat]
            have hy' : (simpG A F g).Ops[cnt ((staL A F g).take j)]? = some (mapO (at0 (numF A)) (at0 (numF F)) o) := hy
            simp only [decide_true, Bool.not_true, Bool.false_eq_true, if_false, Option.bind_some, hy', idx_nat, ho]
            rw [decide_eq_true (show (mapO (at0 (numF A)) (at0 (numF F)) o).Cost = o.Cost from rfl), decide_eq_true (show (mapO (at0 (numF A)) (at0 (numF F)) o).Name = o.Name from rfl)]
            exact Ok.ret ⟨hlt, rfl, hfin⟩
          · rw [idx_nat, hnum, if_neg hst2]
            simp only [Option.bind_some]
            rw [if_neg (by decide)]
            simp only [Option.isNone_none, if_true]
            rw [project_ok hv hpn la lf]
            simp only [Option.bind_some]
            rw [rstate_ok (by omega) (by omega)]
            simp only [Option.bind_some]
            by_cases hsame : piS A F (nextS cbG g.Atoms.length s o) = piS A F s
            · simp only [hsame, decide_true, Bool.not_true, Bool.false_eq_true, if_false, Option.bind_some]
              exact Ok.ret ⟨hlt, rfl, hfin⟩
            · simp only [hsame, decide_false, Bool.not_false, if_true, idx_nat, ho, Option.bind_some]
              have hT : Touch (Mk A) (Mk F) o := Classical.byContradiction fun hn => hsame (next_skip hL hp hO hn)
              obtain ⟨f1, f2⟩ := follow_touch hv hL hp ho hT
              obtain ⟨k, y, hk, ha, hcost⟩ := stays_at (A := A) (F := F) hv ho hT
              rw [replaced_ok hv2 hl2 hp2 hs2 ⟨k, y, hk, (can_alike ha).1 (f1.2 hc), hcost, by rw [← next_alike ha]; exact f2 hc⟩]
              exact Ok.ret ⟨hlt, rfl, hfin⟩
        · rw [if_neg hc]
          simp only [un2]
          rw [hcanF hc]
          simp only [Option.bind_some]
          by_cases hst2 : (staL A F g)[j]? = some true
          · have hT := (tou_get ho).1 (hS.1 hst2).1
            obtain ⟨f1, f2⟩ := follow_touch hv hL hp ho hT
            have hy := keep_get (S := staL A F g) (xs := mapL A F g) (by rw [lS, lM]) hst2 (map_get ho)
            have hkl := (List.getElem?_eq_some_iff.1 hy).1
            obtain ⟨e2, he2⟩ := gapply_ok (g := simpG A F g) hv2 hl2 hp2 hs2 hy
            rw [if_neg (fun q => hc (f1.1 q))] at he2
            rw [idx_nat, hnum, if_pos hst2]
            simp only [Option.bind_some]
            rw [if_pos (by simp), he2]
            simp only [Option.bind_some, un2]
            rw [if_neg (by simp; exact hkl)]
            simp only [Option.isNone_some, BEq.rfl, Bool.not_true, Bool.false_eq_true, if_false, Option.bind_some]
            exact Ok.ret ⟨hlt, rfl, hfin⟩
          · rw [idx_nat, hnum, if_neg hst2]
            simp only [Option.bind_some]
            rw [if_neg (by decide)]
            simp only [Option.isNone_some, Bool.false_eq_true, if_false, Option.bind_some]
            exact Ok.ret ⟨hlt, rfl, hfin⟩
      · rintro ⟨can, op⟩ hcanl
        simp only at hcanl
        simp only [un2]
        by_cases hend : (decide ((can.length : Int) = 0) || decide ((i : Int) = (picks.length : Int))) = true
        · rw [if_pos hend]
          exact Ok.ret (.inl rfl)
        · rw [if_neg hend]
          simp only [Bool.or_eq_true, decide_eq_true_eq, not_or] at hend
          obtain ⟨x, hx⟩ := get_len (xs := picks) (i := i) (by omega)
          obtain ⟨x0, x1⟩ := hpk x (List.mem_of_getElem? hx)
          have hn : 0 < (can.length : Int) := by omega
          have ht0 : 0 ≤ x.tmod (can.length : Int) := Int.tmod_nonneg _ x0
          have ht1 : x.tmod (can.length : Int) < (can.length : Int) := Int.tmod_lt_of_pos _ hn
          obtain ⟨y, hy⟩ := get_len (xs := can) (i := (x.tmod (can.length : Int)).toNat) (by omega)
          obtain ⟨k, o, rfl, hk, hc⟩ := hcanl y (List.mem_of_getElem? hy)
          have hO := hv.op o (List.mem_of_getElem? hk)
          obtain ⟨e, he⟩ := gapply_ok hv hl hp hs hk
          rw [if_pos hc] at he
          rw [idx_nat, hx]
          simp only [Option.bind_some]
          rw [show must (!decide ((can.length : Int) = 0)) = some () by rw [decide_eq_false (by omega)]; rfl, wrap_id (n := x) (by omega) (by omega), idx_int ht0, hy]
          simp only [Option.bind_some]
          rw [he]
          simp only [Option.bind_some, un2, Option.isSome_none, Bool.false_eq_true, if_false]
          exact Ok.ret (.inr ⟨_, by rw [wrap_succ (show i < picks.length by omega) (by omega)], next_prop hO hp hc⟩)
    obtain ⟨c, hc, hcases⟩ := inner
    refine ⟨c, hc, fun s' e => ?_, fun s' e => trivial, fun r e => ?_⟩
    · subst e
      rcases hcases with q | ⟨n, q, hn⟩
      · cases q
      · cases q
        exact ⟨⟨i + 1, rfl, by omega, hn⟩, by simp only; omega⟩
    · subst e
      rcases hcases with q | ⟨n, q, _⟩ <;> cases q
end
end Go.Pw
