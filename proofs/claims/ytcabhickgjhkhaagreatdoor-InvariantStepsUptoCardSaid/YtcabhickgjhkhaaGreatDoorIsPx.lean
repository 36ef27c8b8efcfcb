/-
  What a ground task means (states, conditions, next states), in plain Lean.
-/
import Derived.Test.YtcabhickgjhkhaaGreatDoorIsPy
import Derived.Lib.ItoaLen
set_option maxHeartbeats 8000000
set_option linter.unusedSimpArgs false
set_option linter.unusedVariables false
namespace Go.Pw
def idL (n : Nat) : List Int := (List.range n).map fun (i : Nat) => (i : Int)
theorem idL_get {n i : Nat} (h : i < n) : (idL n)[i]? = some (i : Int) := by unfold idL; rw [List.getElem?_map, List.getElem?_range h]; rfl
theorem idL_len (n : Nat) : (idL n).length = n := by simp [idL]
theorem idL_pw (n : Nat) : (idL n).Pairwise (· < ·) := by
  unfold idL
  refine List.pairwise_map.2 (List.pairwise_lt_range.imp fun h => by omega)
theorem idL_mem {n : Nat} {i : Int} : i ∈ idL n ↔ 0 ≤ i ∧ i < (n : Int) := by
  unfold idL
  rw [List.mem_map]
  constructor
  · rintro ⟨k, hk, rfl⟩
    have := List.mem_range.1 hk
    omega
  · rintro ⟨h0, h1⟩
    exact ⟨i.toNat, List.mem_range.2 (by omega), by omega⟩
theorem setI_int {α : Type} {xs : List α} {i : Int} {y : α} (h0 : 0 ≤ i) (h1 : i < (xs.length : Int)) : setI xs i y = some (xs.set i.toNat y) := by
  obtain ⟨n, rfl⟩ := Int.eq_ofNat_of_zero_le h0
  rw [setI_nat (by omega)]; simp
theorem idx_int {α : Type} {xs : List α} {i : Int} (h0 : 0 ≤ i) : idx xs i = xs[i.toNat]? := by unfold idx; rw [if_pos h0]
theorem asc_of_pw {l : List Int} {n : Int} (h : l.Pairwise (· < ·)) (hr : ∀ x ∈ l, 0 ≤ x ∧ x < n) : Asc l n := fun i x hx =>
  ⟨(hr x (List.mem_of_getElem? hx)).1, (hr x (List.mem_of_getElem? hx)).2, fun y h0 hy => by
    obtain ⟨hi, rfl⟩ := List.getElem?_eq_some_iff.1 hx
    obtain ⟨hi', rfl⟩ := List.getElem?_eq_some_iff.1 hy
    exact List.pairwise_iff_getElem.1 h (i - 1) i hi' hi (by omega)⟩
theorem ass_rng {nf : Int} {o : GOp} (h : ∀ j, AssAt nf o.Assigns j) {a : GAssign} (ha : a ∈ o.Assigns) : 0 ≤ a.Fluent ∧ a.Fluent < nf ∧ RE nf a.Value := by
  obtain ⟨i, hi, rfl⟩ := List.getElem_of_mem ha
  have := h i _ (List.getElem?_eq_getElem hi)
  exact ⟨this.1, this.2.1, this.2.2.2⟩
section
variable (cb : ByteArray → Int → Int → Int × Bool)
mutual
def valS (V : List Int) : GExpr → Int × Bool
  | ⟨op, N, ks⟩ => if op = sNum then (N, true) else if op = sFlu then ((V[N.toNat]?).getD 0, true) else
    match valsS V ks with
    | [x, y] => if x.2 = true ∧ y.2 = true then cb op x.1 y.1 else (0, false)
    | _ => (0, false)
def valsS (V : List Int) : List GExpr → List (Int × Bool)
  | [] => []
  | k :: ks => valS V k :: valsS V ks
end
def cmpS (op : ByteArray) (x y : Int) : Prop := op = sLt1 ∧ x < y ∨ op = sLe1 ∧ x ≤ y ∨ op = sEq1 ∧ x = y
def testS (V : List Int) (t : GTest) : Prop := (valS cb V t.A).2 = true ∧ (valS cb V t.B).2 = true ∧ cmpS t.Op (valS cb V t.A).1 (valS cb V t.B).1
def holdS (s : GState) (c : Cond) : Prop := (∀ i ∈ c.Pos, i ∈ s.True) ∧ (∀ i ∈ c.Neg, i ∉ s.True) ∧ ∀ t ∈ c.Tests, testS cb s.Values t
def canS (g : Ground) (s : GState) (o : GOp) : Prop := holdS cb s o.Pre ∧ ∀ a ∈ o.Assigns, (valS cb s.Values a.Value).2 = true ∧ ∀ f, g.Fluents[a.Fluent.toNat]? = some f → f.Lo ≤ (valS cb s.Values a.Value).1 ∧ (valS cb s.Values a.Value).1 ≤ f.Hi
def isS (s : GState) (o : GOp) (i : Int) : Prop := (∃ c ∈ o.Changes, c.Atom = i ∧ c.Add = true ∧ holdS cb s c.When) ∨ (i ∈ s.True ∧ ¬ ∃ c ∈ o.Changes, c.Atom = i ∧ c.Add = false ∧ holdS cb s c.When)
def newV (V0 : List Int) (l : List GAssign) (V : List Int) : List Int := l.foldl (fun V a => V.set a.Fluent.toNat (valS cb V0 a.Value).1) V
open Classical in
noncomputable def nextS (n : Nat) (s : GState) (o : GOp) : GState := ⟨(idL n).filter fun i => decide (isS cb s o i), newV cb s.Values o.Assigns s.Values⟩
def initS (g : Ground) : GState := ⟨g.Init, g.Fluents.map fun f => f.Init⟩
structure PropS (g : Ground) (s : GState) : Prop where
  t : Asc s.True (g.Atoms.length : Int)
  l : s.Values.length = g.Fluents.length
  r : ∀ (i : Nat) f v, g.Fluents[i]? = some f → s.Values[i]? = some v → f.Lo ≤ v ∧ v ≤ f.Hi
theorem valS_bin {V : List Int} {op : ByteArray} {a b : GExpr} (ho : op = sAdd ∨ op = sSub ∨ op = sMul) : valS cb V ⟨op, 0, [a, b]⟩ = if (valS cb V a).2 = true ∧ (valS cb V b).2 = true then cb op (valS cb V a).1 (valS cb V b).1 else (0, false) := by
  have h1 : op ≠ sNum := by rcases ho with h | h | h <;> subst h <;> simp
  have h2 : op ≠ sFlu := by rcases ho with h | h | h <;> subst h <;> simp
  rw [valS, if_neg h1, if_neg h2]
  simp only [valsS]
end
section
variable {cb : ByteArray → Int → Int → Int × Bool} {g : Ground} {s : GState}
theorem newV_len (V0 : List Int) : ∀ (l : List GAssign) (V : List Int), (newV cb V0 l V).length = V.length
  | [], V => rfl
  | a :: l, V => by
    unfold newV
    rw [List.foldl_cons]
    have := newV_len V0 l (V.set a.Fluent.toNat (valS cb V0 a.Value).1)
    unfold newV at this
    rw [this, List.length_set]
theorem PropS.len (hs : PropS g s) : s.True.length ≤ g.Atoms.length := hs.t.len_le
end
end Go.Pw
/-
  The program's values and tests compute what a ground task means, in plain Lean.
-/
set_option maxHeartbeats 8000000
namespace Go.Pw
def Small (n : Int) : Prop := -1099511627776 ≤ n ∧ n ≤ 1099511627776
theorem combG_some {op : ByteArray} {a b : Int} (ha : Small a) : ∃ r, ground_combine_p op a b = some r ∧ (r.2 = true → Small r.1) := by
  have key : ∀ n : Int, ∃ z, (if decide ((-1099511627776) ≤ n) = true then (some (decide (n ≤ 1099511627776))) else (some false)) = some z ∧ (z = true → Small n) := by
    intro n
    by_cases h1 : -1099511627776 ≤ n
    · rw [if_pos (decide_eq_true h1)]
      exact ⟨_, rfl, fun h => ⟨h1, of_decide_eq_true h⟩⟩
    · rw [if_neg (by simpa using h1)]
      exact ⟨_, rfl, fun h => by cases h⟩
  unfold ground_combine_p
  by_cases h1 : op = ⟨#[43]⟩
  · rw [if_pos (decide_eq_true h1)]
    obtain ⟨z, e, h⟩ := key (IntKind.i64.wrap (a + b))
    rw [e]
    exact ⟨_, rfl, h⟩
  · rw [if_neg (by simpa using h1)]
    by_cases h2 : op = ⟨#[45]⟩
    · rw [if_pos (decide_eq_true h2)]
      obtain ⟨z, e, h⟩ := key (IntKind.i64.wrap (a - b))
      rw [e]
      exact ⟨_, rfl, h⟩
    · rw [if_neg (by simpa using h2)]
      obtain ⟨z, e, h⟩ := key (IntKind.i64.wrap (a * b))
      rw [e]
      have hc : ∃ q, (if (!decide (a = 0)) = true then ((must (!decide ((max a (IntKind.i64.wrap (0 - a))) = 0))).bind fun u100 => some (decide ((IntKind.i64.wrap ((1099511627776 : Int).tdiv (max a (IntKind.i64.wrap (0 - a))))) < (max b (IntKind.i64.wrap (0 - b)))))) else (some false)) = some q := by
        by_cases h0 : a = 0
        · rw [if_neg (by simp [h0])]; exact ⟨_, rfl⟩
        · rw [if_pos (by simp [h0])]
          obtain ⟨a1, a2⟩ := ha
          rw [wrap_id (n := 0 - a) (by omega) (by omega), show must (!decide (max a (0 - a) = 0)) = some () by rw [decide_eq_false (by omega)]; rfl]
          exact ⟨_, rfl⟩
      obtain ⟨q, eq⟩ := hc
      rw [eq]
      cases q with
      | true => exact ⟨_, rfl, fun h => by cases h⟩
      | false => exact ⟨_, rfl, h⟩
noncomputable def cbG (op : ByteArray) (a b : Int) : Int × Bool := (ground_combine_p op a b).getD (0, false)
theorem combG {op : ByteArray} {a b : Int} (ha : Small a) : ground_combine_p op a b = some (cbG op a b) ∧ ((cbG op a b).2 = true → Small (cbG op a b).1) := by
  obtain ⟨r, h, k⟩ := combG_some (op := op) (b := b) ha
  unfold cbG
  rw [h]
  exact ⟨rfl, k⟩
section
variable {s : GState} {g : Ground} {fu : Nat}
theorem val_small {n : Int} {V : List Int} (hV : ∀ v ∈ V, Small v) (hn : n ≤ (V.length : Int)) {e : GExpr} (h : RE n e) : (valS cbG V e).2 = true → Small (valS cbG V e).1 := by
  induction h with
  | num a b => intro _; simp only [valS, if_true]; exact ⟨a, b⟩
  | @flu N a b =>
    intro _
    obtain ⟨x, hx⟩ := get_len (xs := V) (i := N.toNat) (by omega)
    rw [valS, if_neg (by simp), if_pos rfl, hx]
    exact hV x (List.mem_of_getElem? hx)
  | bin ho ha hb iha ihb =>
    rw [valS_bin cbG ho]
    split
    · rename_i hh
      exact (combG (iha hh.1)).2
    · intro h; cases h
theorem PropS.small (hv : ValidG g) (hp : PropS g s) : ∀ v ∈ s.Values, Small v := fun v hm => by
  obtain ⟨i, hi, rfl⟩ := List.getElem_of_mem hm
  obtain ⟨f, hf⟩ := get_len (xs := g.Fluents) (i := i) (by rw [← hp.l]; exact hi)
  have h1 := hp.r i f _ hf (List.getElem?_eq_getElem hi)
  have h2 := hv.flu f (List.mem_of_getElem? hf)
  obtain ⟨a, _, _, b, _⟩ := h2
  exact ⟨by omega, by omega⟩
theorem gval_ok (hV : ∀ v ∈ s.Values, Small v) : ∀ (fu : Nat) (e : GExpr), SizeOf.sizeOf e < fu → RE (s.Values.length : Int) e → ground_value_p fu s e = some (valS cbG s.Values e)
  | 0, e, h, _ => absurd h (Nat.not_lt_zero _)
  | fu + 1, e, h, hr => by
    cases hr with
    | num a b => rw [ground_value_p]; simp [valS]
    | flu a b =>
      rename_i N
      rw [ground_value_p]
      simp only
      rw [if_neg (by simp), if_pos (by simp), idx_int a]
      obtain ⟨x, hx⟩ := get_len (xs := s.Values) (i := N.toNat) (by omega)
      rw [valS, if_neg (by simp), if_pos rfl, hx]
      rfl
    | @bin op a b ho ha hb =>
      have sa := kid_size (e := ⟨op, 0, [a, b]⟩) (k := a) (by simp)
      have sb := kid_size (e := ⟨op, 0, [a, b]⟩) (k := b) (by simp)
      have hsm := val_small hV (Int.le_refl _) ha
      rw [ground_value_p, valS_bin cbG ho]
      simp only
      rw [if_neg (by rcases ho with h | h | h <;> subst h <;> simp), if_neg (by rcases ho with h | h | h <;> subst h <;> simp)]
      rw [show idx [a, b] 0 = some a from rfl, show idx [a, b] 1 = some b from rfl]
      simp only [Option.bind_some]
      rw [gval_ok hV fu a (by omega) ha, gval_ok hV fu b (by omega) hb]
      simp only [Option.bind_some, un2]
      generalize valS cbG s.Values a = x at hsm
      generalize valS cbG s.Values b = y
      obtain ⟨x1, x2⟩ := x
      obtain ⟨y1, y2⟩ := y
      cases x2 with
      | false => simp
      | true => cases y2 <;> simp [un2, (combG (op := op) (b := y1) (hsm rfl)).1]
open Classical in
theorem gtest_ok (hV : ∀ v ∈ s.Values, Small v) {t : GTest} (ht : TestOK (s.Values.length : Int) t) (h1 : SizeOf.sizeOf t.A < fu) (h2 : SizeOf.sizeOf t.B < fu) : ground_test_p fu s t = some (decide (testS cbG s.Values t)) := by
  obtain ⟨ho, ha, hb⟩ := ht
  unfold ground_test_p testS
  rw [gval_ok hV fu _ h1 ha, gval_ok hV fu _ h2 hb]
  simp only [Option.bind_some, un2]
  generalize valS cbG s.Values t.A = x
  generalize valS cbG s.Values t.B = y
  obtain ⟨x1, x2⟩ := x
  obtain ⟨y1, y2⟩ := y
  have hc : (bif (decide (t.Op = (⟨#[60]⟩ : ByteArray))) then ((decide (x1 < y1)) || (bif (decide (t.Op = (⟨#[60, 61]⟩ : ByteArray))) then ((decide (x1 ≤ y1)) || ((decide (t.Op = (⟨#[61]⟩ : ByteArray))) && decide (x1 = y1))) else ((decide (t.Op = (⟨#[61]⟩ : ByteArray))) && decide (x1 = y1)))) else (bif (decide (t.Op = (⟨#[60, 61]⟩ : ByteArray))) then ((decide (x1 ≤ y1)) || ((decide (t.Op = (⟨#[61]⟩ : ByteArray))) && decide (x1 = y1))) else ((decide (t.Op = (⟨#[61]⟩ : ByteArray))) && decide (x1 = y1)))) = decide (cmpS t.Op x1 y1) := by
    unfold cmpS
    rcases ho with h | h | h <;> rw [h] <;> simp
  simp only
  rw [hc]
  congr 1
  cases x2 <;> cases y2 <;> simp
end
end Go.Pw
/-
  The program's states and next states, in plain Lean.
-/
set_option maxHeartbeats 8000000
namespace Go.Pw
section
variable {s : GState} {g : Ground} {fu : Nat}
open Classical in
theorem ghas_ok (hp : PropS g s) (hv : ValidG g) (i : Int) : ground_holds_c1_p i s = some (decide (i ∈ s.True)) := by
  unfold ground_holds_c1_p
  obtain ⟨n, h⟩ := bs_asc (t := i) hp.t.pw (by have := hp.len; have := hv.a; omega)
  rw [h]; rfl
open Classical in
theorem gholds_ok {c : Cond} (hv : ValidG g) (hp : PropS g s) (hc : CondOK (g.Atoms.length : Int) (g.Fluents.length : Int) c) (hs : SizeOf.sizeOf c ≤ fu) : ground_holds_p fu s c = some (decide (holdS cbG s c)) := by
  obtain ⟨n1, e1, k1⟩ := find_ok (xs := c.Pos) (B := fun i100 => fun (_ : Unit) => (idx c.Pos (i100 : Int)).bind fun x100 => (ground_holds_c2_p x100 s).bind <| fun (y100 : Bool) => if y100 then (some (Ctl.ret (i100 : Int))) else (some (Ctl.next ()))) (f := fun i => decide (i ∉ s.True)) (by
    intro i x hx
    simp only [idx_nat, hx, Option.bind_some]
    unfold ground_holds_c2_p
    rw [ghas_ok hp hv]
    by_cases h : x ∈ s.True <;> simp [h])
  obtain ⟨n2, e2, k2⟩ := find_ok (xs := c.Neg) (B := fun i100 => fun (_ : Unit) => (idx c.Neg (i100 : Int)).bind fun x100 => (ground_holds_c1_p x100 s).bind <| fun (y100 : Bool) => if y100 then (some (Ctl.ret (i100 : Int))) else (some (Ctl.next ()))) (f := fun i => decide (i ∈ s.True)) (by
    intro i x hx
    simp only [idx_nat, hx, Option.bind_some]
    rw [ghas_ok hp hv]
    by_cases h : x ∈ s.True <;> simp [h])
  obtain ⟨n3, e3, k3⟩ := find_ok (xs := c.Tests) (B := fun i100 => fun (_ : Unit) => (idx c.Tests (i100 : Int)).bind fun x100 => (ground_holds_c3_p fu x100 s).bind <| fun (y100 : Bool) => if y100 then (some (Ctl.ret (i100 : Int))) else (some (Ctl.next ()))) (f := fun t => decide (¬ testS cbG s.Values t)) (by
    intro i t ht
    have hm := List.mem_of_getElem? ht
    have hz := test_size hm
    simp only [idx_nat, ht, Option.bind_some]
    unfold ground_holds_c3_p
    rw [gtest_ok (hp.small hv) (by rw [hp.l]; exact hc.t t hm) (by omega) (by omega)]
    by_cases h : testS cbG s.Values t <;> simp [h])
  have f1 : slices_ContainsFunc_int_holds_c2_p c.Pos s = some (decide (0 ≤ n1)) := by
    unfold slices_ContainsFunc_int_holds_c2_p slices_IndexFunc_int_holds_c2_p
    rw [e1]; rfl
  have f2 : slices_ContainsFunc_int_holds_c1_p c.Neg s = some (decide (0 ≤ n2)) := by
    unfold slices_ContainsFunc_int_holds_c1_p slices_IndexFunc_int_holds_c1_p
    rw [e2]; rfl
  have f3 : slices_ContainsFunc_apiGTest_holds_c3_p fu c.Tests s = some (decide (0 ≤ n3)) := by
    unfold slices_ContainsFunc_apiGTest_holds_c3_p slices_IndexFunc_apiGTest_holds_c3_p
    rw [e3]; rfl
  unfold ground_holds_p
  rw [f1, f2, f3]
  simp only [decide_eq_true_eq] at k1 k2 k3
  have c1 : ¬ 0 ≤ n1 ↔ ∀ i ∈ c.Pos, i ∈ s.True := by rw [k1]; simp
  have c2 : ¬ 0 ≤ n2 ↔ ∀ i ∈ c.Neg, i ∉ s.True := by rw [k2]; simp
  have c3 : ¬ 0 ≤ n3 ↔ ∀ t ∈ c.Tests, testS cbG s.Values t := by rw [k3]; simp
  by_cases b1 : 0 ≤ n1
  · rw [decide_eq_false (fun h : holdS cbG s c => c1.2 h.1 b1)]; simp [b1]
  by_cases b2 : 0 ≤ n2
  · rw [decide_eq_false (fun h : holdS cbG s c => c2.2 h.2.1 b2)]; simp [b1, b2]
  by_cases b3 : 0 ≤ n3
  · rw [decide_eq_false (fun h : holdS cbG s c => c3.2 h.2.2 b3)]; simp [b1, b2, b3]
  rw [decide_eq_true (show holdS cbG s c from ⟨c1.1 b1, c2.1 b2, c3.1 b3⟩)]
  simp [b1, b2, b3]
theorem gproper_ok (hv : ValidG g) (hp : PropS g s) : ground_proper_p g s = some true := by
  unfold ground_proper_p
  have hlen := hp.len
  have hva := hv.a
  rw [hp.l, indices_ok _ _ (by omega)]
  simp only [decide_true, Bool.not_true, Bool.false_eq_true, if_false, hp.t, Option.bind_some]
  rw [← hp.l, ctl_forP (r := false) (fun _ => True)]
  · rw [if_pos (fun _ _ => trivial)]
  · intro i x hx
    obtain ⟨f, hf⟩ := get_len (xs := g.Fluents) (i := i) (by have := (List.getElem?_eq_some_iff.1 hx).1; rw [← hp.l]; exact this)
    have := hp.r i f x hf hx
    simp only [idx_nat, hx, hf, Option.bind_some]
    rw [if_neg (by simp; omega), decide_eq_false (by omega)]
    simp
theorem ints_clone {l : List Int} (h : l.length * 8 ≤ 140737488355328) : slices_Clone_int_p l = some l := by
  unfold slices_Clone_int_p
  rw [app_ok (by simpa using h)]
  rfl
open Classical in
theorem gassigned_ok {o : GOp} {i : Nat} (hv : ValidG g) (hl : LenG g) (hp : PropS g s) (hs : SizeOf.sizeOf g ≤ fu) (hi : g.Ops[i]? = some o) :
    ∃ e, ground_assigned_p fu g s (i : Int) = some (if canS cbG g s o then (newV cbG s.Values o.Assigns s.Values, none) else ([], some e)) := by
  have hm := List.mem_of_getElem? hi
  have hz := op_size hm
  have hpz := pre_size o
  have ho := hv.op o hm
  have hil := (List.getElem?_eq_some_iff.1 hi).1
  have hvf := hv.f
  have hpl := hp.l
  have : Ok (ground_assigned_p fu g s (i : Int)) fun r => ∃ e, r = if canS cbG g s o then (newV cbG s.Values o.Assigns s.Values, none) else ([], some e) := by
    unfold ground_assigned_p
    rw [valid_ok hl hs, gproper_ok hv hp]
    simp only [hv, decide_true, Bool.not_true, Bool.false_eq_true, if_false, Option.bind_some]
    rw [if_neg (by simp; omega)]
    simp only [idx_nat, hi, Option.bind_some]
    rw [gholds_ok hv hp ho.pre (by omega)]
    simp only [Option.bind_some]
    by_cases h1 : holdS cbG s o.Pre
    rotate_left
    · simp only [h1, decide_false, Bool.not_false, if_true]
      exact Ok.ret ⟨12, by rw [if_neg fun h => h1 h.1]⟩
    simp only [h1, decide_true, Bool.not_true, Bool.false_eq_true, if_false]
    rw [ints_clone (by omega)]
    simp only [Option.bind_some]
    refine Ok.ctl (fun j (q : List Int) => q = newV cbG s.Values (o.Assigns.take j) s.Values ∧ ∀ a ∈ o.Assigns.take j, (valS cbG s.Values a.Value).2 = true ∧ ∀ f, g.Fluents[a.Fluent.toNat]? = some f → f.Lo ≤ (valS cbG s.Values a.Value).1 ∧ (valS cbG s.Values a.Value).1 ≤ f.Hi)
      (fun r => r = ([], some 14) ∧ ¬ canS cbG g s o) ⟨by simp [newV], by simp⟩ ?_ ?_ ?_
    · rintro j q hj ⟨rfl, hall⟩
      obtain ⟨a, ha⟩ := get_len hj
      have ham := List.mem_of_getElem? ha
      have haz := value_size ham
      have hr := ass_rng ho.asg ham
      have hln := newV_len (cb := cbG) s.Values (o.Assigns.take j) s.Values
      obtain ⟨x, hx⟩ := get_len (xs := newV cbG s.Values (o.Assigns.take j) s.Values) (i := a.Fluent.toNat) (by omega)
      obtain ⟨f, hf⟩ := get_len (xs := g.Fluents) (i := a.Fluent.toNat) (by omega)
      simp only [idx_nat, ha, Option.bind_some]
      rw [gval_ok (hp.small hv) fu a.Value (by omega) (by rw [hpl]; exact hr.2.2), idx_int hr.1, hf]
      simp only [Option.bind_some, un2]
      have hbad : (¬ ((valS cbG s.Values a.Value).2 = true ∧ f.Lo ≤ (valS cbG s.Values a.Value).1 ∧ (valS cbG s.Values a.Value).1 ≤ f.Hi)) → ¬ canS cbG g s o := fun h hc => h ⟨(hc.2 a ham).1, (hc.2 a ham).2 f hf⟩
      have hnew : newV cbG s.Values (o.Assigns.take (j + 1)) s.Values = (newV cbG s.Values (o.Assigns.take j) s.Values).set a.Fluent.toNat (valS cbG s.Values a.Value).1 := by
        rw [take_snoc ha]; unfold newV; rw [List.foldl_append]; rfl
      rw [hnew]
      have hmem : ∀ b, b ∈ o.Assigns.take (j + 1) ↔ b ∈ o.Assigns.take j ∨ b = a := fun b => by rw [take_snoc ha]; simp
      generalize hval : valS cbG s.Values a.Value = v at hbad
      obtain ⟨v1, v2⟩ := v
      simp only at hbad
      cases v2 with
      | false =>
        simp only [Bool.not_false, if_true, Option.bind_some]
        exact Ok.ret ⟨rfl, hbad (by simp)⟩
      | true =>
        simp only [Bool.not_true, Bool.false_eq_true, if_false]
        by_cases h3 : v1 < f.Lo
        · rw [if_pos (decide_eq_true h3)]
          exact Ok.ret ⟨rfl, hbad (by simp; omega)⟩
        · rw [if_neg (by simpa using h3)]
          by_cases h4 : f.Hi < v1
          · simp only [h4, decide_true, Option.bind_some, if_true]
            exact Ok.ret ⟨rfl, hbad (by simp; omega)⟩
          · simp only [h4, decide_false, Option.bind_some, Bool.false_eq_true, if_false]
            rw [idx_int hr.1, hx, setI_int hr.1 (by omega)]
            refine Ok.ret ⟨rfl, fun b hb => ?_⟩
            rcases (hmem b).1 hb with hb | rfl
            · exact hall b hb
            · rw [hval]
              refine ⟨rfl, fun f' hf' => ?_⟩
              rw [hf] at hf'; cases hf'
              exact ⟨by simp only; omega, by simp only; omega⟩
    · rintro r ⟨rfl, hn⟩
      exact Ok.ret ⟨14, by rw [if_neg hn]⟩
    · rintro q ⟨rfl, hall⟩
      rw [List.take_length] at hall
      refine Ok.ret ⟨0, ?_⟩
      rw [if_pos (show canS cbG g s o from ⟨h1, hall⟩), List.take_length]
  obtain ⟨r, h, e, rfl⟩ := this
  exact ⟨e, h⟩
open Classical in
theorem gapply_ok {o : GOp} {i : Nat} (hv : ValidG g) (hl : LenG g) (hp : PropS g s) (hs : SizeOf.sizeOf g ≤ fu) (hi : g.Ops[i]? = some o) :
    ∃ e, ground_Apply_p fu g s (i : Int) = some (if canS cbG g s o then (none, nextS cbG g.Atoms.length s o) else (some e, ⟨[], []⟩)) := by
  have hm := List.mem_of_getElem? hi
  have hz := op_size hm
  have ho := hv.op o hm
  have hva := hv.a
  have hnc := ho.nc
  obtain ⟨e, he⟩ := gassigned_ok hv hl hp hs hi
  refine ⟨e, ?_⟩
  apply Ok.eq
  unfold ground_Apply_p
  rw [he]
  simp only [Option.bind_some]
  by_cases hc : canS cbG g s o
  rotate_left
  · rw [if_neg hc, if_neg hc]
    simp only [un2, Option.isSome_some, if_true]
    exact Ok.ret rfl
  rw [if_pos hc, if_pos hc]
  simp only [un2, Option.isSome_none, Bool.false_eq_true, if_false, idx_nat, hi, Option.bind_some]
  have good : ∀ {m : BMap} {j : Nat} {b : Bool} {a : Int}, i64ok a → m.length ≤ j → j < 256 + 1 →
      (∀ f : Int, (bget m f = some true ↔ ∃ c ∈ o.Changes.take j, c.Atom = f ∧ c.Add = b ∧ holdS cbG s c.When) ∧ (bget m f).getD false = (bget m f).isSome) → bmapGet m a = some (decide (∃ c ∈ o.Changes.take j, c.Atom = a ∧ c.Add = b ∧ holdS cbG s c.When)) := by
    intro m j b a hok _ _ h
    unfold bmapGet
    rw [if_pos hok]
    congr 1
    obtain ⟨h1, h2⟩ := h a
    by_cases q : ∃ c ∈ o.Changes.take j, c.Atom = a ∧ c.Add = b ∧ holdS cbG s c.When
    · rw [decide_eq_true q, h1.2 q]; rfl
    · rw [decide_eq_false q]
      cases hb : bget m a with
      | none => rfl
      | some v =>
        cases v with
        | false => rfl
        | true => exact absurd (h1.1 hb) q
  refine Ok.bind (Ok.forS (fun j (q : BMap × BMap) => (q.1.length ≤ j ∧ ∀ f : Int, (bget q.1 f = some true ↔ ∃ c ∈ o.Changes.take j, c.Atom = f ∧ c.Add = true ∧ holdS cbG s c.When) ∧ (bget q.1 f).getD false = (bget q.1 f).isSome) ∧
      q.2.length ≤ j ∧ ∀ f : Int, (bget q.2 f = some true ↔ ∃ c ∈ o.Changes.take j, c.Atom = f ∧ c.Add = false ∧ holdS cbG s c.When) ∧ (bget q.2 f).getD false = (bget q.2 f).isSome)
    ⟨⟨by simp, fun f => ⟨by simp [bget], rfl⟩⟩, by simp, fun f => ⟨by simp [bget], rfl⟩⟩ ?_ ?_)
  · rintro j ⟨m1, m2⟩ hj ⟨⟨l1, h1⟩, l2, h2⟩
    simp only at l1 h1 l2 h2
    obtain ⟨c, hcj⟩ := get_len hj
    have hcm := List.mem_of_getElem? hcj
    have hcz := when_size hcm
    have hC := ho.chg c hcm
    have hok : i64ok c.Atom := ⟨by have := hC.r0; omega, by have := hC.r1; omega⟩
    have hsn : ∀ (b : Bool) (f : Int), (∃ x ∈ o.Changes.take (j + 1), x.Atom = f ∧ x.Add = b ∧ holdS cbG s x.When) ↔ (∃ x ∈ o.Changes.take j, x.Atom = f ∧ x.Add = b ∧ holdS cbG s x.When) ∨ (c.Atom = f ∧ c.Add = b ∧ holdS cbG s c.When) := by
      intro b f
      rw [take_snoc hcj]
      constructor
      · rintro ⟨x, hx, q⟩
        rcases List.mem_append.1 hx with hx | hx
        · exact .inl ⟨x, hx, q⟩
        · simp only [List.mem_singleton] at hx; subst hx; exact .inr q
      · rintro (⟨x, hx, q⟩ | q)
        · exact ⟨x, by simp [hx], q⟩
        · exact ⟨c, by simp, q⟩
    have keepm : ∀ {m : BMap} {b : Bool}, m.length ≤ j → (∀ f : Int, (bget m f = some true ↔ ∃ c ∈ o.Changes.take j, c.Atom = f ∧ c.Add = b ∧ holdS cbG s c.When) ∧ (bget m f).getD false = (bget m f).isSome) → ¬ (c.Add = b ∧ holdS cbG s c.When) →
        m.length ≤ j + 1 ∧ ∀ f : Int, (bget m f = some true ↔ ∃ c ∈ o.Changes.take (j + 1), c.Atom = f ∧ c.Add = b ∧ holdS cbG s c.When) ∧ (bget m f).getD false = (bget m f).isSome := by
      intro m b hlm hm hn
      refine ⟨by omega, fun f => ⟨?_, (hm f).2⟩⟩
      rw [hsn, (hm f).1]
      exact ⟨.inl, fun h => h.elim id fun q => absurd q.2 hn⟩
    have putm : ∀ {m : BMap} {b : Bool}, m.length ≤ j → (∀ f : Int, (bget m f = some true ↔ ∃ c ∈ o.Changes.take j, c.Atom = f ∧ c.Add = b ∧ holdS cbG s c.When) ∧ (bget m f).getD false = (bget m f).isSome) → c.Add = b → holdS cbG s c.When →
        bmapPut m c.Atom true = some (bput m c.Atom true) ∧ (bput m c.Atom true).length ≤ j + 1 ∧ ∀ f : Int, (bget (bput m c.Atom true) f = some true ↔ ∃ c ∈ o.Changes.take (j + 1), c.Atom = f ∧ c.Add = b ∧ holdS cbG s c.When) ∧ (bget (bput m c.Atom true) f).getD false = (bget (bput m c.Atom true) f).isSome := by
      intro m b hlm hm hb hh
      refine ⟨?_, ?_, fun f => ⟨?_, ?_⟩⟩
      · unfold bmapPut
        rw [if_pos ⟨hok, by show m.length < 9223372036854775807; omega⟩]
      · rw [bput_length]; split <;> omega
      · rw [bget_put, hsn]
        by_cases e : c.Atom = f
        · rw [if_pos e]; exact ⟨fun _ => .inr ⟨e, hb, hh⟩, fun _ => rfl⟩
        · rw [if_neg e, (hm f).1]; exact ⟨.inl, fun h => h.elim id fun q => absurd q.1 e⟩
      · rw [bget_put]
        by_cases e : c.Atom = f
        · rw [if_pos e]; rfl
        · rw [if_neg e]; exact (hm f).2
    simp only [un2, idx_nat, hcj, Option.bind_some]
    rw [gholds_ok hv hp hC.w (by omega)]
    simp only [Option.bind_some]
    by_cases hh : holdS cbG s c.When
    · simp only [hh, decide_true, Bool.not_true, Bool.false_eq_true, if_false]
      cases hadd : c.Add with
      | true =>
        obtain ⟨p1, p2, p3⟩ := putm l1 h1 hadd hh
        simp only [if_true, p1, Option.bind_some]
        refine Ok.ret ⟨⟨p2, p3⟩, ?_⟩
        exact keepm l2 h2 (by rw [hadd]; simp)
      | false =>
        obtain ⟨p1, p2, p3⟩ := putm l2 h2 hadd hh
        simp only [Bool.false_eq_true, if_false, p1, Option.bind_some]
        refine Ok.ret ⟨?_, p2, p3⟩
        exact keepm l1 h1 (by rw [hadd]; simp)
    · simp only [hh, decide_false, Bool.not_false, if_true]
      exact Ok.ret ⟨keepm l1 h1 fun q => hh q.2, keepm l2 h2 fun q => hh q.2⟩
  · rintro ⟨m1, m2⟩ ⟨⟨l1, h1⟩, l2, h2⟩
    simp only at l1 h1 l2 h2
    simp only [un2]
    refine Ok.bind (Ok.forS (fun j (q : List Int) => q = ((idL g.Atoms.length).take j).filter fun i => decide (isS cbG s o i)) (by simp) ?_ ?_)
    · rintro j q hj rfl
      have hok : i64ok (j : Int) := ⟨by omega, by omega⟩
      obtain ⟨n, hn⟩ := bs_asc (t := (j : Int)) hp.t.pw (by have := hp.len; omega)
      have g1 := good (b := true) hok l1 (by omega) h1
      have g2 := good (b := false) hok l2 (by omega) h2
      rw [List.take_length] at g1 g2
      rw [hn, g1, g2]
      simp only [Option.bind_some, un2]
      have hk := take_snoc (idL_get hj)
      have hlen := List.length_filter_le (fun i => decide (isS cbG s o i)) ((idL g.Atoms.length).take j)
      have hlt := List.length_take_le j (idL g.Atoms.length)
      rw [hk, List.filter_append]
      have hz : (if decide (∃ c ∈ o.Changes, c.Atom = (j : Int) ∧ c.Add = true ∧ holdS cbG s c.When) = true then some true else (if decide ((j : Int) ∈ s.True) = true then some (!decide (∃ c ∈ o.Changes, c.Atom = (j : Int) ∧ c.Add = false ∧ holdS cbG s c.When)) else some false)) = some (decide (isS cbG s o (j : Int))) := by
        unfold isS
        by_cases e1 : ∃ c ∈ o.Changes, c.Atom = (j : Int) ∧ c.Add = true ∧ holdS cbG s c.When
        · simp [e1]
        · by_cases e2 : (j : Int) ∈ s.True
          · by_cases e3 : ∃ c ∈ o.Changes, c.Atom = (j : Int) ∧ c.Add = false ∧ holdS cbG s c.When
            · simp [e1, e2, e3]
            · simp [e1, e2, e3]
          · simp [e1, e2]
      rw [hz]
      simp only [Option.bind_some]
      by_cases e : isS cbG s o (j : Int)
      · simp only [e, decide_true, if_true]
        rw [app_ok (by simp only [List.length_cons, List.length_nil]; omega)]
        refine Ok.ret ?_
        simp [e]
      · simp only [e, decide_false, Bool.false_eq_true, if_false, Option.bind_some]
        refine Ok.ret ?_
        simp [e]
    · rintro q rfl
      rw [List.take_of_length_le (by rw [idL_len]; exact Nat.le_refl _)]
      exact Ok.ret rfl
end
end Go.Pw
/-
  Balanced groups are kept: from a state in which at most one atom of a group is true to such a state, in plain Lean.
-/
set_option maxHeartbeats 4000000
namespace Go.Pw
theorem cnt_zero {T g : List Int} : ∀ j, j ≤ g.length → (cnt T g j = 0 ↔ ∀ x ∈ g.take j, x ∉ T)
  | 0, _ => by simp [cnt]
  | j + 1, h => by
    obtain ⟨x, hx⟩ := get_len (xs := g) (i := j) (by omega)
    have ih := cnt_zero (T := T) (g := g) j (by omega)
    rw [cnt, getD_at hx, take_snoc hx]
    constructor
    · intro e y hy hT
      rcases List.mem_append.1 hy with hy | hy
      · exact ih.1 (by omega) y hy hT
      · rw [List.mem_singleton] at hy; subst hy
        by_cases hs : y ∈ g.take j
        · exact ih.1 (by omega) y hs hT
        · rw [if_pos ⟨hT, hs⟩] at e; omega
    · intro e
      rw [ih.2 (fun y hy => e y (List.mem_append_left _ hy)), if_neg (fun q => e x (by simp) q.1)]
theorem cnt_one {T g : List Int} : ∀ j, j ≤ g.length → (cnt T g j ≤ 1 ↔ ∀ x ∈ g.take j, ∀ y ∈ g.take j, x ∈ T → y ∈ T → x = y)
  | 0, _ => by simp [cnt]
  | j + 1, h => by
    obtain ⟨x, hx⟩ := get_len (xs := g) (i := j) (by omega)
    have ih := cnt_one (T := T) (g := g) j (by omega)
    have iz := cnt_zero (T := T) (g := g) j (by omega)
    rw [cnt, getD_at hx, take_snoc hx]
    by_cases hc : x ∈ T ∧ x ∉ g.take j
    · rw [if_pos hc]
      constructor
      · intro e
        have e0 := iz.1 (by omega)
        intro y hy z hz hyT hzT
        have key : ∀ y ∈ g.take j ++ [x], y ∈ T → y = x := fun y hy hT => by
          rcases List.mem_append.1 hy with hy | hy
          · exact absurd hT (e0 y hy)
          · exact List.mem_singleton.1 hy
        rw [key y hy hyT, key z hz hzT]
      · intro e
        have : cnt T g j = 0 := iz.2 fun y hy hT => by
          have := e y (List.mem_append_left _ hy) x (by simp) hT hc.1
          subst this
          exact hc.2 hy
        omega
    · rw [if_neg hc, Nat.add_zero, ih]
      constructor
      · intro e y hy z hz hyT hzT
        have key : ∀ y ∈ g.take j ++ [x], y ∈ T → y ∈ g.take j := fun y hy hT => by
          rcases List.mem_append.1 hy with hy | hy
          · exact hy
          · rw [List.mem_singleton] at hy; subst hy
            exact Classical.byContradiction fun q => hc ⟨hT, q⟩
        exact e y (key y hy hyT) z (key z hz hzT) hyT hzT
      · intro e y hy z hz hyT hzT
        exact e y (List.mem_append_left _ hy) z (List.mem_append_left _ hz) hyT hzT
/-- At most one atom of a group is in a list. -/
def One (T g : List Int) : Prop := ∀ x ∈ g, ∀ y ∈ g, x ∈ T → y ∈ T → x = y
theorem cnt_iff {T g : List Int} : cnt T g g.length ≤ 1 ↔ One T g := by
  rw [cnt_one g.length (Nat.le_refl _), List.take_length]; rfl
section
variable {cb : ByteArray → Int → Int → Int × Bool} {s : GState} {o : GOp} {g : List Int}
theorem sit_true {d : List GChange} {b : Int} (hp : holdS cb s o.Pre) (hd : ∀ c ∈ d, holdS cb s c.When) (hb : b ∈ g → b ∈ s.True) (hn : ∀ x ∈ g, x ≠ b → x ∉ s.True) :
    (∀ x ∈ posL o d b g, x ∈ s.True) ∧ ∀ x ∈ negL o d b g, x ∉ s.True := by
  unfold posL negL
  simp only [List.mem_append, List.mem_flatMap, List.mem_filter]
  constructor
  · rintro x ((h | ⟨c, hc, h⟩) | ⟨h, e⟩)
    · exact hp.1 x h
    · exact (hd c hc).1 x h
    · have e := of_decide_eq_true e
      rw [e] at h ⊢; exact hb h
  · rintro x ((h | ⟨c, hc, h⟩) | ⟨h, e⟩)
    · exact hp.2.1 x h
    · exact (hd c hc).2.1 x h
    · exact hn x h (by simpa using e)
theorem con_true {d : List GChange} {b : Int} (hp : holdS cb s o.Pre) (hd : ∀ c ∈ d, holdS cb s c.When) (hb : b ∈ g → b ∈ s.True) (hn : ∀ x ∈ g, x ≠ b → x ∉ s.True) : Con o d b g := fun x hx hxn =>
  let h := sit_true hp hd hb hn
  h.2 x hxn (h.1 x hx)
theorem keeps_one {n : Nat} (h0 : ∀ x ∈ g, 0 ≤ x) (hk : KeepsG o g) (h1 : One s.True g) (hp : holdS cb s o.Pre) : One (nextS cb n s o).True g := by
  classical
  have hadd : ∀ x ∈ g, ∀ y ∈ g, x ≠ y → (∃ c ∈ o.Changes, c.Atom = x ∧ c.Add = true ∧ holdS cb s c.When) → isS cb s o y → False := by
    rintro x hx y hy hne ⟨c, hc, rfl, ha, hw⟩ hy2
    rcases hy2 with ⟨d, hd, rfl, hda, hdw⟩ | ⟨hyT, hndel⟩
    · have hP := (hk c hc ⟨ha, hx⟩).1 d hd ⟨hda, hy⟩ (fun e => hne e.symm)
      have hcd : ∀ e ∈ [c, d], holdS cb s e.When := fun e he => by
        rcases List.mem_cons.1 he with rfl | he
        · exact hw
        · rw [List.mem_singleton] at he; subst he; exact hdw
      by_cases hb : ∃ b ∈ g, b ∈ s.True
      · obtain ⟨b, hbg, hbT⟩ := hb
        exact hP b (List.mem_cons_of_mem _ hbg) (con_true hp hcd (fun _ => hbT) (fun z hz hzb hzT => hzb (h1 z hz b hbg hzT hbT)))
      · exact hP (-1) (List.mem_cons_self ..) (con_true hp hcd (fun q => by have := h0 _ q; omega) (fun z hz _ hzT => hb ⟨z, hz, hzT⟩))
    · obtain ⟨e, he, hD⟩ := (hk c hc ⟨ha, hx⟩).2 y hy (fun e => hne e.symm) (con_true hp (fun e he => by rw [List.mem_singleton] at he; subst he; exact hw) (fun _ => hyT) (fun z hz hzy hzT => hzy (h1 z hz y hy hzT hyT)))
      have hst := sit_true (d := [c]) (b := y) (g := g) hp (fun e he => by rw [List.mem_singleton] at he; subst he; exact hw) (fun _ => hyT) (fun z hz hzy hzT => hzy (h1 z hz y hy hzT hyT))
      refine hndel ⟨e, he, hD.2.1, hD.1, fun z hz => hst.1 z (hD.2.2.2.1 z hz), fun z hz => hst.2 z (hD.2.2.2.2 z hz), fun t ht => ?_⟩
      have := hD.2.2.1
      rw [List.length_eq_zero_iff] at this
      rw [this] at ht; cases ht
  intro x hx y hy hxT hyT
  have hxS := of_decide_eq_true (List.mem_filter.1 hxT).2
  have hyS := of_decide_eq_true (List.mem_filter.1 hyT).2
  by_cases hne : x = y
  · exact hne
  have hxS' := hxS
  rcases hxS with hxa | ⟨hxT', _⟩
  · exact (hadd x hx y hy hne hxa hyS).elim
  · rcases hyS with hya | ⟨hyT', _⟩
    · exact (hadd y hy x hx (fun e => hne e.symm) hya hxS').elim
    · exact h1 x hx y hy hxT' hyT'
end
section
variable {s : GState} {g : Ground} {fu : Nat}
end
end Go.Pw
/-
  Proper states: the first one and the next ones, in plain Lean.
-/
set_option maxHeartbeats 4000000
namespace Go.Pw
section
variable {cb : ByteArray → Int → Int → Int × Bool} {g : Ground} {s : GState}
theorem newV_miss (V0 : List Int) {j : Nat} : ∀ (l : List GAssign) (V : List Int), (∀ a ∈ l, a.Fluent.toNat ≠ j) → (newV cb V0 l V)[j]? = V[j]?
  | [], V, _ => rfl
  | a :: l, V, h => by
    unfold newV
    rw [List.foldl_cons]
    have := newV_miss V0 l (V.set a.Fluent.toNat (valS cb V0 a.Value).1) fun b hb => h b (by simp [hb])
    unfold newV at this
    rw [this, List.getElem?_set_ne (h a (by simp))]
theorem newV_hit (V0 : List Int) {a : GAssign} : ∀ (l : List GAssign) (V : List Int), l.Pairwise (fun a b => a.Fluent.toNat ≠ b.Fluent.toNat) → a ∈ l → a.Fluent.toNat < V.length → (newV cb V0 l V)[a.Fluent.toNat]? = some (valS cb V0 a.Value).1
  | [], V, _, h, _ => by simp at h
  | b :: l, V, hp, h, hV => by
    obtain ⟨h1, h2⟩ := List.pairwise_cons.1 hp
    have hrec : newV cb V0 (b :: l) V = newV cb V0 l (V.set b.Fluent.toNat (valS cb V0 b.Value).1) := by unfold newV; rw [List.foldl_cons]
    rw [hrec]
    rcases List.mem_cons.1 h with rfl | h
    · rw [newV_miss V0 l _ fun c hc => (h1 c hc).symm, List.getElem?_set_self hV]
    · exact newV_hit V0 l _ h2 h (by rw [List.length_set]; exact hV)
theorem ass_pw {nf : Int} {o : GOp} (h : ∀ j, AssAt nf o.Assigns j) : o.Assigns.Pairwise (fun a b => a.Fluent.toNat ≠ b.Fluent.toNat) :=
  List.pairwise_iff_getElem.2 fun i j hi hj hij => by
    have h1 := h j _ (List.getElem?_eq_getElem hj)
    have h2 := h i _ (List.getElem?_eq_getElem hi)
    have := h1.2.2.1 i _ hij (List.getElem?_eq_getElem hi)
    have := h1.1
    have := h2.1
    omega
/-! ### proper states -/
theorem init_prop (hv : ValidG g) : PropS g (initS g) := by
  refine ⟨hv.i, by simp [initS], fun i f v hf hvv => ?_⟩
  simp only [initS, List.getElem?_map, hf, Option.map_some, Option.some.injEq] at hvv
  subst hvv
  have := hv.flu f (List.mem_of_getElem? hf)
  exact ⟨this.2.1, this.2.2.1⟩
theorem next_prop {o : GOp} (ho : GOpOK (g.Atoms.length : Int) (g.Fluents.length : Int) o) (hs : PropS g s) (hc : canS cb g s o) : PropS g (nextS cb g.Atoms.length s o) := by
  refine ⟨asc_of_pw ((idL_pw _).sublist List.filter_sublist) fun x hx => idL_mem.1 (List.mem_filter.1 hx).1, ?_, fun i f v hf hvv => ?_⟩
  · show (newV cb s.Values o.Assigns s.Values).length = _
    rw [newV_len, hs.l]
  · have hvv : (newV cb s.Values o.Assigns s.Values)[i]? = some v := hvv
    by_cases h : ∃ a ∈ o.Assigns, a.Fluent.toNat = i
    · obtain ⟨a, ha, rfl⟩ := h
      have hr := ass_rng ho.asg ha
      rw [newV_hit _ _ _ (ass_pw ho.asg) ha (by rw [hs.l]; omega)] at hvv
      cases hvv
      exact (hc.2 a ha).2 f hf
    · rw [newV_miss _ _ _ fun a ha e => h ⟨a, ha, e⟩] at hvv
      exact hs.r i f v hf hvv
end
section
variable {g : Ground} {fu : Nat}
theorem ginit_ok (hv : ValidG g) (hl : LenG g) (hs : SizeOf.sizeOf g ≤ fu) : ground_Initial_p fu g = some (initS g) := by
  have h1 := hv.i.len_le
  have h2 := hv.a
  have h3 := hv.f
  apply Ok.eq
  unfold ground_Initial_p
  rw [valid_ok hl hs]
  simp only [hv, decide_true, Bool.not_true, Bool.false_eq_true, if_false, Option.bind_some]
  rw [ints_clone (by omega)]
  simp only [Option.bind_some]
  refine Ok.bind (Ok.forS (fun j (q : List Int) => q = (g.Fluents.take j).map fun f => f.Init) (by simp) ?_ ?_)
  · rintro j q hj rfl
    obtain ⟨f, hf⟩ := get_len hj
    have hle := List.length_take_le j g.Fluents
    simp only [idx_nat, hf, Option.bind_some]
    rw [app_ok (by rw [List.length_map]; simp only [List.length_cons, List.length_nil]; omega)]
    refine Ok.ret ?_
    rw [take_snoc hf, List.map_append]; rfl
  · rintro q rfl
    rw [List.take_length]
    exact Ok.ret rfl
end
end Go.Pw
/-
  The simple candidates of a small task, in plain Lean: they are found.
-/
set_option maxHeartbeats 4000000
namespace Go.Pw
/-- No name of an atom is longer than so many bytes. -/
def NamesG (g : Ground) : Prop := ∀ a ∈ g.Atoms, a.Name.size ≤ 1048576 ∧ ∀ x ∈ a.Args, x.size ≤ 1048576
theorem quote_ok {s : ByteArray} (h : s.size ≤ 1048576) : ∃ q, strconv_Quote_p s = some q ∧ q.size ≤ 10485762 := by
  unfold strconv_Quote_p
  rw [if_pos (by omega)]
  refine ⟨_, rfl, ?_⟩
  rw [Go.strOfNums_size]
  have := Go.Lib.quoteZ_length_le Go.Lib.goPrintTabs s
  omega
theorem itoa_ok {n : Int} (h0 : -1000 ≤ n) (h1 : n ≤ 1000) : ∃ q, strconv_Itoa_p n = some q ∧ q.size ≤ 21 := by
  unfold strconv_Itoa_p
  rw [if_pos (by omega)]
  refine ⟨_, rfl, ?_⟩
  have := Lib.itoa_length_le n (by omega) (by omega)
  simpa [ByteArray.size] using this
theorem cat_ok {a b : ByteArray} (h : a.size + b.size ≤ 1000000000000) : ∃ c, cat a b = some c ∧ c.size = a.size + b.size := by
  unfold cat
  rw [if_pos (by omega)]
  exact ⟨_, rfl, ByteArray.size_append ..⟩
theorem strOfE_ok {xs : List Int} (h : xs.all (fun n => decide (0 ≤ n) && decide (n ≤ 255)) = true) : ∃ q, strOfE xs = some q ∧ q.size = xs.length := by
  unfold strOfE
  split
  · rename_i h0
    subst h0
    exact ⟨_, rfl, rfl⟩
  · rename_i h0
    unfold strOf
    rw [if_pos ⟨h0, h⟩]
    exact ⟨_, rfl, by simp [u8s, ByteArray.size]⟩
theorem bytes_all (s : ByteArray) : (bytesOf s).all (fun n => decide (0 ≤ n) && decide (n ≤ 255)) = true := by
  rw [List.all_eq_true]
  intro n hn
  unfold bytesOf at hn
  obtain ⟨b, _, rfl⟩ := List.mem_map.1 hn
  have := b.toNat_lt
  simp only [Bool.and_eq_true, decide_eq_true_eq]
  omega
theorem quoted_ok {l : List ByteArray} (hl : l.length ≤ 100) (h : ∀ x ∈ l, x.size ≤ 1048576) : ∃ q, invariant_quoted_o_p l = some q ∧ q.size ≤ 1100000000 := by
  have key : Ok (invariant_quoted_o_p l) (fun q => q.size ≤ 1100000000) := by
    unfold invariant_quoted_o_p
    refine Ok.bind (Ok.forS (fun j (xs : List Int) => xs.length ≤ j * 10485763 ∧ xs.all (fun n => decide (0 ≤ n) && decide (n ≤ 255)) = true) ⟨by simp, by simp⟩ ?_ ?_)
    · rintro j xs hj ⟨h1, h2⟩
      obtain ⟨x, hx⟩ := get_len hj
      obtain ⟨q, e1, s1⟩ := quote_ok (h x (List.mem_of_getElem? hx))
      obtain ⟨c, e2, s2⟩ := cat_ok (a := q) (b := ⟨#[32]⟩) (by show q.size + 1 ≤ _; omega)
      have s2' : c.size = q.size + 1 := s2
      rw [idx_nat, hx, Option.bind_some, e1, Option.bind_some, e2, Option.bind_some]
      unfold appS
      rw [if_pos (by omega), Option.bind_some]
      refine Ok.ret ⟨?_, ?_⟩
      · rw [List.length_append, bytesOf_length]
        omega
      · rw [List.all_append, h2, bytes_all]; rfl
    · rintro xs ⟨h1, h2⟩
      obtain ⟨q, e, s⟩ := strOfE_ok h2
      rw [e, Option.bind_some]
      exact Ok.ret (by omega)
  exact key
/-- What is known of the simple candidates while they are collected. -/
def SInv (c d : Nat) (n : Int) (out : List invariant_simple) (m : SMap) : Prop :=
  out.length ≤ c ∧ m.length ≤ c ∧ (∀ k v, mget m k = some v → 0 ≤ v ∧ v < (out.length : Int)) ∧ ∀ x ∈ out, x.atoms.length ≤ d ∧ (∀ a ∈ x.atoms, 0 ≤ a ∧ a < n) ∧ x.rest.size ≤ 1100000000
theorem SInv.new {c d : Nat} {n : Int} {out : List invariant_simple} {m : SMap} (h : SInv c d n out m) {key : ByteArray} {x : invariant_simple} (hx : x.atoms = []) (hr : x.rest.size ≤ 1100000000) : SInv (c + 1) d n (out ++ [x]) (mput m key (out.length : Int)) := by
  obtain ⟨h1, h2, h3, h4⟩ := h
  refine ⟨by simp; omega, by rw [mput_length]; split <;> omega, fun k v hk => ?_, fun y hy => ?_⟩
  · rw [mget_put] at hk
    rw [List.length_append, List.length_singleton]
    split at hk
    · cases hk; omega
    · have := h3 k v hk; omega
  · rcases List.mem_append.1 hy with hy | hy
    · exact h4 y hy
    · rw [List.mem_singleton] at hy; subst hy
      exact ⟨by rw [hx]; simp, by rw [hx]; simp, hr⟩
theorem SInv.mono {c d c' d' : Nat} {n : Int} {out : List invariant_simple} {m : SMap} (h : SInv c d n out m) (hc : c ≤ c') (hd : d ≤ d') : SInv c' d' n out m :=
  ⟨by have := h.1; omega, by have := h.2.1; omega, h.2.2.1, fun x hx => ⟨by have := (h.2.2.2 x hx).1; omega, (h.2.2.2 x hx).2⟩⟩
theorem SInv.row {c d : Nat} {n : Int} {out : List invariant_simple} {m : SMap} (h : SInv c d n out m) {k : Nat} {x : invariant_simple} (hx : out[k]? = some x) {i : Int} (h0 : 0 ≤ i) (h1 : i < n) : SInv c (d + 1) n (out.set k ({ x with atoms := x.atoms ++ [i] } : invariant_simple)) m := by
  obtain ⟨g1, g2, g3, g4⟩ := h
  refine ⟨by rw [List.length_set]; exact g1, g2, by rw [List.length_set]; exact g3, fun y hy => ?_⟩
  rcases List.mem_or_eq_of_mem_set hy with hy | rfl
  · have := g4 y hy
    exact ⟨by omega, this.2⟩
  · have := g4 x (List.mem_of_getElem? hx)
    refine ⟨by simp; omega, fun a ha => ?_, this.2.2⟩
    rcases List.mem_append.1 ha with ha | ha
    · exact this.2.1 a ha
    · rw [List.mem_singleton] at ha; subst ha; exact ⟨h0, h1⟩
theorem clone_s {l : List ByteArray} (h : l.length * 16 ≤ 140737488355328) : slices_Clone_string_p l = some l := by
  unfold slices_Clone_string_p
  rw [app_ok (by simpa using h)]
  rfl
theorem simples_all {g : Ground} (ha : g.Atoms.length ≤ 14) (hr : ∀ a ∈ g.Atoms, a.Args.length ≤ 20) (hn : NamesG g) :
    Ok (invariant_simples_p g) (fun l => l.length ≤ 294 ∧ ∀ x ∈ l, x.atoms.length ≤ 294 ∧ (∀ a ∈ x.atoms, 0 ≤ a ∧ a < (g.Atoms.length : Int)) ∧ x.rest.size ≤ 1100000000) := by
  unfold invariant_simples_p
  refine Ok.bind (Ok.forS (fun j (p : List invariant_simple × SMap) => SInv (21 * j) (21 * j) (g.Atoms.length : Int) p.1 p.2) ⟨by simp, by simp, (by intro k v h; cases h), (by intro x hx; cases hx)⟩ ?_ ?_)
  · rintro j ⟨out, m⟩ hj hI
    obtain ⟨x, hx⟩ := get_len hj
    have hxm := List.mem_of_getElem? hx
    have hxl := hr x hxm
    obtain ⟨hnx, hna⟩ := hn x hxm
    simp only [un2]
    rw [idx_nat, hx, Option.bind_some]
    refine Ok.while (fun (p : Int × SMap × List invariant_simple) => -1 ≤ p.1 ∧ p.1 ≤ (x.Args.length : Int) ∧ SInv (21 * j + (p.1 + 1).toNat) (21 * j + (p.1 + 1).toNat) (g.Atoms.length : Int) p.2.2 p.2.1)
      (fun p => SInv (21 * (j + 1)) (21 * (j + 1)) (g.Atoms.length : Int) p.2.2 p.2.1) (fun _ => False) (fun p => ((x.Args.length : Int) - p.1).toNat) ⟨by simp, by simp only; omega, by simpa using hI⟩ ?_ (fun _ h => h.elim) ?_
    · rintro ⟨k, m, out⟩ ⟨h0, h1, hS⟩
      simp only at h0 h1 hS
      simp only [un3]
      by_cases hk : k < (x.Args.length : Int)
      · rw [if_pos (decide_eq_true hk), clone_s (by omega)]
        refine (show Ok _ (fun c => (∀ s', c = Ctl.next s' → _) ∧ (∀ s', c = Ctl.brk s' → _) ∧ (∀ r, c = Ctl.ret r → _)) from ?_)
        simp only [Option.bind_some]
        refine Ok.bind (Ok.mono (P := fun (l : List ByteArray) => l.length ≤ 20 ∧ ∀ z ∈ l, z ∈ x.Args) ?_ ?_)
        · by_cases hk0 : 0 ≤ k
          · rw [if_pos (decide_eq_true hk0), wrap_id (by omega) (by omega)]
            unfold delS_p
            rw [if_pos (by omega)]
            refine Ok.ret ⟨?_, fun z hz => ?_⟩
            · rw [List.length_append, List.length_take, List.length_drop]; omega
            · rcases List.mem_append.1 hz with hz | hz
              · exact List.mem_of_mem_take hz
              · exact List.mem_of_mem_drop hz
          · rw [if_neg (by simpa using hk0)]
            exact Ok.ret ⟨hxl, fun _ h => h⟩
        · rintro l ⟨hl1, hl2⟩
          obtain ⟨q1, e1, z1⟩ := itoa_ok (n := k) (by omega) (by omega)
          obtain ⟨q2, e2, z2⟩ := itoa_ok (n := (x.Args.length : Int)) (by omega) (by omega)
          obtain ⟨c1, e3, z3⟩ := cat_ok (a := q1) (b := ⟨#[32]⟩) (by show q1.size + 1 ≤ _; omega)
          have z3' : c1.size = q1.size + 1 := z3
          obtain ⟨c2, e4, z4⟩ := cat_ok (a := c1) (b := q2) (by omega)
          obtain ⟨c3, e5, z5⟩ := cat_ok (a := c2) (b := ⟨#[32]⟩) (by show c2.size + 1 ≤ _; omega)
          have z5' : c3.size = c2.size + 1 := z5
          obtain ⟨q3, e6, z6⟩ := quoted_ok (l := [x.Name] ++ l) (by simp; omega) (fun z hz => by
            rcases List.mem_append.1 hz with hz | hz
            · rw [List.mem_singleton] at hz; subst hz; exact hnx
            · exact hna z (hl2 z hz))
          obtain ⟨q4, e7, z7⟩ := quoted_ok (l := l) (by omega) (fun z hz => hna z (hl2 z hz))
          obtain ⟨c4, e8, z8⟩ := cat_ok (a := c3) (b := q3) (by omega)
          have hout := hS.1
          have hml := hS.2.1
          rw [e1, Option.bind_some, e3, Option.bind_some, e2, Option.bind_some, e4, Option.bind_some, e5, Option.bind_some, app_ok (by simp; omega), Option.bind_some, e6, Option.bind_some, e8, Option.bind_some]
          unfold mapGet
          rw [if_pos (by unfold maxLen; omega), Option.bind_some]
          refine Ok.bind (Ok.mono (P := fun (p : Int × SMap × List invariant_simple) => SInv (21 * j + (k + 1).toNat + 1) (21 * j + (k + 1).toNat) (g.Atoms.length : Int) p.2.2 p.2.1 ∧ 0 ≤ p.1 ∧ p.1 < (p.2.2.length : Int)) ?_ ?_)
          · cases hg : mget m c4 with
            | none =>
              rw [if_pos (by rfl)]
              unfold mapPut
              rw [if_pos ⟨by unfold maxLen; omega, by unfold maxLen; omega, by omega, by omega⟩, Option.bind_some, e7, Option.bind_some, app_ok (by simp; omega), Option.bind_some]
              exact Ok.ret ⟨hS.new rfl z7, by simp only; omega, by simp only [List.length_append, List.length_singleton]; omega⟩
            | some v =>
              rw [if_neg (by simp)]
              have := hS.2.2.1 c4 v hg
              exact Ok.ret ⟨hS.mono (by omega) (Nat.le_refl _), this.1, this.2⟩
          · rintro ⟨n, m', out'⟩ ⟨hS', n0, n1⟩
            simp only at hS' n0 n1
            simp only [un3]
            obtain ⟨y, hy⟩ := get_len (xs := out') (i := n.toNat) (by omega)
            have hidx : idx out' n = some y := by unfold idx; rw [if_pos n0]; exact hy
            have hyl := (hS'.2.2.2 y (List.mem_of_getElem? hy)).1
            rw [hidx, Option.bind_some, app_ok (by simp; omega), Option.bind_some, setI_int n0 n1, Option.bind_some, wrap_id (by omega) (by omega)]
            refine Ok.ret ⟨?_, (by intro s' h; cases h), (by intro r h; cases h)⟩
            rintro s' h
            cases h
            have hS2 := hS'.row hy (i := (j : Int)) (by omega) (by omega)
            refine ⟨⟨by simp only; omega, by simp only; omega, ?_⟩, by simp only; omega⟩
            have e9 : (k + 1 + 1).toNat = (k + 1).toNat + 1 := by omega
            simp only
            rw [e9]
            exact hS2
      · rw [if_neg (by simpa using hk)]
        refine ⟨_, rfl, (by intro s' h; cases h), ?_, (by intro r h; cases h)⟩
        rintro s' h
        cases h
        exact hS.mono (by omega) (by omega)
    · rintro ⟨k, m, out⟩ hS
      exact Ok.ret hS
  · rintro ⟨out, m⟩ hI
    exact Ok.ret ⟨by have := hI.1; simp only at this; show out.length ≤ 294; omega, fun x hx => by have := hI.2.2.2 x hx; exact ⟨by have h6 := this.1; omega, this.2⟩⟩
end Go.Pw
