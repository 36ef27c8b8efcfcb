/-
  The number of a state, in plain Lean.
-/
import Derived.Test.YtdhfofhginfdnaaWhPs
set_option maxHeartbeats 4000000
set_option linter.unusedSimpArgs false
set_option linter.unusedVariables false
namespace Go.Pw
theorem flat_getU {α β : Type} {f : α → List β} {m : Nat} : ∀ {xs : List α}, (∀ x ∈ xs, (f x).length = m) → ∀ {r y : Nat} {x : α} {z : β}, xs[r]? = some x → (f x)[y]? = some z → (xs.flatMap f)[r * m + y]? = some z
  | [], _, r, _, _, _, hx, _ => by simp at hx
  | a :: xs, h, 0, y, x, z, hx, hz => by
    simp only [List.getElem?_cons_zero, Option.some.injEq] at hx
    subst hx
    have hlt := (List.getElem?_eq_some_iff.1 hz).1
    rw [List.flatMap_cons, Nat.zero_mul, Nat.zero_add, List.getElem?_append_left hlt]
    exact hz
  | a :: xs, h, r + 1, y, x, z, hx, hz => by
    have ha := h a (by simp)
    rw [List.flatMap_cons, List.getElem?_append_right (by rw [ha, Nat.succ_mul]; omega), ha, show (r + 1) * m + y - m = r * m + y by rw [Nat.succ_mul]; omega]
    exact flat_getU (fun x hx => h x (by simp [hx])) (by simpa using hx) hz
theorem flat_lenU {α β : Type} {f : α → List β} {m : Nat} : ∀ {xs : List α}, (∀ x ∈ xs, (f x).length = m) → (xs.flatMap f).length = xs.length * m
  | [], _ => by simp
  | a :: xs, h => by rw [List.flatMap_cons, List.length_append, h a (by simp), flat_lenU fun x hx => h x (by simp [hx]), List.length_cons, Nat.succ_mul, Nat.add_comm]
/-- The number of a state: the first variable counts most. -/
def rkZ (l : List (Int × Int)) : Int := l.foldl (fun n p => n * p.1 + p.2) 0
def rk (vars s : List Int) : Int := rkZ (vars.zip s)
theorem rk_nil : rk [] [] = 0 := rfl
theorem rk_snoc {vars s : List Int} (h : s.length = vars.length) (k x : Int) : rk (vars ++ [k]) (s ++ [x]) = rk vars s * k + x := by
  unfold rk rkZ
  rw [List.zip_append (by omega)]
  simp
theorem StateOK.nil : StateOK [] [] := ⟨rfl, by simp⟩
theorem StateOK.eq_nil {s : List Int} (h : StateOK [] s) : s = [] := List.eq_nil_of_length_eq_zero h.len
/-- A state's number says where it stands among all. -/
theorem statesL_snoc (vars : List Int) (k : Int) : statesL (vars ++ [k]) = expand k (statesL vars) := by
  unfold statesL
  rw [List.reverse_append, List.reverse_singleton, List.singleton_append]
  rfl
theorem rk_get {vars : List Int} : (∀ n ∈ vars, 1 ≤ n) → ∀ {s : List Int}, StateOK vars s → 0 ≤ rk vars s ∧ (statesL vars)[(rk vars s).toNat]? = some s := by
  refine list_snoc (P := fun vars => (∀ n ∈ vars, 1 ≤ n) → ∀ {s : List Int}, StateOK vars s → 0 ≤ rk vars s ∧ (statesL vars)[(rk vars s).toNat]? = some s) ?_ ?_ vars
  · intro _ s hs
    rw [hs.eq_nil]
    exact ⟨by simp [rk_nil], by simp [rk_nil, statesL, stR]⟩
  · intro vars k ih h s hs
    obtain ⟨s', x, rfl, hs', h0, h1⟩ := StateOK.snoc.1 hs
    obtain ⟨i0, i1⟩ := ih (fun n hn => h n (by simp [hn])) hs'
    have hk := h k (by simp)
    have hp : 0 ≤ rk vars s' * k := Int.mul_nonneg i0 (by omega)
    rw [rk_snoc hs'.len]
    refine ⟨by omega, ?_⟩
    rw [statesL_snoc]
    have := flat_getU (f := fun s => (List.range k.toNat).map fun (x : Nat) => s ++ [(x : Int)]) (m := k.toNat) (xs := statesL vars) (by simp) i1 (y := x.toNat) (z := s' ++ [x]) (by
      rw [List.getElem?_map, List.getElem?_range (by omega)]
      simp [Int.toNat_of_nonneg h0])
    have e : (rk vars s' * k + x).toNat = (rk vars s').toNat * k.toNat + x.toNat := by
      apply Int.ofNat.inj
      show (((rk vars s' * k + x).toNat : Nat) : Int) = (((rk vars s').toNat * k.toNat + x.toNat : Nat) : Int)
      rw [Int.natCast_add, Int.natCast_mul, Int.toNat_of_nonneg i0, Int.toNat_of_nonneg (by omega : 0 ≤ k), Int.toNat_of_nonneg h0, Int.toNat_of_nonneg (by omega)]
    rw [e]
    exact this
theorem rk_lt {vars : List Int} (hv : ∀ n ∈ vars, 1 ≤ n) {s : List Int} (h : StateOK vars s) : 0 ≤ rk vars s ∧ rk vars s < prd vars := by
  obtain ⟨h0, h1⟩ := rk_get hv h
  have := (List.getElem?_eq_some_iff.1 h1).1
  have hl := statesL_len (vars := vars) fun x hx => by have := hv x hx; omega
  omega
theorem rk_at {vars : List Int} : (∀ n ∈ vars, 1 ≤ n) → ∀ {i : Nat} {s : List Int}, (statesL vars)[i]? = some s → rk vars s = (i : Int) := by
  refine list_snoc (P := fun vars => (∀ n ∈ vars, 1 ≤ n) → ∀ {i : Nat} {s : List Int}, (statesL vars)[i]? = some s → rk vars s = (i : Int)) ?_ ?_ vars
  · intro _ i s hs
    cases i with
    | zero =>
      simp only [statesL, List.reverse_nil, stR, List.getElem?_cons_zero, Option.some.injEq] at hs
      subst hs
      rfl
    | succ i => simp [statesL, stR] at hs
  · intro vars k ih h i s hs
    have hk := h k (by simp)
    rw [statesL_snoc] at hs
    have hlt := (List.getElem?_eq_some_iff.1 hs).1
    have hlen : (expand k (statesL vars)).length = (statesL vars).length * k.toNat := flat_lenU (by simp)
    have hkp : 0 < k.toNat := by omega
    have hq : i / k.toNat < (statesL vars).length := by
      rw [hlen] at hlt
      exact (Nat.div_lt_iff_lt_mul hkp).2 hlt
    obtain ⟨s', hs'⟩ := get_len hq
    have hm := Nat.mod_lt i hkp
    have := flat_getU (f := fun s => (List.range k.toNat).map fun (x : Nat) => s ++ [(x : Int)]) (m := k.toNat) (xs := statesL vars) (by simp) hs' (y := i % k.toNat) (z := s' ++ [((i % k.toNat : Nat) : Int)]) (by
      rw [List.getElem?_map, List.getElem?_range hm]
      simp)
    rw [Nat.div_add_mod'] at this
    rw [show ((statesL vars).flatMap fun s => (List.range k.toNat).map fun (x : Nat) => s ++ [(x : Int)]) = expand k (statesL vars) from rfl, hs] at this
    have e := Zu this
    subst e
    have hr := ih (fun n hn => h n (by simp [hn])) hs'
    have hsl := (statesL_mem.1 (List.mem_of_getElem? hs')).len
    rw [rk_snoc hsl, hr]
    have hmod := Nat.div_add_mod' i k.toNat
    have hkk : ((k.toNat : Nat) : Int) = k := Int.toNat_of_nonneg (by omega)
    have hz : ((i / k.toNat : Nat) : Int) * k + ((i % k.toNat : Nat) : Int) = ((i / k.toNat * k.toNat + i % k.toNat : Nat) : Int) := by rw [Int.natCast_add, Int.natCast_mul, hkk]
    rw [hz, hmod]
theorem StateOK.take {vars s : List Int} (h : StateOK vars s) (m : Nat) : StateOK (vars.take m) (s.take m) := by
  refine ⟨by simp [h.len], fun i x d hx hd => ?_⟩
  rw [List.getElem?_take] at hx hd
  by_cases hi : i < m
  · rw [if_pos hi] at hx hd
    exact h.r i x d hx hd
  · rw [if_neg hi] at hx; cases hx
end Go.Pw
