/-
  What a ground task means (states, conditions, next states), in plain Lean.
-/
import Derived.Test.YtcabhickgjhkhaaGreatDoorIsPy
import Derived.Lib.ItoaLen
set_option maxHeartbeats 8000000
set_option linter.unusedSimpArgs false
set_option linter.unusedVariables false
namespace Go.Pw
theorem setI_int {α : Type} {xs : List α} {i : Int} {y : α} (h0 : 0 ≤ i) (h1 : i < (xs.length : Int)) : setI xs i y = some (xs.set i.toNat y) := by
  obtain ⟨n, rfl⟩ := Int.eq_ofNat_of_zero_le h0
  rw [setI_nat (by omega)]; simp
section
variable (cb : ByteArray → Int → Int → Int × Bool)
structure PropS (g : Ground) (s : GState) : Prop where
  t : Asc s.True (g.Atoms.length : Int)
  l : s.Values.length = g.Fluents.length
  r : ∀ (i : Nat) f v, g.Fluents[i]? = some f → s.Values[i]? = some v → f.Lo ≤ v ∧ v ≤ f.Hi
end
section
variable {cb : ByteArray → Int → Int → Int × Bool} {g : Ground} {s : GState}
theorem PropS.len (hs : PropS g s) : s.True.length ≤ g.Atoms.length := hs.t.len_le
end
end Go.Pw
/-
  The program's values and tests compute what a ground task means, in plain Lean.
-/
set_option maxHeartbeats 8000000
namespace Go.Pw
def Small (n : Int) : Prop := -1099511627776 ≤ n ∧ n ≤ 1099511627776
section
variable {s : GState} {g : Ground} {fu : Nat}
theorem PropS.small (hv : ValidG g) (hp : PropS g s) : ∀ v ∈ s.Values, Small v := fun v hm => by
  obtain ⟨i, hi, rfl⟩ := List.getElem_of_mem hm
  obtain ⟨f, hf⟩ := get_len (xs := g.Fluents) (i := i) (by rw [← hp.l]; exact hi)
  have h1 := hp.r i f _ hf (List.getElem?_eq_getElem hi)
  have h2 := hv.flu f (List.mem_of_getElem? hf)
  obtain ⟨a, _, _, b, _⟩ := h2
  exact ⟨by omega, by omega⟩
end
end Go.Pw
/-
  The program's states and next states, in plain Lean.
-/
set_option maxHeartbeats 8000000
namespace Go.Pw
section
variable {s : GState} {g : Ground} {fu : Nat}
theorem ints_clone {l : List Int} (h : l.length * 8 ≤ 140737488355328) : slices_Clone_int_p l = some l := by
  unfold slices_Clone_int_p
  rw [app_ok (by simpa using h)]
  rfl
end
end Go.Pw
/-
  Balanced groups are kept: from a state in which at most one atom of a group is true to such a state, in plain Lean.
-/
set_option maxHeartbeats 4000000
namespace Go.Pw
/-- At most one atom of a group is in a list. -/
def One (T g : List Int) : Prop := ∀ x ∈ g, ∀ y ∈ g, x ∈ T → y ∈ T → x = y
section
variable {cb : ByteArray → Int → Int → Int × Bool} {s : GState} {o : GOp} {g : List Int}
end
section
variable {s : GState} {g : Ground} {fu : Nat}
end
end Go.Pw
/-
  Proper states: the first one and the next ones, in plain Lean.
-/
set_option maxHeartbeats 4000000
namespace Go.Pw
section
variable {cb : ByteArray → Int → Int → Int × Bool} {g : Ground} {s : GState}
/-! ### proper states -/
end
section
variable {g : Ground} {fu : Nat}
end
end Go.Pw
/-
  The simple candidates of a small task, in plain Lean: they are found.
-/
set_option maxHeartbeats 4000000
namespace Go.Pw
/-- No name of an atom is longer than so many bytes. -/
def NamesG (g : Ground) : Prop := ∀ a ∈ g.Atoms, a.Name.size ≤ 1048576 ∧ ∀ x ∈ a.Args, x.size ≤ 1048576
theorem quote_ok {s : ByteArray} (h : s.size ≤ 1048576) : ∃ q, strconv_Quote_p s = some q ∧ q.size ≤ 10485762 := by
  unfold strconv_Quote_p
  rw [if_pos (by omega)]
  refine ⟨_, rfl, ?_⟩
  rw [Go.strOfNums_size]
  have := Go.Lib.quoteZ_length_le Go.Lib.goPrintTabs s
  omega
theorem itoa_ok {n : Int} (h0 : -1000 ≤ n) (h1 : n ≤ 1000) : ∃ q, strconv_Itoa_p n = some q ∧ q.size ≤ 21 := by
  unfold strconv_Itoa_p
  rw [if_pos (by omega)]
  refine ⟨_, rfl, ?_⟩
  have := Lib.itoa_length_le n (by omega) (by omega)
  simpa [ByteArray.size] using this
theorem cat_ok {a b : ByteArray} (h : a.size + b.size ≤ 1000000000000) : ∃ c, cat a b = some c ∧ c.size = a.size + b.size := by
  unfold cat
  rw [if_pos (by omega)]
  exact ⟨_, rfl, ByteArray.size_append ..⟩
theorem strOfE_ok {xs : List Int} (h : xs.all (fun n => decide (0 ≤ n) && decide (n ≤ 255)) = true) : ∃ q, strOfE xs = some q ∧ q.size = xs.length := by
  unfold strOfE
  split
  · rename_i h0
    subst h0
    exact ⟨_, rfl, rfl⟩
  · rename_i h0
    unfold strOf
    rw [if_pos ⟨h0, h⟩]
    exact ⟨_, rfl, by simp [u8s, ByteArray.size]⟩
theorem bytes_all (s : ByteArray) : (bytesOf s).all (fun n => decide (0 ≤ n) && decide (n ≤ 255)) = true := by
  rw [List.all_eq_true]
  intro n hn
  unfold bytesOf at hn
  obtain ⟨b, _, rfl⟩ := List.mem_map.1 hn
  have := b.toNat_lt
  simp only [Bool.and_eq_true, decide_eq_true_eq]
  omega
theorem quoted_ok {l : List ByteArray} (hl : l.length ≤ 100) (h : ∀ x ∈ l, x.size ≤ 1048576) : ∃ q, invariant_quoted_o_p l = some q ∧ q.size ≤ 1100000000 := by
  have key : Ok (invariant_quoted_o_p l) (fun q => q.size ≤ 1100000000) := by
    unfold invariant_quoted_o_p
    refine Ok.bind (Ok.forS (fun j (xs : List Int) => xs.length ≤ j * 10485763 ∧ xs.all (fun n => decide (0 ≤ n) && decide (n ≤ 255)) = true) ⟨by simp, by simp⟩ ?_ ?_)
    · rintro j xs hj ⟨h1, h2⟩
      obtain ⟨x, hx⟩ := get_len hj
      obtain ⟨q, e1, s1⟩ := quote_ok (h x (List.mem_of_getElem? hx))
      obtain ⟨c, e2, s2⟩ := cat_ok (a := q) (b := ⟨#[32]⟩) (by show q.size + 1 ≤ _; omega)
      have s2' : c.size = q.size + 1 := s2
      rw [idx_nat, hx, Option.bind_some, e1, Option.bind_some, e2, Option.bind_some]
      unfold appS
      rw [if_pos (by omega), Option.bind_some]
      refine Ok.ret ⟨?_, ?_⟩
      · rw [List.length_append, bytesOf_length]
        omega
      · rw [List.all_append, h2, bytes_all]; rfl
    · rintro xs ⟨h1, h2⟩
      obtain ⟨q, e, s⟩ := strOfE_ok h2
      rw [e, Option.bind_some]
      exact Ok.ret (by omega)
  exact key
/-- What is known of the simple candidates while they are collected. -/
def SInv (c d : Nat) (n : Int) (out : List invariant_simple) (m : SMap) : Prop :=
  out.length ≤ c ∧ m.length ≤ c ∧ (∀ k v, mget m k = some v → 0 ≤ v ∧ v < (out.length : Int)) ∧ ∀ x ∈ out, x.atoms.length ≤ d ∧ (∀ a ∈ x.atoms, 0 ≤ a ∧ a < n) ∧ x.rest.size ≤ 1100000000
theorem SInv.new {c d : Nat} {n : Int} {out : List invariant_simple} {m : SMap} (h : SInv c d n out m) {key : ByteArray} {x : invariant_simple} (hx : x.atoms = []) (hr : x.rest.size ≤ 1100000000) : SInv (c + 1) d n (out ++ [x]) (mput m key (out.length : Int)) := by
  obtain ⟨h1, h2, h3, h4⟩ := h
  refine ⟨by simp; omega, by rw [mput_length]; split <;> omega, fun k v hk => ?_, fun y hy => ?_⟩
  · rw [mget_put] at hk
    rw [List.length_append, List.length_singleton]
    split at hk
    · cases hk; omega
    · have := h3 k v hk; omega
  · rcases List.mem_append.1 hy with hy | hy
    · exact h4 y hy
    · rw [List.mem_singleton] at hy; subst hy
      exact ⟨by rw [hx]; simp, by rw [hx]; simp, hr⟩
theorem SInv.mono {c d c' d' : Nat} {n : Int} {out : List invariant_simple} {m : SMap} (h : SInv c d n out m) (hc : c ≤ c') (hd : d ≤ d') : SInv c' d' n out m :=
  ⟨by have := h.1; omega, by have := h.2.1; omega, h.2.2.1, fun x hx => ⟨by have := (h.2.2.2 x hx).1; omega, (h.2.2.2 x hx).2⟩⟩
theorem SInv.row {c d : Nat} {n : Int} {out : List invariant_simple} {m : SMap} (h : SInv c d n out m) {k : Nat} {x : invariant_simple} (hx : out[k]? = some x) {i : Int} (h0 : 0 ≤ i) (h1 : i < n) : SInv c (d + 1) n (out.set k ({ x with atoms := x.atoms ++ [i] } : invariant_simple)) m := by
  obtain ⟨g1, g2, g3, g4⟩ := h
  refine ⟨by rw [List.length_set]; exact g1, g2, by rw [List.length_set]; exact g3, fun y hy => ?_⟩
  rcases List.mem_or_eq_of_mem_set hy with hy | rfl
  · have := g4 y hy
    exact ⟨by omega, this.2⟩
  · have := g4 x (List.mem_of_getElem? hx)
    refine ⟨by simp; omega, fun a ha => ?_, this.2.2⟩
    rcases List.mem_append.1 ha with ha | ha
    · exact this.2.1 a ha
    · rw [List.mem_singleton] at ha; subst ha; exact ⟨h0, h1⟩
theorem clone_s {l : List ByteArray} (h : l.length * 16 ≤ 140737488355328) : slices_Clone_string_p l = some l := by
  unfold slices_Clone_string_p
  rw [app_ok (by simpa using h)]
  rfl
theorem simples_all {g : Ground} (ha : g.Atoms.length ≤ 14) (hr : ∀ a ∈ g.Atoms, a.Args.length ≤ 20) (hn : NamesG g) :
    Ok (invariant_simples_p g) (fun l => l.length ≤ 294 ∧ ∀ x ∈ l, x.atoms.length ≤ 294 ∧ (∀ a ∈ x.atoms, 0 ≤ a ∧ a < (g.Atoms.length : Int)) ∧ x.rest.size ≤ 1100000000) := by
  unfold invariant_simples_p
  refine Ok.bind (Ok.forS (fun j (p : List invariant_simple × SMap) => SInv (21 * j) (21 * j) (g.Atoms.length : Int) p.1 p.2) ⟨by simp, by simp, (by intro k v h; cases h), (by intro x hx; cases hx)⟩ ?_ ?_)
  · rintro j ⟨out, m⟩ hj hI
    obtain ⟨x, hx⟩ := get_len hj
    have hxm := List.mem_of_getElem? hx
    have hxl := hr x hxm
    obtain ⟨hnx, hna⟩ := hn x hxm
    simp only [un2]
    rw [idx_nat, hx, Option.bind_some]
    refine Ok.while (fun (p : Int × SMap × List invariant_simple) => -1 ≤ p.1 ∧ p.1 ≤ (x.Args.length : Int) ∧ SInv (21 * j + (p.1 + 1).toNat) (21 * j + (p.1 + 1).toNat) (g.Atoms.length : Int) p.2.2 p.2.1)
      (fun p => SInv (21 * (j + 1)) (21 * (j + 1)) (g.Atoms.length : Int) p.2.2 p.2.1) (fun _ => False) (fun p => ((x.Args.length : Int) - p.1).toNat) ⟨by simp, by simp only; omega, by simpa using hI⟩ ?_ (fun _ h => h.elim) ?_
    · rintro ⟨k, m, out⟩ ⟨h0, h1, hS⟩
      simp only at h0 h1 hS
      simp only [un3]
      by_cases hk : k < (x.Args.length : Int)
      · rw [if_pos (decide_eq_true hk), clone_s (by omega)]
        refine (show Ok _ (fun c => (∀ s', c = Ctl.next s' → _) ∧ (∀ s', c = Ctl.brk s' → _) ∧ (∀ r, c = Ctl.ret r → _)) from ?_)
        simp only [Option.bind_some]
        refine Ok.bind (Ok.mono (P := fun (l : List ByteArray) => l.length ≤ 20 ∧ ∀ z ∈ l, z ∈ x.Args) ?_ ?_)
        · by_cases hk0 : 0 ≤ k
          · rw [if_pos (decide_eq_true hk0), wrap_id (by omega) (by omega)]
            unfold delS_p
            rw [if_pos (by omega)]
            refine Ok.ret ⟨?_, fun z hz => ?_⟩
            · rw [List.length_append, List.length_take, List.length_drop]; omega
            · rcases List.mem_append.1 hz with hz | hz
              · exact List.mem_of_mem_take hz
              · exact List.mem_of_mem_drop hz
          · rw [if_neg (by simpa using hk0)]
            exact Ok.ret ⟨hxl, fun _ h => h⟩
        · rintro l ⟨hl1, hl2⟩
          obtain ⟨q1, e1, z1⟩ := itoa_ok (n := k) (by omega) (by omega)
          obtain ⟨q2, e2, z2⟩ := itoa_ok (n := (x.Args.length : Int)) (by omega) (by omega)
          obtain ⟨c1, e3, z3⟩ := cat_ok (a := q1) (b := ⟨#[32]⟩) (by show q1.size + 1 ≤ _; omega)
          have z3' : c1.size = q1.size + 1 := z3
          obtain ⟨c2, e4, z4⟩ := cat_ok (a := c1) (b := q2) (by omega)
          obtain ⟨c3, e5, z5⟩ := cat_ok (a := c2) (b := ⟨#[32]⟩) (by show c2.size + 1 ≤ _; omega)
          have z5' : c3.size = c2.size + 1 := z5
          obtain ⟨q3, e6, z6⟩ := quoted_ok (l := [x.Name] ++ l) (by simp; omega) (fun z hz => by
            rcases List.mem_append.1 hz with hz | hz
            · rw [List.mem_singleton] at hz; subst hz; exact hnx
            · exact hna z (hl2 z hz))
          obtain ⟨q4, e7, z7⟩ := quoted_ok (l := l) (by omega) (fun z hz => hna z (hl2 z hz))
          obtain ⟨c4, e8, z8⟩ := cat_ok (a := c3) (b := q3) (by omega)
          have hout := hS.1
          have hml := hS.2.1
          rw [e1, Option.bind_some, e3, Option.bind_some, e2, Option.bind_some, e4, Option.bind_some, e5, Option.bind_some, app_ok (by simp; omega), Option.bind_some, e6, Option.bind_some, e8, Option.bind_some]
          unfold mapGet
          rw [if_pos (by unfold maxLen; omega), Option.bind_some]
          refine Ok.bind (Ok.mono (P := fun (p : Int × SMap × List invariant_simple) => SInv (21 * j + (k + 1).toNat + 1) (21 * j + (k + 1).toNat) (g.Atoms.length : Int) p.2.2 p.2.1 ∧ 0 ≤ p.1 ∧ p.1 < (p.2.2.length : Int)) ?_ ?_)
          · cases hg : mget m c4 with
            | none =>
              rw [if_pos (by rfl)]
              unfold mapPut
              rw [if_pos ⟨by unfold maxLen; omega, by unfold maxLen; omega, by omega, by omega⟩, Option.bind_some, e7, Option.bind_some, app_ok (by simp; omega), Option.bind_some]
              exact Ok.ret ⟨hS.new rfl z7, by simp only; omega, by simp only [List.length_append, List.length_singleton]; omega⟩
            | some v =>
              rw [if_neg (by simp)]
              have := hS.2.2.1 c4 v hg
              exact Ok.ret ⟨hS.mono (by omega) (Nat.le_refl _), this.1, this.2⟩
          · rintro ⟨n, m', out'⟩ ⟨hS', n0, n1⟩
            simp only at hS' n0 n1
            simp only [un3]
            obtain ⟨y, hy⟩ := get_len (xs := out') (i := n.toNat) (by omega)
            have hidx : idx out' n = some y := by unfold idx; rw [if_pos n0]; exact hy
            have hyl := (hS'.2.2.2 y (List.mem_of_getElem? hy)).1
            rw [hidx, Option.bind_some, app_ok (by simp; omega), Option.bind_some, setI_int n0 n1, Option.bind_some, wrap_id (by omega) (by omega)]
            refine Ok.ret ⟨?_, (by intro s' h; cases h), (by intro r h; cases h)⟩
            rintro s' h
            cases h
            have hS2 := hS'.row hy (i := (j : Int)) (by omega) (by omega)
            refine ⟨⟨by simp only; omega, by simp only; omega, ?_⟩, by simp only; omega⟩
            have e9 : (k + 1 + 1).toNat = (k + 1).toNat + 1 := by omega
            simp only
            rw [e9]
            exact hS2
      · rw [if_neg (by simpa using hk)]
        refine ⟨_, rfl, (by intro s' h; cases h), ?_, (by intro r h; cases h)⟩
        rintro s' h
        cases h
        exact hS.mono (by omega) (by omega)
    · rintro ⟨k, m, out⟩ hS
      exact Ok.ret hS
  · rintro ⟨out, m⟩ hI
    exact Ok.ret ⟨by have := hI.1; simp only at this; show out.length ≤ 294; omega, fun x hx => by have := hI.2.2.2 x hx; exact ⟨by have h6 := this.1; omega, this.2⟩⟩
end Go.Pw
