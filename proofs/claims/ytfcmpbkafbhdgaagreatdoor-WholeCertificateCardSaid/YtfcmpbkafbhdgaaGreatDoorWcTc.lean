/- -/
import Derived.Test.YtfcmpbkafbhdgaaGreatDoorWcTa
set_option maxHeartbeats 8000000
set_option linter.unusedSimpArgs false
set_option linter.unusedVariables false
namespace Go.Pw
theorem Qk4 (a b : Fact) : eqs [a.Var, a.Val] [b.Var, b.Val] = true ↔ a = b := by
 obtain ⟨a1, a2⟩ := a
 obtain ⟨b1, b2⟩ := b
 simp [eqs]
theorem QhU (s : List Fact) : Yi s = Qfs (fun a b => eqs [a.Var, a.Val] [b.Var, b.Val]) ⟨0, 0⟩ s := rfl
theorem Qkn {l : List Fact} (h : l.length ≤ 1000000) : ∃ k, Qat l = some k ∧ k.Perm l ∧ k.Pairwise fun a b => ¬ FLt b a := by
 refine ⟨l.mergeSort fun x y => !decide (Qbr y x < 0), ?_, List.mergeSort_perm _ _, ?_⟩
 ·unfold Qat; rw [if_pos (by omega)]
 have key : ∀ a b : Fact, (!decide (Qbr a b < 0)) = true ↔ ¬ FLt a b := fun a b => by rw [← Qb2]; simp
 have h := List.pairwise_mergeSort (le := fun x y : Fact => !decide (Qbr y x < 0)) (fun a b c h1 h2 => ?_) (fun a b => ?_) l
 ·exact h.imp fun {a b} h => (key b a).1 h
 ·have h1 := (key b a).1 h1
  have h2 := (key c b).1 h2
  refine (key c a).2 ?_
  unfold FLt at *; omega
 ·rw [Bool.or_eq_true, key b a, key a b]
  unfold FLt; omega
theorem QlX {k : List Fact} (h : k.Pairwise fun a b => ¬ FLt b a) : (dd none k).Pairwise FLt := by
 refine (Qg8 (le := fun a b => ¬ FLt b a) (lt := FLt) ?_ ?_ ?_ k none h (fun q hq => by cases hq)).1
 ·intro a b h1 h2
  obtain ⟨a1, a2⟩ := a; obtain ⟨b1, b2⟩ := b
  unfold FLt at *
  simp at h1 h2 ⊢
  omega
 ·intro a b c h1 h2; unfold FLt at *; omega
 ·intro a b c h1 h2; unfold FLt at *; omega
open Classical in
theorem Qlp {l : List Fact} (hl : l.length ≤ 1000000) (hn : ∀ f ∈ l, 0 ≤ f.Var ∧ 0 ≤ f.Val) :
  ∃ z, (∀ f, f ∈ z ↔ f ∈ l) ∧ z.Pairwise FLt ∧ KE l = some (if PV z then (z, none) else ([], some 2)) := by
 obtain ⟨k, hk, hp, hs⟩ := Qkn hl
 have hkl : k.length = l.length := hp.length_eq
 obtain ⟨r, hr, h1, h2, h3⟩ := Qi1 (eq := fun a b : Fact => eqs [a.Var, a.Val] [b.Var, b.Val]) Qk4 ⟨0, 0⟩ k (by omega)
 refine ⟨dd none k, fun f => by rw [QlQ, hp.mem_iff], QlX hs, ?_⟩
 have Yn : (dd none k).length ≤ 1000000 := by have := QjV k none; omega
 refine Ok.eq ?_
 unfold KE
 refine Ok.ctl (fun _ _ => True) (fun _ => False) trivial ?_ (fun _ h => h.elim) ?_
 ·intro i _ hi _
  obtain ⟨x, hx⟩ := Ql (xs := l) (i := i) (by omega)
  have hxn := hn x (List.mem_of_getElem? hx)
  have e1 : ¬ x.Var < 0 := by omega
  have e2 : ¬ x.Val < 0 := by omega
  rw [Qj, hx]
  simp only [Option.bind_some, e1, e2, decide_false, Bool.or_self, Bool.false_eq_true, if_false]
  exact Ok.ret trivial
 ·intro _ _
  rw [Qj3 hl]
  simp only [Option.bind_some, hk, QhU, hr, QK]
  refine Ok.must (by simpa using (by omega : r.1 ≤ r.2.length)) ?_
  rw [h3, Qjl _ Yn]
  simp only [Option.bind_some]
  by_cases h : PV (dd none k)
  ·simp only [h, decide_true, Bool.not_true, Bool.false_eq_true, if_false, if_true]; exact Ok.ret rfl
  ·simp only [h, decide_false, Bool.not_false, if_true, if_false]; exact Ok.ret rfl
structure JR (vars : List Int) (x y z : List Fact) : Prop where
 ok : FactsOK vars z
 m : ∀ f, f ∈ z ↔ f ∈ x ∨ f ∈ y
theorem FactsOK.ext {vars : List Int} {p q : List Fact} (hp : FactsOK vars p) (hq : FactsOK vars q) (h : ∀ f, f ∈ p ↔ f ∈ q) : p = q := by
 have key : ∀ (p q : List Fact), p.Pairwise (fun a b => a.Var < b.Var) → q.Pairwise (fun a b => a.Var < b.Var) → (∀ f, f ∈ p ↔ f ∈ q) → p = q := by
  intro p
  induction p with
  | nil =>
   intro q _ _ h
   match q with
   | [] => rfl
   | b :: q => exact absurd ((h b).2 (by simp)) (by simp)
  | cons a p ih =>
   intro q hp hq h
   match q with
   | [] => exact absurd ((h a).1 (by simp)) (by simp)
   | b :: q =>
    obtain ⟨h1, h2⟩ := List.pairwise_cons.1 hp
    obtain ⟨h3, h4⟩ := List.pairwise_cons.1 hq
    have e : a = b := by
     rcases List.mem_cons.1 ((h a).1 (by simp)) with e | e
     ·exact e
     rcases List.mem_cons.1 ((h b).2 (by simp)) with e' | e'
     ·exact e'.symm
     have := h3 a e
     have := h1 b e'
     omega
    subst e
    rw [ih q h2 h4]
    intro f
    constructor
    ·intro hf
     rcases List.mem_cons.1 ((h f).1 (List.mem_cons_of_mem _ hf)) with e | e
     ·subst e; exact absurd (h1 f hf) (by omega)
     ·exact e
    ·intro hf
     rcases List.mem_cons.1 ((h f).2 (List.mem_cons_of_mem _ hf)) with e | e
     ·subst e; exact absurd (h3 f hf) (by omega)
     ·exact e
 exact key p q hp.o hq.o h
theorem JR.uniq {vars : List Int} {x y z z' : List Fact} (h : JR vars x y z) (h' : JR vars x y z') : z = z' := h.ok.ext h'.ok fun f => by rw [h.m, h'.m]
theorem JR.hold {vars : List Int} {x y z : List Fact} (h : JR vars x y z) (s : List Int) : hold z s ↔ hold x s ∧ hold y s :=
 ⟨fun hz => ⟨fun f hf => hz f ((h.m f).2 (.inl hf)), fun f hf => hz f ((h.m f).2 (.inr hf))⟩, fun ⟨h1, h2⟩ f hf => ((h.m f).1 hf).elim (h1 f) (h2 f)⟩
theorem Qmu {vars : List Int} {x y z : List Fact} (h : JR vars x y z) {f g : Fact} (hf : f ∈ x) (hg : g ∈ y) (e : f.Var = g.Var) : f = g := h.ok.pv.uniq ((h.m f).2 (.inl hf)) ((h.m g).2 (.inr hg)) e
theorem Qja {vars : List Int} {x y : List Fact} (hx : FactsOK vars x) (hy : FactsOK vars y) (hv : vars.length ≤ 64) :
  Ok (Yk x y) fun r => (r.2 = true ∧ JR vars x y r.1) ∨ (r.2 = false ∧ ∃ f ∈ x, ∃ g ∈ y, f.Var = g.Var ∧ f.Val ≠ g.Val) := by
 classical
 have lx := hx.len
 have ly := hy.len
 unfold Yk
 rw [QaG x (by omega), QaG y (by omega), QaH (by omega : x.length ≤ 1000000)]
 simp only [hx.pv, hy.pv, decide_true, Bool.not_true, Bool.false_eq_true, if_false, Option.bind_some]
 rw [K4 (by omega)]
 simp only [Option.bind_some]
 obtain ⟨z, hm, hs, hz⟩ := Qlp (l := x ++ y) (by rw [List.length_append]; omega) (fun f hf => by
  rcases List.mem_append.1 hf with h | h
  ·exact hx.pv.n f h
  ·exact hy.pv.n f h)
 rw [hz]
 simp only [Option.bind_some]
 by_cases h : PV z
 ·simp only [h, if_true, QK, Option.isNone_none]
  refine Ok.ret (.inl ⟨Z, ⟨fun f hf => ?_, h.o⟩, fun f => by rw [hm, List.mem_append]⟩)
  rcases List.mem_append.1 ((hm f).1 hf) with h | h
  ·exact hx.r f h
  ·exact hy.r f h
 ·simp only [h, if_false, QK, Option.isNone_some]
  refine Ok.ret (.inr ⟨Z, ?_⟩)
  have hnn : ∀ f ∈ z, 0 ≤ f.Var ∧ 0 ≤ f.Val := fun f hf => by
   rcases List.mem_append.1 ((hm f).1 hf) with h | h
   ·exact hx.pv.n f h
   ·exact hy.pv.n f h
  have : ¬ ∀ (k : Nat) (a b : Fact), z[k]? = some a → z[k + 1]? = some b → a.Var < b.Var := fun hh => h ⟨hnn, Qgo hh⟩
  simp only [Classical.not_forall] at this
  obtain ⟨k, a, b, ha, hb, hlt⟩ := this
  have hf : FLt a b := by
   have h1 := List.getElem?_eq_some_iff.1 ha
   have h2 := List.getElem?_eq_some_iff.1 hb
   have := List.pairwise_iff_getElem.1 hs k (k + 1) h1.1 h2.1 (by omega)
   rw [h1.2, h2.2] at this
   exact this
  have he : a.Var = b.Var ∧ a.Val < b.Val := by unfold FLt at hf; omega
  rcases List.mem_append.1 ((hm a).1 (List.mem_of_getElem? ha)) with h1 | h1 <;> rcases List.mem_append.1 ((hm b).1 (List.mem_of_getElem? hb)) with h2 | h2
  ·have := hx.pv.uniq h1 h2 he.1
   subst this; omega
  ·exact ⟨a, h1, b, h2, he.1, by omega⟩
  ·exact ⟨b, h2, a, h1, he.1.symm, by omega⟩
  ·have := hy.pv.uniq h1 h2 he.1
   subst this; omega
/-! ### the binary search in a strictly sorted list of partial states -/
abbrev SrtL (l : List (List Fact)) : Prop := l.Pairwise LLt
theorem SrtL.lt {l : List (List Fact)} (h : SrtL l) {i j : Nat} {a b : List Fact} (ha : l[i]? = some a) (hb : l[j]? = some b) (hij : i < j) : LLt a b := by
 have h1 := List.getElem?_eq_some_iff.1 ha
 have h2 := List.getElem?_eq_some_iff.1 hb
 have := List.pairwise_iff_getElem.1 h i j h1.1 h2.1 hij
 rw [h1.2, h2.2] at this
 exact this
theorem Qjq {l : List (List Fact)} (hs : SrtL l) (hl : l.length ≤ 1000000) (z : List Fact) :
  Ok (Kz l z) fun r => ∃ n : Nat, r.1 = (n : Int) ∧ n ≤ l.length ∧ (∀ i a, i < n → l[i]? = some a → LLt a z) ∧ (∀ i a, n ≤ i → l[i]? = some a → ¬ LLt a z) ∧ (r.2 = true ↔ z ∈ l) := by
 unfold Kz
 refine QbC (fun s : Int × Int => ∃ i j : Nat, s = ((i : Int), (j : Int)) ∧ i ≤ j ∧ j ≤ l.length ∧ (∀ q a, q < i → l[q]? = some a → LLt a z) ∧ (∀ q a, j ≤ q → l[q]? = some a → ¬ LLt a z))
  (fun s => ∃ i : Nat, s = ((i : Int), (i : Int)) ∧ i ≤ l.length ∧ (∀ q a, q < i → l[q]? = some a → LLt a z) ∧ (∀ q a, i ≤ q → l[q]? = some a → ¬ LLt a z)) (fun _ => False) (fun s => (s.2 - s.1).toNat) ⟨0, l.length, rfl, Nat.zero_le _, Nat.le_refl _, fun q a h => by omega, fun q a h e => by have := (List.getElem?_eq_some_iff.1 e).1; omega⟩ ?_ (fun _ h => h.elim) ?_
 ·rintro _ ⟨i, j, rfl, hij, hj, h1, h2⟩
  by_cases hlt : i < j
  ·have hlt' : (i : Int) < (j : Int) := by omega
   have e1 : IntKind.i64.wrap ((i : Int) + (j : Int)) = ((i + j : Nat) : Int) := by rw [Q1 (by omega) (by omega)]; omega
   have e2 : IntKind.u64.wrap ((i + j : Nat) : Int) = ((i + j : Nat) : Int) := IntWalk.u64_in _ ⟨by omega, by omega⟩
   have e3 : ((i + j : Nat) : Int).fdiv (2 ^ 1) = (((i + j) / 2 : Nat) : Int) := by
    rw [Int.fdiv_eq_ediv_of_nonneg _ (by decide)]; omega
   have e4 : IntKind.i64.wrap ((((i + j) / 2 : Nat)) : Int) = (((i + j) / 2 : Nat) : Int) := Q1 (by omega) (by omega)
   have e5 : IntKind.i64.wrap ((((i + j) / 2 : Nat) : Int) + 1) = (((i + j) / 2 + 1 : Nat) : Int) := by rw [Q1 (by omega) (by omega)]; omega
   simp only [QK, hlt', decide_true, if_true, e1, e2, e3, e4, e5]
   obtain ⟨a, ha⟩ := Ql (xs := l) (i := (i + j) / 2) (by omega)
   rw [Qj, ha]
   simp only [Option.bind_some, QbI]
   by_cases hc : LLt a z
   ·have hc' := (Qag a z).2 hc
    simp only [hc', decide_true, if_true, Option.bind_some]
    refine Ok.ret ?_
    refine ⟨⟨(i + j) / 2 + 1, j, Z, by omega, hj, fun q b hq hb => ?_, h2⟩, by simp; omega⟩
    by_cases hq' : q = (i + j) / 2
    ·subst hq'; rw [ha] at hb; cases hb; exact hc
    ·exact (hs.lt hb ha (by omega)).trans hc
   ·have hc' : ¬ K5 a z < 0 := fun h => hc ((Qag a z).1 h)
    simp only [hc', decide_false, Bool.false_eq_true, if_false, Option.bind_some]
    refine Ok.ret ?_
    refine ⟨⟨i, (i + j) / 2, Z, by omega, by omega, h1, fun q b hq hb => ?_⟩, by simp; omega⟩
    by_cases hq' : q = (i + j) / 2
    ·subst hq'; rw [ha] at hb; cases hb; exact hc
    ·exact fun h => hc ((hs.lt ha hb (by omega)).trans h)
  ·have hlt' : ¬ (i : Int) < (j : Int) := by omega
   have : i = j := by omega
   subst this
   simp only [QK, hlt', decide_false, Bool.false_eq_true, if_false]
   exact Ok.ret ⟨i, Z, hj, h1, h2⟩
 ·rintro _ ⟨i, rfl, hi, h1, h2⟩
  simp only [QK]
  by_cases hlt : i < l.length
  ·have hlt' : (i : Int) < (l.length : Int) := by omega
   obtain ⟨a, ha⟩ := Ql hlt
   simp only [hlt', decide_true, if_true, Qj, ha, Option.bind_some, QbI]
   refine Ok.ret ⟨i, Z, hi, h1, h2, ?_⟩
   rw [decide_eq_true_eq, QbJ]
   constructor
   ·rintro rfl; exact List.mem_of_getElem? ha
   ·intro hz
    obtain ⟨q, hq⟩ := List.mem_iff_getElem?.1 hz
    by_cases hqi : q < i
    ·exact absurd (h1 q z hqi hq) (LLt.irrefl z)
    ·by_cases e : q = i
     ·subst e; rw [ha] at hq; exact Zu hq
     ·exact absurd (hs.lt ha hq (by omega)) (h2 i a (Nat.le_refl _) ha)
  ·have hlt' : ¬ (i : Int) < (l.length : Int) := by omega
   simp only [hlt', decide_false, Bool.false_eq_true, if_false, Option.bind_some]
   refine Ok.ret ⟨i, Z, hi, h1, h2, ?_⟩
   constructor
   ·intro h; cases h
   ·intro hz
    obtain ⟨q, hq⟩ := List.mem_iff_getElem?.1 hz
    have := (List.getElem?_eq_some_iff.1 hq).1
    exact absurd (h1 q z (by omega) hq) (LLt.irrefl z)
theorem Qiw {l : List (List Fact)} (hs : SrtL l) {n : Nat} (hn : n ≤ l.length) {z : List Fact} (h1 : ∀ i a, i < n → l[i]? = some a → LLt a z) (h2 : ∀ i a, n ≤ i → l[i]? = some a → ¬ LLt a z) (hz : z ∉ l) : SrtL (l.take n ++ [z] ++ l.drop n) := by
 have ht : ∀ a ∈ l.take n, LLt a z := fun a ha => by
  obtain ⟨i, hi⟩ := List.mem_iff_getElem?.1 ha
  have hi' : i < n := by have := (List.getElem?_eq_some_iff.1 hi).1; simp at this; omega
  rw [List.getElem?_take_of_lt hi'] at hi
  exact h1 i a hi' hi
 have hd : ∀ a ∈ l.drop n, LLt z a := fun a ha => by
  obtain ⟨i, hi⟩ := List.mem_iff_getElem?.1 ha
  rw [List.getElem?_drop] at hi
  rcases QeY z a with h | rfl | h
  ·exact h
  ·exact absurd (List.mem_of_getElem? hi) hz
  ·exact absurd h (h2 (n + i) a (by omega) hi)
 have hp : (l.take n ++ l.drop n).Pairwise LLt := by rw [List.take_append_drop]; exact hs
 obtain ⟨p1, p2, p3⟩ := List.pairwise_append.1 hp
 show (l.take n ++ [z] ++ l.drop n).Pairwise LLt
 rw [List.append_assoc, List.pairwise_append]
 refine ⟨p1, ?_, ?_⟩
 ·rw [List.singleton_append, List.pairwise_cons]; exact ⟨hd, p2⟩
 ·intro a ha b hb
  rcases List.mem_append.1 hb with h | h
  ·rw [List.mem_singleton.1 h]; exact ht a ha
  ·exact p3 a ha b h
def Cap (vars : List Int) (M : Nat) : Prop := ∀ l : List (List Fact), l.Nodup → (∀ p ∈ l, FactsOK vars p) → l.length ≤ M
structure JInv (vars : List Int) (P : List Fact → Prop) (out srt : List (List Fact)) : Prop where
 nd : out.Nodup
 ok : ∀ z ∈ out, FactsOK vars z
 m : ∀ z, z ∈ out ↔ P z
 s : SrtL srt
 sm : ∀ z, z ∈ srt ↔ z ∈ out
theorem Qky {vars : List Int} (hv : vars.length ≤ 64) {M : Nat} (hM : Cap vars M) (hM' : M ≤ 1000) {a b : List (List Fact)} (ha : ∀ x ∈ a, FactsOK vars x) (hb : ∀ y ∈ b, FactsOK vars y) :
  Ok (Ju a b) fun r => r.2 = none ∧ r.1.Nodup ∧ (∀ z ∈ r.1, FactsOK vars z) ∧ ∀ z, z ∈ r.1 ↔ ∃ x ∈ a, ∃ y ∈ b, JR vars x y z := by
 unfold Ju
 refine Ok.ctl (fun i (s : List (List Fact) × List (List Fact)) => JInv vars (fun z => ∃ x ∈ a.take i, ∃ y ∈ b, JR vars x y z) s.1 s.2) (fun _ => False) ⟨List.nodup_nil, by simp, by simp, List.Pairwise.nil, by simp⟩ ?_ (fun _ h => h.elim) ?_
 ·rintro i ⟨out, srt⟩ hi h
  obtain ⟨x, hx⟩ := Ql (xs := a) (i := i) (by omega)
  rw [QK, Qj, hx]
  simp only [Option.bind_some]
  refine Ok.ctl (fun j (s : List (List Fact) × List (List Fact)) => JInv vars (fun z => (∃ x ∈ a.take i, ∃ y ∈ b, JR vars x y z) ∨ ∃ y ∈ b.take j, JR vars x y z) s.1 s.2) (fun _ => False) ?_ ?_ (fun _ h => h.elim) ?_
  ·exact { h with m := fun z => by rw [h.m]; simp }
  ·rintro j ⟨l, k⟩ hj h
   obtain ⟨y, hy⟩ := Ql (xs := b) (i := j) (by omega)
   rw [QK, Qj, hy]
   simp only [Option.bind_some]
   obtain ⟨r, hr, hc⟩ := Qja (ha x (List.mem_of_getElem? hx)) (hb y (List.mem_of_getElem? hy)) hv
   rw [hr]
   obtain ⟨z, b'⟩ := r
   simp only [Option.bind_some, QK]
   rcases hc with ⟨rfl, hz⟩ | ⟨rfl, f, hf, g, hg, e1, e2⟩
   ·simp only [Bool.not_true, Bool.false_eq_true, if_false]
    have hs' : SrtL k := h.s
    have hkn : k.Nodup := hs'.imp fun {p q} hpq => by intro e; subst e; exact LLt.irrefl p hpq
    have hkl : k.length ≤ M := hM k hkn fun z hz => h.ok z ((h.sm z).1 hz)
    have hll : l.length ≤ M := hM l h.nd h.ok
    obtain ⟨r2, hr2, n, e1, hn, h1, h2, h3⟩ := Qjq hs' (by omega) z
    rw [hr2]
    obtain ⟨at_, fd⟩ := r2
    simp only at e1
    subst e1
    simp only [Option.bind_some, QK]
    by_cases hfd : fd = true
    ·simp only [hfd, if_true]
     have hzl := (h.sm z).1 (h3.1 hfd)
     refine Ok.ret { h with m := fun w => ?_ }
     rw [h.m, Qu hy]
     constructor
     ·rintro (h | ⟨y', hy', h⟩)
      ·exact .inl h
      ·exact .inr ⟨y', List.mem_append_left _ hy', h⟩
     ·rintro (h' | ⟨y', hy', h'⟩)
      ·exact .inl h'
      ·rcases List.mem_append.1 hy' with q | q
       ·exact .inr ⟨y', q, h'⟩
       ·rw [List.mem_singleton.1 q] at h'
        rw [h'.uniq hz]
        exact (h.m z).1 hzl
    ·have hfd' : fd = false := by simpa using hfd
     subst hfd'
     have hzk : z ∉ k := fun q => by simpa using h3.2 q
     have hzl : z ∉ l := fun q => hzk ((h.sm z).2 q)
     have e1024 : ¬ (l.length : Int) = 1024 := by omega
     simp only [Bool.false_eq_true, if_false, e1024, decide_false]
     unfold QgL
     rw [if_pos ⟨by omega, by omega, by simp; omega⟩]
     simp only [Option.bind_some, Int.toNat_natCast]
     rw [K4 (by simp; omega)]
     simp only [Option.bind_some]
     refine Ok.ret ⟨?_, ?_, ?_, Qiw h.s hn h1 h2 hzk, ?_⟩
     ·rw [List.nodup_append]
      exact ⟨h.nd, by simp, fun p hp q hq => by rw [List.mem_singleton.1 hq]; rintro rfl; exact hzl hp⟩
     ·intro w hw
      rcases List.mem_append.1 hw with q | q
      ·exact h.ok w q
      ·rw [List.mem_singleton.1 q]; exact hz.ok
     ·intro w
      rw [List.mem_append, h.m, List.mem_singleton, Qu hy]
      constructor
      ·rintro ((h | ⟨y', hy', h⟩) | rfl)
       ·exact .inl h
       ·exact .inr ⟨y', List.mem_append_left _ hy', h⟩
       ·exact .inr ⟨y, by simp, hz⟩
      ·rintro (h' | ⟨y', hy', h'⟩)
       ·exact .inl (.inl h')
       ·rcases List.mem_append.1 hy' with q | q
        ·exact .inl (.inr ⟨y', q, h'⟩)
        ·rw [List.mem_singleton.1 q] at h'
         exact .inr (h'.uniq hz)
     ·intro w
      rw [List.mem_append, List.mem_append, List.mem_append, List.mem_singleton, ← h.sm]
      have : w ∈ k ↔ w ∈ k.take n ∨ w ∈ k.drop n := by rw [← List.mem_append, List.take_append_drop]
      rw [this]
      constructor
      ·rintro ((h | h) | h)
       ·exact .inl (.inl h)
       ·exact .inr h
       ·exact .inl (.inr h)
      ·rintro ((h | h) | h)
       ·exact .inl (.inl h)
       ·exact .inr h
       ·exact .inl (.inr h)
   ·simp only [Bool.not_false, if_true]
    refine Ok.ret { h with m := fun w => ?_ }
    rw [h.m, Qu hy]
    constructor
    ·rintro (h | ⟨y', hy', h⟩)
     ·exact .inl h
     ·exact .inr ⟨y', List.mem_append_left _ hy', h⟩
    ·rintro (h' | ⟨y', hy', h'⟩)
     ·exact .inl h'
     ·rcases List.mem_append.1 hy' with q | q
      ·exact .inr ⟨y', q, h'⟩
      ·rw [List.mem_singleton.1 q] at h'
       have := Qmu h' hf hg e1
       subst this
       exact absurd Z e2
  ·rintro ⟨l, k⟩ h
   refine Ok.ret { h with m := fun w => ?_ }
   rw [h.m, List.take_length, Qu hx]
   constructor
   ·rintro (⟨x', hx', h⟩ | h)
    ·exact ⟨x', List.mem_append_left _ hx', h⟩
    ·exact ⟨x, by simp, h⟩
   ·rintro ⟨x', hx', h⟩
    rcases List.mem_append.1 hx' with q | q
    ·exact .inl ⟨x', q, h⟩
    ·rw [List.mem_singleton.1 q] at h; exact .inr h
 ·rintro ⟨out, srt⟩ h
  refine Ok.ret ⟨Z, h.nd, h.ok, fun z => ?_⟩
  rw [h.m, List.take_length]
end Go.Pw
/- -/
set_option maxHeartbeats 8000000
namespace Go.Pw
theorem FactsOK.one {vars : List Int} {f : Fact} (h : InR vars f) : FactsOK vars [f] := ⟨fun x hx => by rw [List.mem_singleton.1 hx]; exact h, by simp⟩
theorem Qd6 {f : Fact} {s : List Int} : hold [f] s ↔ s[f.Var.toNat]? = some f.Val := by simp [hold]
def YG (l : List (List Fact)) (s : List Int) : Prop := ∃ z ∈ l, hold z s
theorem Qjp {vars : List Int} (hv : ∀ n ∈ vars, 1 ≤ n ∧ n ≤ 64) {e : Effect} (hw : FactsOK vars e.When) (h2 : e.When.length ≤ 2) :
  Ok (J2 vars e) fun r => r.2 = none ∧ (∀ z ∈ r.1, FactsOK vars z) ∧ ∀ s, StateOK vars s → (YG r.1 s ↔ ¬ hold e.When s) := by
 unfold J2
 have hd : ∀ x ∈ e.When, ∃ d, QD vars x.Var = some d ∧ 1 ≤ d ∧ d ≤ 64 ∧ dom vars x.Var = d := fun x hx => by
  have hr := hw.r x hx
  refine ⟨dom vars x.Var, QeT hr.1 hr.2.1, ?_, ?_, Z⟩ <;>
  ·have : dom vars x.Var ∈ vars := by
    unfold dom
    obtain ⟨y, hy⟩ := Ql (xs := vars) (i := x.Var.toNat) (by have := hr.1; have := hr.2.1; omega)
    rw [hy]; exact List.mem_of_getElem? hy
   have := hv _ this
   omega
 refine Ok.bind (Ok.mono (P := fun out : List (List Fact) => out.length ≤ 128 ∧ ∀ z, z ∈ out ↔ ∃ x ∈ e.When, ∃ y : Int, 0 ≤ y ∧ y < dom vars x.Var ∧ y ≠ x.Val ∧ z = [⟨x.Var, y⟩]) ?_ ?_)
 ·refine J5 (fun i (out : List (List Fact)) => out.length ≤ 64 * i ∧ ∀ z, z ∈ out ↔ ∃ x ∈ e.When.take i, ∃ y : Int, 0 ≤ y ∧ y < dom vars x.Var ∧ y ≠ x.Val ∧ z = [⟨x.Var, y⟩]) ⟨by simp, by simp⟩ ?_ ?_
  ·rintro i out hi ⟨hl, hm⟩
   obtain ⟨x, hx⟩ := Ql (xs := e.When) (i := i) (by omega)
   obtain ⟨d, hd1, hd2, hd3, hd4⟩ := hd x (List.mem_of_getElem? hx)
   rw [Qj, hx]
   simp only [Option.bind_some, hd1]
   refine Ok.must (by simp; omega) ?_
   refine Ok.bind (Ok.mono (P := fun l : List (List Fact) => l.length ≤ out.length + 64 ∧ ∀ z, z ∈ l ↔ z ∈ out ∨ ∃ y : Int, 0 ≤ y ∧ y < d ∧ y ≠ x.Val ∧ z = [⟨x.Var, y⟩]) ?_ ?_)
   ·refine J5 (fun j (l : List (List Fact)) => l.length ≤ out.length + j ∧ ∀ z, z ∈ l ↔ z ∈ out ∨ ∃ y : Int, 0 ≤ y ∧ y < (j : Int) ∧ y ≠ x.Val ∧ z = [⟨x.Var, y⟩]) ⟨by omega, fun z => ⟨.inl, fun h => h.elim id (by rintro ⟨y, a, b, _⟩; omega)⟩⟩ ?_ ?_
    ·rintro j l hj ⟨hl', hm'⟩
     by_cases hy : (j : Int) = x.Val
     ·simp only [hy, decide_true, Bool.not_true, Bool.false_eq_true, if_false, Option.bind_some]
      refine Ok.ret ⟨by omega, fun z => ?_⟩
      rw [hm']
      constructor
      ·rintro (h | ⟨y, a, b, c⟩)
       ·exact .inl h
       ·exact .inr ⟨y, a, by omega, c⟩
      ·rintro (h | ⟨y, a, b, c, q⟩)
       ·exact .inl h
       ·exact .inr ⟨y, a, by omega, c, q⟩
     ·simp only [hy, decide_false, Bool.not_false, if_true]
      rw [K4 (by simp; omega)]
      simp only [Option.bind_some]
      refine Ok.ret ⟨by simp; omega, fun z => ?_⟩
      rw [List.mem_append, hm', List.mem_singleton]
      constructor
      ·rintro ((h | ⟨y, a, b, c⟩) | h)
       ·exact .inl h
       ·exact .inr ⟨y, a, by omega, c⟩
       ·exact .inr ⟨(j : Int), by omega, by omega, hy, h⟩
      ·rintro (h | ⟨y, a, b, c, q⟩)
       ·exact .inl (.inl h)
       ·by_cases e : y = (j : Int)
        ·subst e; exact .inr q
        ·exact .inl (.inr ⟨y, a, by omega, c, q⟩)
    ·rintro l ⟨h1, h2⟩
     refine ⟨by omega, fun z => ?_⟩
     rw [h2, show ((d.toNat : Nat) : Int) = d by omega]
   ·rintro l ⟨h1, h2⟩
    refine Ok.ret ⟨by omega, fun z => ?_⟩
    rw [h2, hm, Qu hx]
    constructor
    ·rintro (⟨x', hx', h⟩ | h)
     ·exact ⟨x', List.mem_append_left _ hx', h⟩
     ·exact ⟨x, by simp, by rw [hd4]; exact h⟩
    ·rintro ⟨x', hx', h⟩
     rcases List.mem_append.1 hx' with q | q
     ·exact .inl ⟨x', q, h⟩
     ·rw [List.mem_singleton.1 q, hd4] at h; exact .inr h
  ·rintro out ⟨h1, h2⟩
   refine ⟨by omega, fun z => ?_⟩
   rw [h2, List.take_length]
 ·rintro out ⟨h1, hm⟩
  have : ¬ 1024 < (out.length : Int) := by omega
  simp only [this, decide_false, Bool.false_eq_true, if_false]
  refine Ok.ret ⟨Z, fun z hz => ?_, fun s hs => ?_⟩
  ·obtain ⟨x, hx, y, h0, h1, _, rfl⟩ := (hm z).1 hz
   have hr := hw.r x hx
   exact FactsOK.one ⟨hr.1, hr.2.1, h0, h1⟩
  ·constructor
   ·rintro ⟨z, hz, hh⟩ hn
    obtain ⟨x, hx, y, h0, h1, h3, rfl⟩ := (hm z).1 hz
    have a := Qd6.1 hh
    have b := hn x hx
    simp only at a
    rw [a] at b
    exact h3 (Zu b)
   ·intro hn
    have : ∃ x ∈ e.When, s[x.Var.toNat]? ≠ some x.Val := by
     apply Classical.byContradiction
     intro hno
     exact hn fun x hx => Classical.byContradiction fun h => hno ⟨x, hx, h⟩
    obtain ⟨x, hx, hne⟩ := this
    have hr := hw.r x hx
    obtain ⟨y, hy, h0, h1⟩ := hs.at hr.1 hr.2.1
    exact ⟨[⟨x.Var, y⟩], (hm _).2 ⟨x, hx, y, h0, h1, fun e => hne (by rw [hy, e]), Z⟩, Qd6.2 hy⟩
theorem Qh3 {vars : List Int} (hv : vars.length ≤ 64) {M : Nat} (hM : Cap vars M) (hM' : M ≤ 1000) {a b : List (List Fact)} (ha : ∀ x ∈ a, FactsOK vars x) (hb : ∀ y ∈ b, FactsOK vars y) :
  Ok (Ju a b) fun r => r.2 = none ∧ r.1.Nodup ∧ (∀ z ∈ r.1, FactsOK vars z) ∧ ∀ s, StateOK vars s → (YG r.1 s ↔ YG a s ∧ YG b s) := by
 refine (Qky hv hM hM' ha hb).mono ?_
 rintro ⟨out, e⟩ ⟨h1, h2, h3, h4⟩
 refine ⟨h1, h2, h3, fun s hs => ?_⟩
 constructor
 ·rintro ⟨z, hz, hh⟩
  obtain ⟨x, hx, y, hy, hj⟩ := (h4 z).1 hz
  have := (hj.hold s).1 hh
  exact ⟨⟨x, hx, this.1⟩, ⟨y, hy, this.2⟩⟩
 ·rintro ⟨⟨x, hx, h5⟩, ⟨y, hy, h6⟩⟩
  obtain ⟨r, hr, hc⟩ := Qja (ha x hx) (hb y hy) hv
  rcases hc with ⟨_, hz⟩ | ⟨_, f, hf, g, hg, e1, e2⟩
  ·exact ⟨r.1, (h4 _).2 ⟨x, hx, y, hy, hz⟩, (hz.hold s).2 ⟨h5, h6⟩⟩
  ·exfalso
   have a := h5 f hf
   have b := h6 g hg
   rw [e1, b] at a
   exact e2 (Zu a).symm
noncomputable def Qex (E : List Effect) (c : Int) (s : List Int) : Int := by
 classical exact E.foldl (fun c e => if hold e.When s then e.Val else c) c
open Classical in
theorem Qf9 (E : List Effect) (e : Effect) (c : Int) (s : List Int) : Qex (E ++ [e]) c s = if hold e.When s then e.Val else Qex E c s := by simp [Qex]
theorem Qhd (effs : List Effect) (v : Int) (s : List Int) : Qdt effs v s = Qex (effs.filter fun e => decide (e.Var = v)) (s[v.toNat]?.getD 0) s := by
 classical
 refine QaB (P := fun effs => Qdt effs v s = Qex (effs.filter fun e => decide (e.Var = v)) (s[v.toNat]?.getD 0) s) Z ?_ effs
 intro l x ih
 rw [Qg7, List.filter_append]
 by_cases h : x.Var = v
 ·rw [List.filter_cons_of_pos (by simpa using h), List.filter_nil, Qf9, ih]
  by_cases h' : hold x.When s <;> simp [h, h']
 ·rw [List.filter_cons_of_neg (by simpa using h), List.filter_nil, List.append_nil, ih, if_neg (fun q => h q.1)]
def QaZ (E : List Effect) (c val : Int) (s : List Int) (i : Nat) : Prop :=
 (match i with | 0 => c = val | k + 1 => ∃ e, E[k]? = some e ∧ e.Val = val ∧ hold e.When s) ∧ ∀ e ∈ E.drop i, e.Val ≠ val → ¬ hold e.When s
theorem Qjv (E : List Effect) (c val : Int) (s : List Int) : Qex E c s = val ↔ ∃ i, i ≤ E.length ∧ QaZ E c val s i := by
 classical
 refine QaB (P := fun E => Qex E c s = val ↔ ∃ i, i ≤ E.length ∧ QaZ E c val s i) ?_ ?_ E
 ·constructor
  ·intro h; exact ⟨0, Nat.le_refl _, h, by simp⟩
  ·rintro ⟨i, hi, h, _⟩
   have : i = 0 := by simpa using hi
   subst this; exact h
 ·intro E e ih
  rw [Qf9]
  have hup : ∀ i, i ≤ E.length → (e.Val ≠ val → ¬ hold e.When s) → QaZ E c val s i → QaZ (E ++ [e]) c val s i := by
   rintro i hi hx ⟨h1, h2⟩
   refine ⟨?_, ?_⟩
   ·cases i with
    | zero => exact h1
    | succ k => obtain ⟨e', he', h⟩ := h1; exact ⟨e', by rw [List.getElem?_append_left (by omega)]; exact he', h⟩
   ·intro e' he'
    rw [List.drop_append_of_le_length hi] at he'
    rcases List.mem_append.1 he' with q | q
    ·exact h2 e' q
    ·rw [List.mem_singleton.1 q]; exact hx
  have hdn : ∀ i, i ≤ E.length → QaZ (E ++ [e]) c val s i → QaZ E c val s i ∧ (e.Val ≠ val → ¬ hold e.When s) := by
   rintro i hi ⟨h1, h2⟩
   rw [List.drop_append_of_le_length hi] at h2
   refine ⟨⟨?_, fun e' he' => h2 e' (List.mem_append_left _ he')⟩, h2 e (by simp)⟩
   cases i with
   | zero => exact h1
   | succ k => obtain ⟨e', he', h⟩ := h1; rw [List.getElem?_append_left (by omega)] at he'; exact ⟨e', he', h⟩
  have hlast : QaZ (E ++ [e]) c val s (E.length + 1) ↔ e.Val = val ∧ hold e.When s := by
   constructor
   ·rintro ⟨⟨e', he', h⟩, _⟩
    rw [List.getElem?_append_right (Nat.le_refl _)] at he'
    simp at he'
    subst he'; exact h
   ·intro h
    refine ⟨⟨e, by simp, h⟩, fun e' he' => ?_⟩
    rw [List.drop_of_length_le (by simp)] at he'
    simp at he'
  by_cases hh : hold e.When s
  ·rw [if_pos hh]
   constructor
   ·intro h; exact ⟨E.length + 1, by simp, hlast.2 ⟨h, hh⟩⟩
   ·rintro ⟨i, hi, h⟩
    by_cases hi' : i ≤ E.length
    ·exact Classical.byContradiction fun hn => (hdn i hi' h).2 hn hh
    ·have : i = E.length + 1 := by simp at hi; omega
     subst this; exact (hlast.1 h).1
  ·rw [if_neg hh, ih]
   constructor
   ·rintro ⟨i, hi, h⟩; exact ⟨i, by simp; omega, hup i hi (fun _ => hh) h⟩
   ·rintro ⟨i, hi, h⟩
    by_cases hi' : i ≤ E.length
    ·exact ⟨i, hi', (hdn i hi' h).1⟩
    ·have : i = E.length + 1 := by simp at hi; omega
     subst this; exact absurd (hlast.1 h).2 hh
structure ShortT (t : Task) : Prop where
 g : GoodT t
 w : ∀ o ∈ t.Ops, ∀ e ∈ o.Effs, e.When.length ≤ 2
theorem Qf4 {vars : List Int} (hv : ∀ n ∈ vars, 1 ≤ n ∧ n ≤ 64) (hn : vars.length ≤ 64) {M : Nat} (hM : Cap vars M) (hM' : M ≤ 1000) {E : List Effect} (hE : ∀ e ∈ E, FactsOK vars e.When ∧ e.When.length ≤ 2) {val : Int} {l0 : List (List Fact)} (h0 : ∀ z ∈ l0, FactsOK vars z)
  {β : Type} {Q : β → Prop} {k : List (List Fact) → Option β} {kr : (List (List Fact)) × (Option Int) → Option β}
  (hk : ∀ l, (∀ z ∈ l, FactsOK vars z) → (∀ s, StateOK vars s → (YG l s ↔ YG l0 s ∧ ∀ e ∈ E, e.Val ≠ val → ¬ hold e.When s)) → Ok (k l) Q) :
  Ok (ctl (QI (R := ((List (List Fact)) × (Option Int))) (fun i102 => fun (list100 : (List (List Fact))) => (QD E (i102 : Int)).bind fun x102 =>
   if decide (x102.Val = val) then (some (Ctl.next list100))
   else ((J2 vars x102).bind <| QK fun (y100 : (List (List Fact))) (y101 : (Option Int)) =>
   if y101.isSome then (some (Ctl.ret ([], y101)))
   else ((Ju list100 y100).bind <| QK fun (y102 : (List (List Fact))) (y103 : (Option Int)) =>
   if y103.isSome then (some (Ctl.ret ([], y103)))
   else (some (Ctl.next y102))))) (E.length) 0 l0) kr k) Q := by
 refine Ok.ctl (fun i (l : List (List Fact)) => (∀ z ∈ l, FactsOK vars z) ∧ ∀ s, StateOK vars s → (YG l s ↔ YG l0 s ∧ ∀ e ∈ E.take i, e.Val ≠ val → ¬ hold e.When s)) (fun _ => False) ⟨h0, by simp⟩ ?_ (fun _ h => h.elim) ?_
 ·rintro i l hi ⟨h1, h2⟩
  obtain ⟨e, he⟩ := Ql (xs := E) (i := i) (by omega)
  have hE' := hE e (List.mem_of_getElem? he)
  rw [Qj, he]
  simp only [Option.bind_some]
  by_cases hval : e.Val = val
  ·simp only [hval, decide_true, if_true]
   refine Ok.ret ⟨h1, fun s hs => ?_⟩
   rw [h2 s hs, Qu he]
   constructor
   ·rintro ⟨a, b⟩
    refine ⟨a, fun e' he' => ?_⟩
    rcases List.mem_append.1 he' with q | q
    ·exact b e' q
    ·rw [List.mem_singleton.1 q]; exact fun h => absurd hval h
   ·rintro ⟨a, b⟩
    exact ⟨a, fun e' he' => b e' (List.mem_append_left _ he')⟩
  ·simp only [hval, decide_false, Bool.false_eq_true, if_false]
   obtain ⟨r, hr, h3, h4, h5⟩ := Qjp hv hE'.1 hE'.2
   obtain ⟨q, qe⟩ := r
   simp only at h3 h4 h5
   subst h3
   rw [hr]
   simp only [Option.bind_some, QK, Option.isSome_none, Bool.false_eq_true, if_false]
   obtain ⟨r, hr, h6, _, h7, h8⟩ := Qh3 hn hM hM' h1 h4
   obtain ⟨q', qe'⟩ := r
   simp only at h6 h7 h8
   subst h6
   rw [hr]
   simp only [Option.bind_some, QK, Option.isSome_none, Bool.false_eq_true, if_false]
   refine Ok.ret ⟨h7, fun s hs => ?_⟩
   rw [h8 s hs, h2 s hs, h5 s hs, Qu he]
   constructor
   ·rintro ⟨⟨a, b⟩, c⟩
    refine ⟨a, fun e' he' => ?_⟩
    rcases List.mem_append.1 he' with q | q
    ·exact b e' q
    ·rw [List.mem_singleton.1 q]; exact fun _ => c
   ·rintro ⟨a, b⟩
    exact ⟨⟨a, fun e' he' => b e' (List.mem_append_left _ he')⟩, b e (by simp) hval⟩
 ·rintro l ⟨h1, h2⟩
  rw [List.take_length] at h2
  exact hk l h1 h2
open Classical in
theorem QkC (l : List (List Fact)) (z : List Fact) : Jw l z = some (decide (z ∈ l)) := by
 unfold Jw
 obtain ⟨r, hr, h⟩ : Ok (JH l z) fun r => 0 ≤ r ↔ z ∈ l := by
  unfold JH
  refine Ok.ctl (fun i _ => ∀ y ∈ l.take i, y ≠ z) (fun r => 0 ≤ r ↔ z ∈ l) (by simp) ?_ (fun r h => Ok.ret h) ?_
  ·intro i _ hi h
   obtain ⟨x, hx⟩ := Ql (xs := l) (i := i) (by omega)
   rw [Qj, hx]
   simp only [Option.bind_some]
   unfold KL
   rw [QbI]
   simp only [Option.bind_some]
   by_cases e : K5 x z = 0
   ·have e' := (QbJ x z).1 e
    subst e'
    simp only [e, decide_true, if_true]
    have hm : x ∈ l := List.mem_of_getElem? hx
    have h' : (0 : Int) ≤ (i : Int) ↔ x ∈ l := ⟨fun _ => hm, fun _ => by omega⟩
    exact Ok.ret h'
   ·simp only [e, decide_false, Bool.false_eq_true, if_false]
    refine Ok.ret ?_
    intro y hy
    rw [Qu hx] at hy
    rcases List.mem_append.1 hy with q | q
    ·exact h y q
    ·rw [List.mem_singleton.1 q]; exact fun e' => e ((QbJ x z).2 e')
  ·intro _ h
   rw [List.take_length] at h
   refine Ok.ret ⟨fun h => by omega, fun hz => absurd Z (h z hz)⟩
 rw [hr]
 simp only [Option.bind_some]
 congr 1
 exact decide_eq_decide.2 h
open Classical in
theorem Qfx {vars : List Int} {M : Nat} (hM : Cap vars M) (hM' : M ≤ 1000) {l out : List (List Fact)} (hl : ∀ z ∈ l, FactsOK vars z) (hn : out.Nodup) (ho : ∀ z ∈ out, FactsOK vars z) :
  Ok (forS (fun i103 => fun (l102 : (List (List Fact))) => (QD l (i103 : Int)).bind fun x103 =>
   (Jw l102 x103).bind <| fun (y104 : Bool) =>
   (if !y104 then ((app 24 l102 [x103]).bind fun l103 =>
   some l103)
   else (some l102)).bind (fun (l104 : (List (List Fact))) => some l104)) (l.length) 0 out) fun r => r.Nodup ∧ (∀ z ∈ r, FactsOK vars z) ∧ ∀ z, z ∈ r ↔ z ∈ out ∨ z ∈ l := by
 refine J5 (fun i (r : List (List Fact)) => r.Nodup ∧ (∀ z ∈ r, FactsOK vars z) ∧ ∀ z, z ∈ r ↔ z ∈ out ∨ z ∈ l.take i) ⟨hn, ho, by simp⟩ ?_ ?_
 ·rintro i r hi ⟨h1, h2, h3⟩
  obtain ⟨x, hx⟩ := Ql (xs := l) (i := i) (by omega)
  rw [Qj, hx]
  simp only [Option.bind_some, QkC]
  by_cases h : x ∈ r
  ·simp only [h, decide_true, Bool.not_true, Bool.false_eq_true, if_false, Option.bind_some]
   refine Ok.ret ⟨h1, h2, fun z => ?_⟩
   rw [h3, Qu hx, List.mem_append, List.mem_singleton]
   constructor
   ·rintro (a | a)
    ·exact .inl a
    ·exact .inr (.inl a)
   ·rintro (a | a | rfl)
    ·exact .inl a
    ·exact .inr a
    ·exact (h3 z).1 h
  ·have hlen := hM r h1 h2
   simp only [h, decide_false, Bool.not_false, if_true]
   rw [K4 (by simp; omega)]
   simp only [Option.bind_some]
   refine Ok.ret ⟨?_, ?_, fun z => ?_⟩
   ·rw [List.nodup_append]
    exact ⟨h1, by simp, fun p hp q hq => by rw [List.mem_singleton.1 hq]; rintro rfl; exact h hp⟩
   ·intro w hw
    rcases List.mem_append.1 hw with q | q
    ·exact h2 w q
    ·rw [List.mem_singleton.1 q]; exact hl x (List.mem_of_getElem? hx)
   ·rw [List.mem_append, h3, Qu hx, List.mem_append, List.mem_singleton, or_assoc]
 ·rintro r ⟨h1, h2, h3⟩
  rw [List.take_length] at h3
  exact ⟨h1, h2, h3⟩
end Go.Pw
/- -/
set_option maxHeartbeats 8000000
namespace Go.Pw
theorem QlY {α : Type} {xs : List α} {n : Nat} (h : n ≤ xs.length) : cut xs (n : Int) (xs.length : Int) = some (xs.drop n) := by
 unfold cut
 rw [if_pos ⟨by omega, by omega, by omega⟩]
 simp
theorem QkE {vars : List Int} (hv : ∀ n ∈ vars, 1 ≤ n ∧ n ≤ 64) (hn : vars.length ≤ 64) {M : Nat} (hM : Cap vars M) (hM' : M ≤ 1000) {o : Op} (ho : ∀ e ∈ o.Effs, FactsOK vars e.When ∧ e.When.length ≤ 2) (hne : o.Effs.length ≤ 64) {f : Fact} (hf : InR vars f) :
  Ok (KS vars o f) fun r => r.2 = none ∧ r.1.Nodup ∧ (∀ z ∈ r.1, FactsOK vars z) ∧ ∀ s, StateOK vars s → (YG r.1 s ↔ Qdt o.Effs f.Var s = f.Val) := by
 unfold KS
 refine Ok.bind (Ok.mono (P := fun E => E = o.Effs.filter fun e => decide (e.Var = f.Var)) ?_ ?_)
 ·refine J5 (fun i (E : List Effect) => E = (o.Effs.take i).filter fun e => decide (e.Var = f.Var)) Z ?_ (fun E h => by rw [h, List.take_length])
  rintro i E hi rfl
  obtain ⟨e, he⟩ := Ql (xs := o.Effs) (i := i) (by omega)
  rw [Qj, he]
  simp only [Option.bind_some]
  by_cases h : e.Var = f.Var
  ·simp only [h, decide_true, if_true]
   have hl : ((o.Effs.take i).filter fun e => decide (e.Var = f.Var)).length ≤ 64 := Nat.le_trans (List.length_filter_le _ _) (by rw [List.length_take]; omega)
   rw [K4 (by simp only [List.length_cons, List.length_nil]; omega)]
   simp only [Option.bind_some]
   refine Ok.ret ?_
   rw [Qu he, List.filter_append, List.filter_cons_of_pos (by simpa using h), List.filter_nil]
  ·simp only [h, decide_false, Bool.false_eq_true, if_false, Option.bind_some]
   refine Ok.ret ?_
   rw [Qu he, List.filter_append, List.filter_cons_of_neg (by simpa using h), List.filter_nil, List.append_nil]
 ·rintro E rfl
  generalize hE0 : (o.Effs.filter fun e => decide (e.Var = f.Var)) = E
  have hEl : E.length ≤ 64 := by rw [← hE0]; exact Nat.le_trans (List.length_filter_le _ _) hne
  have hE : ∀ e ∈ E, FactsOK vars e.When ∧ e.When.length ≤ 2 := fun e he => by rw [← hE0] at he; exact ho e (List.mem_filter.1 he).1
  have hval : ∀ s, Qdt o.Effs f.Var s = Qex E (s[f.Var.toNat]?.getD 0) s := fun s => by rw [Qhd, hE0]
  refine QbC (fun q : List Effect × List (List Fact) × Int => ∃ m : Nat, q.1 = E ∧ q.2.2 = (m : Int) - 2 ∧ m ≤ E.length + 1 ∧ q.2.1.Nodup ∧ (∀ z ∈ q.2.1, FactsOK vars z) ∧ ∀ s, StateOK vars s → (YG q.2.1 s ↔ ∃ j, m ≤ j ∧ j ≤ E.length ∧ QaZ E (s[f.Var.toNat]?.getD 0) f.Val s j))
   (fun q => q.2.1.Nodup ∧ (∀ z ∈ q.2.1, FactsOK vars z) ∧ ∀ s, StateOK vars s → (YG q.2.1 s ↔ ∃ j, j ≤ E.length ∧ QaZ E (s[f.Var.toNat]?.getD 0) f.Val s j)) (fun _ => False) (fun q => (q.2.2 + 2).toNat) ?_ ?_ (fun _ h => h.elim) ?_
  ·refine ⟨E.length + 1, Z, ?_, Nat.le_refl _, List.nodup_nil, by simp, fun s hs => ⟨by rintro ⟨z, hz, _⟩; simp at hz, by rintro ⟨j, h1, h2, _⟩; omega⟩⟩
   show IntKind.i64.wrap ((E.length : Int) - 1) = _
   rw [Q1 (by omega) (by omega)]; omega
  ·rintro ⟨E', out, i⟩ ⟨m, h1, h2, h3, h4, h5, h6⟩
   simp only at h1 h2 h4 h5 h6
   subst h1 h2
   simp only [K3]
   by_cases hm0 : m = 0
   ·subst hm0
    have e : ¬ (-1 : Int) ≤ ((0 : Nat) : Int) - 2 := by omega
    simp only [e, decide_false, Bool.false_eq_true, if_false]
    exact Ok.ret ⟨h4, h5, fun s hs => by rw [h6 s hs]; exact ⟨fun ⟨j, _, a, b⟩ => ⟨j, a, b⟩, fun ⟨j, a, b⟩ => ⟨j, Nat.zero_le _, a, b⟩⟩⟩
   have e : (-1 : Int) ≤ (m : Int) - 2 := by omega
   simp only [e, decide_true, if_true]
   have close : ∀ (l : List (List Fact)), (∀ z ∈ l, FactsOK vars z) → (∀ s, StateOK vars s → (YG l s ↔ QaZ E' (s[f.Var.toNat]?.getD 0) f.Val s (m - 1))) →
     ∀ r : List (List Fact), (r.Nodup ∧ (∀ z ∈ r, FactsOK vars z) ∧ ∀ z, z ∈ r ↔ z ∈ out ∨ z ∈ l) → ∀ s, StateOK vars s → (YG r s ↔ ∃ j, m - 1 ≤ j ∧ j ≤ E'.length ∧ QaZ E' (s[f.Var.toNat]?.getD 0) f.Val s j) := by
    rintro l hl hlh r ⟨_, _, hr⟩ s hs
    constructor
    ·rintro ⟨z, hz, hh⟩
     rcases (hr z).1 hz with q | q
     ·obtain ⟨j, a, b, c⟩ := (h6 s hs).1 ⟨z, q, hh⟩
      exact ⟨j, by omega, b, c⟩
     ·exact ⟨m - 1, Nat.le_refl _, by omega, (hlh s hs).1 ⟨z, q, hh⟩⟩
    ·rintro ⟨j, a, b, c⟩
     by_cases hj : j = m - 1
     ·subst hj
      obtain ⟨z, hz, hh⟩ := (hlh s hs).2 c
      exact ⟨z, (hr z).2 (.inr hz), hh⟩
     ·obtain ⟨z, hz, hh⟩ := (h6 s hs).2 ⟨j, by omega, b, c⟩
      exact ⟨z, (hr z).2 (.inl hz), hh⟩
   have hw1 : IntKind.i64.wrap ((m : Int) - 2 + 1) = ((m - 1 : Nat) : Int) := by rw [Q1 (by omega) (by omega)]; omega
   have hw2 : IntKind.i64.wrap ((m : Int) - 2 - 1) = ((m - 1 : Nat) : Int) - 2 := by rw [Q1 (by omega) (by omega)]; omega
   have hms : ((((m - 1 : Nat) : Int) - 2 + 2).toNat) < (((m : Int) - 2 + 2).toNat) := by omega
   rw [hw1, hw2, QlY (by omega)]
   by_cases hm1 : m = 1
   ·subst hm1
    have e2 : ¬ (0 : Int) ≤ ((1 : Nat) : Int) - 2 := by omega
    simp only [e2, decide_false, Bool.false_eq_true, if_false, Option.bind_some, Nat.sub_self, List.drop_zero]
    refine Qf4 hv hn hM hM' hE (val := f.Val) (l0 := [[f]]) (fun z hz => by rw [List.mem_singleton.1 hz]; exact FactsOK.one hf) (k := fun (list103 : List (List Fact)) => _) ?_
    intro l hl hh
    obtain ⟨r, hr, hc⟩ := Qfx hM hM' hl h4 h5
    rw [hr]
    simp only [Option.bind_some]
    refine Ok.ret ⟨⟨0, Z, Z, Nat.zero_le _, hc.1, hc.2.1, close l hl (fun s hs => ?_) r hc⟩, hms⟩
    rw [hh s hs]
    unfold QaZ
    simp only [Nat.sub_self, List.drop_zero]
    obtain ⟨x, hx, _, _⟩ := hs.at hf.1 hf.2.1
    have : YG [[f]] s ↔ s[f.Var.toNat]?.getD 0 = f.Val := by
     constructor
     ·rintro ⟨z, hz, hh⟩
      rw [List.mem_singleton.1 hz] at hh
      rw [Qd6.1 hh]; rfl
     ·intro h
      refine ⟨[f], by simp, Qd6.2 ?_⟩
      rw [hx] at h ⊢
      simpa using h
    rw [this]
   ·have e2 : (0 : Int) ≤ (m : Int) - 2 := by omega
    have hm2 : ((m : Int) - 2) = ((m - 2 : Nat) : Int) := by omega
    obtain ⟨e1, he1⟩ := Ql (xs := E') (i := m - 2) (by omega)
    have hE1 := hE e1 (List.mem_of_getElem? he1)
    simp only [e2, decide_true, if_true]
    rw [hm2, Qj, he1]
    simp only [Option.bind_some]
    by_cases hv1 : e1.Val = f.Val
    ·simp only [hv1, decide_true, Bool.not_true, Bool.false_eq_true, if_false]
     refine Qf4 hv hn hM hM' (E := E'.drop (m - 1)) (fun e he => hE e (List.mem_of_mem_drop he)) (val := f.Val) (l0 := [e1.When]) (fun z hz => by rw [List.mem_singleton.1 hz]; exact hE1.1) (k := fun (list101 : List (List Fact)) => _) ?_
     intro l hl hh
     obtain ⟨r, hr, hc⟩ := Qfx hM hM' hl h4 h5
     rw [hr]
     simp only [Option.bind_some]
     refine Ok.ret ⟨⟨m - 1, Z, Z, by omega, hc.1, hc.2.1, close l hl (fun s hs => ?_) r hc⟩, by simp only; omega⟩
     rw [hh s hs]
     have e3 : m - 1 = (m - 2) + 1 := by omega
     unfold QaZ
     rw [e3]
     simp only
     constructor
     ·rintro ⟨⟨z, hz, hq⟩, h⟩
      rw [List.mem_singleton.1 hz] at hq
      exact ⟨⟨e1, he1, hv1, hq⟩, h⟩
     ·rintro ⟨⟨e', he', _, hq⟩, h⟩
      rw [he1] at he'
      cases he'
      exact ⟨⟨e1.When, by simp, hq⟩, h⟩
    ·simp only [hv1, decide_false, Bool.not_false, if_true]
     refine Ok.ret ⟨⟨m - 1, Z, Z, by omega, h4, h5, fun s hs => ?_⟩, by simp only; omega⟩
     rw [h6 s hs]
     constructor
     ·rintro ⟨j, a, b, c⟩; exact ⟨j, by omega, b, c⟩
     ·rintro ⟨j, a, b, c⟩
      by_cases hj : j = m - 1
      ·exfalso
       subst hj
       have e3 : m - 1 = (m - 2) + 1 := by omega
       unfold QaZ at c
       rw [e3] at c
       simp only at c
       obtain ⟨⟨e', he', hq, _⟩, _⟩ := c
       rw [he1] at he'
       cases he'
       exact hv1 hq
      ·exact ⟨j, by omega, b, c⟩
  ·rintro ⟨E', out, i⟩ ⟨h4, h5, h6⟩
   have hlen := hM out h4 h5
   have : ¬ 1024 < (out.length : Int) := by omega
   simp only [K3, this, decide_false, Bool.false_eq_true, if_false]
   refine Ok.ret ⟨Z, h4, h5, fun s hs => ?_⟩
   rw [h6 s hs, hval s, Qjv]
structure CaseR (vars : List Int) (o : Op) (f : Fact) (l : List (List Fact)) : Prop where
 ok : ∀ z ∈ l, FactsOK vars z
 h : ∀ s, StateOK vars s → (YG l s ↔ Qdt o.Effs f.Var s = f.Val)
theorem Qj2 {t : Task} (h : GoodT t) : ∀ o ∈ t.Ops, o.Name.size ≤ 9223372036854775807 := fun o ho => Nat.le_trans (h.op o ho).nm (by decide)
theorem QbK {t : Task} (h : GoodT t) : Ks t = some none := by
 obtain ⟨e, h1, h2⟩ := QkD t (Qj2 h)
 rw [h1, h2.2 h]
structure RegR (t : Task) (o : Op) (p : List Fact) (r : List (List Fact)) : Prop where
 nd : r.Nodup
 ok : ∀ z ∈ r, FactsOK t.Vars z
 h : ∀ s, StateOK t.Vars s → (YG r s ↔ hold o.Pre s ∧ hold p (Jm o.Effs s))
theorem QhN {t : Task} (ht : ShortT t) {M : Nat} (hM : Cap t.Vars M) (hM' : M ≤ 1000) {i : Nat} {o : Op} (hi : t.Ops[i]? = some o) {p : List Fact} (hp : FactsOK t.Vars p) :
  Ok (Kd t (i : Int) p) fun r => r.2 = none ∧ RegR t o p r.1 := by
 classical
 have hv := ht.g.v
 have hn := ht.g.nv
 have ho := ht.g.op o (List.mem_of_getElem? hi)
 have hw := ht.w o (List.mem_of_getElem? hi)
 have hpl := hp.len
 have hil := (List.getElem?_eq_some_iff.1 hi).1
 unfold Kd
 rw [QbK ht.g, Qdc]
 have e1 : ¬ (i : Int) < 0 := by omega
 have e2 : ¬ (t.Ops.length : Int) ≤ (i : Int) := by omega
 simp only [Option.bind_some, Option.isSome_none, e1, e2, hp, decide_true, decide_false, Bool.or_self, Bool.not_true, Bool.false_eq_true, if_false, Qj, hi]
 rw [Qlv (by omega) (by omega)]
 simp only [Option.bind_some]
 refine Ok.ctl (fun j (l : List (List (List Fact))) => l.length = p.length ∧ ∀ k f, k < j → p[k]? = some f → ∃ c, l[k]? = some c ∧ CaseR t.Vars o f c) (fun _ => False) ⟨by simp, fun k f h => by omega⟩ ?_ (fun _ h => h.elim) ?_
 ·rintro j l hj ⟨h1, h2⟩
  obtain ⟨f, hf⟩ := Ql (xs := p) (i := j) (by omega)
  rw [hf]
  simp only [Option.bind_some]
  obtain ⟨r, hr, h3, _, h4, h5⟩ := QkE hv hn hM hM' (o := o) (fun e he => ⟨(ho.eff e he).1, hw e he⟩) ho.ne (hp.r f (List.mem_of_getElem? hf))
  obtain ⟨c, ce⟩ := r
  simp only at h3 h4 h5
  subst h3
  rw [hr]
  obtain ⟨x, hx⟩ := Ql (xs := l) (i := j) (by omega)
  simp only [Option.bind_some, QK, Option.isSome_none, Bool.false_eq_true, if_false, hx]
  rw [YR (by omega)]
  simp only [Option.bind_some]
  refine Ok.ret ⟨by simp [h1], fun k f' hk hf' => ?_⟩
  by_cases e : k = j
  ·subst e
   rw [hf] at hf'; cases hf'
   exact ⟨c, by rw [List.getElem?_set_self (by omega)], ⟨h4, h5⟩⟩
  ·obtain ⟨c', h6, h7⟩ := h2 k f' (by omega) hf'
   exact ⟨c', by rw [List.getElem?_set_ne (by omega)]; exact h6, h7⟩
 ·rintro l ⟨h1, h2⟩
  have hpre := ho.pre
  rw [QaH (by have := hpre.len; omega)]
  simp only [Option.bind_some]
  refine Ok.ctl (fun j (out : List (List Fact)) => out.Nodup ∧ (∀ z ∈ out, FactsOK t.Vars z) ∧ ∀ s, StateOK t.Vars s → (YG out s ↔ hold o.Pre s ∧ ∀ f ∈ p.take j, Qdt o.Effs f.Var s = f.Val)) (fun _ => False) ⟨by simp, fun z hz => by rw [List.mem_singleton.1 hz]; exact hpre, fun s hs => by simp [YG]⟩ ?_ (fun _ h => h.elim) ?_
  ·rintro j out hj ⟨_, h4, h5⟩
   obtain ⟨f, hf⟩ := Ql (xs := p) (i := j) (by omega)
   obtain ⟨c, hc, h6⟩ := h2 j f (by omega) hf
   rw [hc]
   simp only [Option.bind_some]
   obtain ⟨r, hr, h7, h8, h9, h10⟩ := Qh3 hn hM hM' h4 h6.ok
   obtain ⟨q, qe⟩ := r
   simp only at h7 h8 h9 h10
   subst h7
   rw [hr]
   simp only [Option.bind_some, QK, Option.isSome_none, Bool.false_eq_true, if_false]
   refine Ok.ret ⟨h8, h9, fun s hs => ?_⟩
   rw [h10 s hs, h5 s hs, h6.h s hs, Qu hf]
   constructor
   ·rintro ⟨⟨a, b⟩, c⟩
    refine ⟨a, fun g hg => ?_⟩
    rcases List.mem_append.1 hg with q | q
    ·exact b g q
    ·rw [List.mem_singleton.1 q]; exact c
   ·rintro ⟨a, b⟩
    exact ⟨⟨a, fun g hg => b g (List.mem_append_left _ hg)⟩, b f (by simp)⟩
  ·rintro out ⟨h3, h4, h5⟩
   rw [h1, List.take_length] at h5
   refine Ok.ret ⟨Z, h3, h4, fun s hs => ?_⟩
   rw [h5 s hs]
   have : (∀ f ∈ p, Qdt o.Effs f.Var s = f.Val) ↔ hold p (Jm o.Effs s) := by
    constructor
    ·intro h f hf
     have hr := hp.r f hf
     rw [QgC hs hr.1 hr.2.1 fun e he => (ho.eff e he).2, h f hf]
    ·intro h f hf
     have hr := hp.r f hf
     have := h f hf
     rw [QgC hs hr.1 hr.2.1 fun e he => (ho.eff e he).2] at this
     exact Zu this
   rw [this]
theorem Qc7 {α : Type} {a b : List α} (ha : a.Nodup) (h : ∀ x ∈ a, x ∈ b) : a.length ≤ b.length := QcP ha h
theorem FactsOK.nodup {vars : List Int} {p : List Fact} (h : FactsOK vars p) : p.Nodup := h.o.imp fun {a b} hab => by rintro rfl; omega
def Qhx (l : List (List Fact)) (i : Nat) (x : List Fact) : Prop := ∀ j y, l[j]? = some y → j ≠ i → ¬ (SubF y x ∧ (y.length < x.length ∨ j < i))
set_option maxRecDepth 20000 in
theorem QlS {a b i j n : Nat} (h : b * 1001 + i ≤ n + 1) (hj : j ≤ 1000) (hab : a ≤ b) (hc : a < b ∨ j < i) : a * 1001 + j ≤ n := by
 rcases hc with h | h <;> omega
theorem Qiu {vars : List Int} (hn : vars.length ≤ 64) {l : List (List Fact)} (hl : l.Nodup) (hok : ∀ z ∈ l, FactsOK vars z) (hlen : l.length ≤ 1000) :
  Ok (Kv l) fun r => r.Nodup ∧ (∀ z ∈ r, z ∈ l) ∧ ∀ s, YG r s ↔ YG l s := by
 classical
 unfold Kv
 refine Ok.bind (Ok.mono (P := fun r : List (List Fact) => r.Nodup ∧ (∀ z ∈ r, z ∈ l) ∧ ∀ i x, l[i]? = some x → Qhx l i x → x ∈ r) ?_ ?_)
 ·refine J5 (fun i (r : List (List Fact)) => r.Nodup ∧ (∀ z ∈ r, z ∈ l.take i) ∧ ∀ k x, k < i → l[k]? = some x → Qhx l k x → x ∈ r) ⟨List.nodup_nil, by simp, fun k x h => by omega⟩ ?_ ?_
  ·rintro i r hi ⟨h1, h2, h3⟩
   obtain ⟨x, hx⟩ := Ql (xs := l) (i := i) (by omega)
   have hxo := hok x (List.mem_of_getElem? hx)
   have hxl := hxo.len
   have hrl : r.length ≤ l.length := Qc7 h1 fun z hz => List.mem_of_mem_take (h2 z hz)
   rw [Qj, hx]
   simp only [Option.bind_some]
   rw [QaG x (by omega)]
   simp only [hxo.pv, decide_true, Bool.not_true, Bool.false_eq_true, if_false, Option.bind_some]
   refine QiZ (fun j (k : Bool) => k = true ∧ ∀ q y, q < j → l[q]? = some y → q ≠ i → ¬ (SubF y x ∧ (y.length < x.length ∨ q < i))) (fun k => k = false ∧ ¬ Qhx l i x) (fun _ => False) ⟨Z, fun q y h => by omega⟩ ?_ (fun _ h => h.elim) ?_ ?_
   ·rintro j k hj ⟨rfl, h4⟩
    obtain ⟨y, hy⟩ := Ql (xs := l) (i := j) (by omega)
    have hyo := hok y (List.mem_of_getElem? hy)
    have hyl := hyo.len
    rw [Qj, hy]
    simp only [Option.bind_some]
    have hstep : ¬ (j ≠ i ∧ SubF y x ∧ (y.length < x.length ∨ j < i)) → ∀ q y, q < j + 1 → l[q]? = some y → q ≠ i → ¬ (SubF y x ∧ (y.length < x.length ∨ q < i)) := by
     intro hno q y' hq hy' hne
     by_cases e : q = j
     ·subst e; rw [hy] at hy'; cases hy'
      exact fun h => hno ⟨hne, h⟩
     ·exact h4 q y' (by omega) hy' hne
    by_cases hij : i = j
    ·subst hij
     simp only [decide_true, Bool.not_true, Bool.false_eq_true, if_false, Option.bind_some]
     exact Ok.ret ⟨Z, hstep fun h => h.1 Z⟩
    ·have hij' : ¬ (i : Int) = (j : Int) := by omega
     simp only [hij', decide_false, Bool.not_false, if_true]
     rw [QaG y (by omega), Qbi hxo.pv fun f hf => (hyo.pv.n f hf).2]
     simp only [hyo.pv, decide_true, if_true, Option.bind_some]
     by_cases hs : SubF y x
     ·simp only [hs, decide_true, if_true]
      by_cases hlt : y.length < x.length
      ·have hlt' : (y.length : Int) < (x.length : Int) := by omega
       simp only [hlt', decide_true, if_true, Option.bind_some]
       exact Ok.ret ⟨Z, fun hk => hk j y hy (Ne.symm hij) ⟨hs, .inl hlt⟩⟩
      ·have hlt' : ¬ (y.length : Int) < (x.length : Int) := by omega
       simp only [hlt', decide_false, Bool.false_eq_true, if_false, Option.bind_some]
       by_cases hji : j < i
       ·have hji' : (j : Int) < (i : Int) := by omega
        simp only [hji', decide_true, if_true]
        exact Ok.ret ⟨Z, fun hk => hk j y hy (Ne.symm hij) ⟨hs, .inr hji⟩⟩
       ·have hji' : ¬ (j : Int) < (i : Int) := by omega
        simp only [hji', decide_false, Bool.false_eq_true, if_false]
        exact Ok.ret ⟨Z, hstep fun h => h.2.2.elim hlt hji⟩
     ·simp only [hs, decide_false, Bool.false_eq_true, if_false, Option.bind_some]
      exact Ok.ret ⟨Z, hstep fun h => hs h.2.1⟩
   ·rintro k ⟨rfl, h4⟩
    simp only [if_true]
    rw [QaH (by omega)]
    simp only [Option.bind_some]
    rw [K4 (by simp only [List.length_cons, List.length_nil]; omega)]
    simp only [Option.bind_some]
    refine Ok.ret ⟨?_, ?_, ?_⟩
    ·rw [List.nodup_append]
     refine ⟨h1, by simp, fun p hp q hq => ?_⟩
     rw [List.mem_singleton.1 hq]
     have hd : (l.take i ++ [x]).Nodup := by rw [← Qu hx]; exact hl.sublist (List.take_sublist _ _)
     exact (List.nodup_append.1 hd).2.2 p (h2 p hp) x (by simp)
    ·intro z hz
     rw [Qu hx]
     rcases List.mem_append.1 hz with q | q
     ·exact List.mem_append_left _ (h2 z q)
     ·exact List.mem_append_right _ q
    ·intro q y hq hy hk
     by_cases e : q = i
     ·subst e; rw [hx] at hy; cases hy; simp
     ·exact List.mem_append_left _ (h3 q y (by omega) hy hk)
   ·rintro k ⟨rfl, h4⟩
    simp only [Bool.false_eq_true, if_false, Option.bind_some]
    refine Ok.ret ⟨h1, fun z hz => ?_, ?_⟩
    ·rw [Qu hx]; exact List.mem_append_left _ (h2 z hz)
    ·intro q y hq hy hk
     by_cases e : q = i
     ·subst e; rw [hx] at hy; cases hy; exact absurd hk h4
     ·exact h3 q y (by omega) hy hk
  ·rintro r ⟨h1, h2, h3⟩
   rw [List.take_length] at h2
   exact ⟨h1, h2, fun i x hx hk => h3 i x (List.getElem?_eq_some_iff.1 hx).1 hx hk⟩
 ·rintro r ⟨h1, h2, h3⟩
  refine Ok.ret ⟨h1, h2, fun s => ⟨fun ⟨z, hz, h⟩ => ⟨z, h2 z hz, h⟩, ?_⟩⟩
  have key : ∀ (n i : Nat) (x : List Fact), l[i]? = some x → hold x s → x.length * 1001 + i ≤ n → ∃ z ∈ r, hold z s := by
   intro n
   induction n with
   | zero =>
    intro i x hx hh hn'
    refine ⟨x, h3 i x hx ?_, hh⟩
    rintro j y hy hne ⟨_, h | h⟩ <;> omega
   | succ n ih =>
    intro i x hx hh hn'
    by_cases hk : Qhx l i x
    ·exact ⟨x, h3 i x hx hk, hh⟩
    ·unfold Qhx at hk
     simp only [Classical.not_forall, Classical.not_not] at hk
     obtain ⟨j, y, hy, hne, hs, hc⟩ := hk
     have hyh : hold y s := fun f hf => hh f (hs f hf)
     have hyl : y.length ≤ x.length := Qc7 (hok y (List.mem_of_getElem? hy)).nodup hs
     have hjl := (List.getElem?_eq_some_iff.1 hy).1
     refine ih j y hy hyh ?_
     exact QlS hn' (by omega) hyl hc
  rintro ⟨z, hz, hh⟩
  obtain ⟨i, hi⟩ := List.mem_iff_getElem?.1 hz
  exact key _ i z hi hh (Nat.le_refl _)
end Go.Pw
/- -/
set_option maxHeartbeats 8000000
namespace Go.Pw
theorem Qkm {l : List (List Fact)} (h : l.length ≤ 1000000) : ∃ k, Qas l = some k ∧ k.Perm l := by
 refine ⟨l.mergeSort fun x y => !decide (K5 y x < 0), ?_, List.mergeSort_perm _ _⟩
 unfold Qas; rw [if_pos (by omega)]
theorem QbE {t : Task} (ht : ShortT t) {M : Nat} (hM : Cap t.Vars M) (hM' : M ≤ 1000) {i : Nat} {o : Op} (hi : t.Ops[i]? = some o) {p : List Fact} (hp : FactsOK t.Vars p) :
  ∃ l, Q3 t (i : Int) p = some (l, none) ∧ RegR t o p l := by
 obtain ⟨⟨q, e⟩, hr, h1, h2⟩ := QhN ht hM hM' hi hp
 simp only at h1 h2
 subst h1
 have hql := hM q h2.nd h2.ok
 obtain ⟨m, hm, h3, h4, h5⟩ := Qiu ht.g.nv h2.nd h2.ok (by omega)
 have hml : m.length ≤ q.length := Qc7 h3 h4
 obtain ⟨k, hk, hp⟩ := Qkm (l := m) (by omega)
 have hkl : k.length = m.length := hp.length_eq
 have hok : ∀ z ∈ k, FactsOK t.Vars z := fun z hz => h2.ok z (h4 z (hp.mem_iff.1 hz))
 have hloop : forS (fun i100 => fun (l101 : (List (List Fact))) => (QD l101 (i100 : Int)).bind fun x100 =>
   (Jz x100).bind <| fun (y103 : (List Fact)) =>
   (YO l101 (i100 : Int) y103).bind fun l102 =>
   some l102) (k.length) 0 k = some k := by
  refine Ok.eq (J5 (fun i (l : List (List Fact)) => l = k) Z ?_ (fun l h => h))
  rintro i l hi rfl
  obtain ⟨x, hx⟩ := Ql (xs := l) (i := i) (by omega)
  have hxo := hok x (List.mem_of_getElem? hx)
  have hxl := hxo.len
  have hv := ht.g.nv
  rw [Qj, hx]
  simp only [Option.bind_some]
  rw [QaH (by omega)]
  simp only [Option.bind_some]
  rw [YR hi]
  simp only [Option.bind_some]
  refine Ok.ret ?_
  have h1 := List.getElem?_eq_some_iff.1 hx
  rw [← h1.2]
  exact List.set_getElem_self _
 refine ⟨k, ?_, hp.nodup_iff.2 h3, hok, fun s hs => ?_⟩
 ·unfold Q3
  rw [hr]
  simp only [Option.bind_some, QK, Option.isSome_none, Bool.false_eq_true, if_false, hm, hk, hloop]
 ·rw [← h2.h s hs, ← h5 s]
  exact ⟨fun ⟨z, hz, h⟩ => ⟨z, hp.mem_iff.1 hz, h⟩, fun ⟨z, hz, h⟩ => ⟨z, hp.mem_iff.2 hz, h⟩⟩
def Qih (v : Int) : List Int → List (List Fact)
 | [] => [[]]
 | n :: vs => (Qih (v + 1) vs).flatMap fun p => p :: (List.range n.toNat).map fun (x : Nat) => (⟨v, (x : Int)⟩ : Fact) :: p
def pn : List Int → Nat
 | [] => 1
 | n :: vs => (n.toNat + 1) * pn vs
theorem QhE : ∀ (vs : List Int) (v : Int), (Qih v vs).length = pn vs
 | [], v => rfl
 | n :: vs, v => by
  unfold Qih pn
  rw [Qg3 (m := n.toNat + 1) (fun g => by simp), QhE vs, Nat.mul_comm]
theorem QhD : ∀ (vs : List Int) (v : Int) (p : List Fact), p.Pairwise (fun a b => a.Var < b.Var) → (∀ x ∈ p, v ≤ x.Var ∧ x.Var < v + (vs.length : Int) ∧ 0 ≤ x.Val ∧ x.Val < vs[(x.Var - v).toNat]?.getD 0) → p ∈ Qih v vs
 | [], v, p, _, h => by
  match p with
  | [] => simp [Qih]
  | x :: p => have := h x (by simp); simp at this; omega
 | n :: vs, v, p, hs, h => by
  unfold Qih
  rw [List.mem_flatMap]
  have hrest : ∀ q : List Fact, (∀ x ∈ q, x ∈ p) → (∀ x ∈ q, v < x.Var) → q.Pairwise (fun a b => a.Var < b.Var) → q ∈ Qih (v + 1) vs := by
   intro q hq hv hqs
   refine QhD vs (v + 1) q hqs fun x hx => ?_
   have h1 := h x (hq x hx)
   have h2 := hv x hx
   simp only [List.length_cons] at h1
   refine ⟨by omega, by omega, h1.2.2.1, ?_⟩
   have e : (x.Var - v).toNat = (x.Var - (v + 1)).toNat + 1 := by omega
   rw [e, List.getElem?_cons_succ] at h1
   exact h1.2.2.2
  match p, hs, h, hrest with
  | [], _, _, hrest => exact ⟨[], hrest [] (by simp) (by simp) List.Pairwise.nil, by simp⟩
  | x :: p, hs, h, hrest =>
   obtain ⟨h1, h2⟩ := List.pairwise_cons.1 hs
   have hx := h x (by simp)
   by_cases e : x.Var = v
   ·refine ⟨p, hrest p (fun y hy => List.mem_cons_of_mem _ hy) (fun y hy => by have := h1 y hy; omega) h2, List.mem_cons_of_mem _ ?_⟩
    rw [List.mem_map]
    have hval := hx.2.2.2
    rw [e, show (v - v).toNat = 0 by omega] at hval
    simp at hval
    refine ⟨x.Val.toNat, List.mem_range.2 (by omega), ?_⟩
    obtain ⟨a, b⟩ := x
    simp at e hx ⊢
    exact ⟨e.symm, by omega⟩
   ·exact ⟨x :: p, hrest (x :: p) (fun y hy => hy) (fun y hy => by
     rcases List.mem_cons.1 hy with rfl | hy
     ·omega
     ·have := h1 y hy; omega) hs, by simp⟩
theorem Qfj (vars : List Int) : Cap vars (pn vars) := fun l hn hl => by
 rw [← QhE vars 0]
 refine Qc7 hn fun p hp => ?_
 have h := hl p hp
 refine QhD vars 0 p h.o fun x hx => ?_
 have hr := h.r x hx
 refine ⟨hr.1, by have := hr.2.1; omega, hr.2.2.1, ?_⟩
 have := hr.2.2.2
 simpa using this
theorem Qlu : ∀ {l : List Int}, (∀ n ∈ l, 2 ≤ n ∧ n ≤ 4) → (pn l : Int) * 2 ^ l.length ≤ Yw l * 3 ^ l.length
 | [], _ => by simp [pn, Yw]
 | n :: l, h => by
  have ih := Qlu (l := l) fun x hx => h x (by simp [hx])
  have hn := h n (by simp)
  have hp : 0 ≤ (pn l : Int) * 2 ^ l.length := Int.mul_nonneg (by omega) (Int.pow_nonneg (by decide))
  simp only [pn, Yw, List.length_cons, Int.pow_succ, Int.natCast_mul, Int.natCast_add, Int.natCast_one]
  have e : ((n.toNat : Nat) : Int) = n := by omega
  have h1 : (n + 1) * 2 ≤ n * 3 := by omega
  rw [e]
  calc (n + 1) * (pn l : Int) * (2 ^ l.length * 2) = ((n + 1) * 2) * ((pn l : Int) * 2 ^ l.length) := by ac_rfl
   _ ≤ (n * 3) * ((pn l : Int) * 2 ^ l.length) := Int.mul_le_mul_of_nonneg_right h1 hp
   _ ≤ (n * 3) * (Yw l * 3 ^ l.length) := Int.mul_le_mul_of_nonneg_left ih (by omega)
   _ = n * Yw l * (3 ^ l.length * 3) := by ac_rfl
end Go.Pw
