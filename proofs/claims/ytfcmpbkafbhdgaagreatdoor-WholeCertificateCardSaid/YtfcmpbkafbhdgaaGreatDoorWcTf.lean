/- -/
import Derived.Test.YtfcmpbkafbhdgaaGreatDoorWcTe
import Derived.Test.YtfcmpbkafbhdgaaGreatDoorWcTb
set_option maxHeartbeats 8000000
set_option linter.unusedSimpArgs false
set_option linter.unusedVariables false
namespace Go.Pw
/-! ### tasks -/
theorem Qkh (t : Task) : Ok (Qaw t) fun b => b = true → SmallT t ∧ (∀ n ∈ t.Vars, 2 ≤ n ∧ n ≤ 4) ∧ ∀ o ∈ t.Ops, ∀ e ∈ o.Effs, e.When.length ≤ 2 := by
 classical
 unfold Qaw
 rw [Qko]
 simp only [Option.bind_some]
 by_cases h : SmallT t
 rotate_left
 ·simp only [h, decide_false, Bool.not_false, if_true]
  exact Ok.ret (by simp)
 simp only [h, decide_true, Bool.not_true, Bool.false_eq_true, if_false]
 refine Ok.ctl (fun i _ => ∀ n ∈ t.Vars.take i, 2 ≤ n ∧ n ≤ 4) (fun r => r = false) (by simp) ?_ (by rintro r rfl; exact Ok.ret (by simp)) ?_
 ·intro i _ hi hI
  obtain ⟨n, hn⟩ := Ql hi
  simp only [Qj, hn, Option.bind_some]
  by_cases h1 : n < 2
  ·simp only [h1, decide_true, Bool.true_or, if_true]
   exact Ok.ret Z
  by_cases h2 : 4 < n
  ·simp only [h2, decide_true, Bool.or_true, if_true]
   exact Ok.ret Z
  simp only [h1, h2, decide_false, Bool.or_false, Bool.false_eq_true, if_false]
  refine Ok.ret fun m hm => ?_
  rw [Qu hn] at hm
  rcases List.mem_append.1 hm with hm | hm
  ·exact hI m hm
  ·simp at hm; omega
 intro _ hV
 rw [List.take_length] at hV
 refine Ok.ctl (fun i _ => ∀ o ∈ t.Ops.take i, ∀ e ∈ o.Effs, e.When.length ≤ 2) (fun r => r = false) (by simp) ?_ (by rintro r rfl; exact Ok.ret (by simp)) ?_
 ·intro i _ hi hI
  obtain ⟨o, ho⟩ := Ql hi
  have hne := h.ne o (List.mem_of_getElem? ho)
  simp only [Qj, ho, Option.bind_some]
  refine Ok.ctl (fun i m => ∀ e ∈ o.Effs.take i, e.When.length ≤ 2) (fun r => r = false) (by simp) ?_ (by rintro r rfl; exact Ok.ret rfl) ?_
  ·intro j m hj hJ
   obtain ⟨e, he⟩ := Ql hj
   simp only [he, Option.bind_some]
   by_cases h1 : 2 < (e.When.length : Int)
   ·simp only [h1, decide_true, if_true]
    exact Ok.ret Z
   simp only [h1, decide_false, Bool.false_eq_true, if_false]
   have hfin : ∀ m' : Int, Qjh (fun (_ : Int) => ∀ e ∈ o.Effs.take (j + 1), e.When.length ≤ 2) (fun r : Bool => r = false) (Ctl.next m') := by
    intro m' e' he'
    rw [Qu he] at he'
    rcases List.mem_append.1 he' with he' | he'
    ·exact hJ e' he'
    ·simp only [List.mem_singleton] at he'
     subst he'
     omega
   by_cases h2 : 0 < (e.When.length : Int)
   ·simp only [h2, decide_true, if_true, Option.bind_some]
    exact Ok.ret (hfin _)
   ·simp only [h2, decide_false, Bool.false_eq_true, if_false, Option.bind_some]
    exact Ok.ret (hfin _)
  ·intro m hJ
   rw [List.take_length] at hJ
   by_cases h1 : 3 < m
   ·simp only [h1, decide_true, if_true]
    exact Ok.ret Z
   simp only [h1, decide_false, Bool.false_eq_true, if_false]
   refine Ok.ret fun o' ho' => ?_
   rw [Qu ho] at ho'
   rcases List.mem_append.1 ho' with ho' | ho'
   ·exact hI o' ho'
   ·simp only [List.mem_singleton] at ho'
    subst ho'
    exact hJ
 ·intro _ hC
  rw [List.take_length] at hC
  exact Ok.ret fun _ => ⟨trivial, hV, hC⟩
theorem QlR {vars : List Int} (hv : ∀ n ∈ vars, 2 ≤ n ∧ n ≤ 4) : Ok (KI vars 36) fun m => (Yw vars ≤ 36 ∧ m = Yw vars) ∨ (36 < Yw vars ∧ m = 37) := by
 unfold KI
 rw [Q1 (n := (36 : Int) + 1) (by omega) (by omega)]
 refine Ok.ctl (fun i n => n = Yw (vars.take i) ∧ n ≤ 36) (fun r => 36 < Yw vars ∧ r = 37) ⟨by simp [Yw], by omega⟩ ?_ ?_ ?_
 ·rintro i n hi ⟨h2, h3⟩
  obtain ⟨k, hk⟩ := Ql hi
  have hkr := hv k (List.mem_of_getElem? hk)
  have hpos := Qc2 (l := vars.take i) fun x hx => by have := hv x (List.mem_of_mem_take hx); omega
  rw [← h2] at hpos
  have hmul : Yw (vars.take (i + 1)) = n * k := by rw [Qu hk, QbF, ← h2]; simp [Yw]
  have hmm : min (max k 0) (36 + 1) = k := by omega
  have b1 : n * k ≤ 36 * 4 := Int.mul_le_mul (by omega) hkr.2 (by omega) (by omega)
  have b0 : 0 ≤ n * k := Int.mul_nonneg (by omega) (by omega)
  simp only [Qj, hk, Option.bind_some, hmm, Q1 (n := n * k) (by omega) (by omega)]
  by_cases h4 : 36 < n * k
  ·simp only [h4, decide_true, if_true]
   have := YJ (l := vars) (fun x hx => by have := hv x hx; omega) (i + 1)
   exact Ok.ret ⟨by omega, Z⟩
  ·simp only [h4, decide_false, Bool.false_eq_true, if_false]
   exact Ok.ret ⟨hmul.symm, by omega⟩
 ·rintro r h
  exact Ok.ret (.inr h)
 ·rintro n ⟨h2, h3⟩
  rw [List.take_length] at h2
  exact Ok.ret (.inl ⟨by omega, h2⟩)
theorem QiL : ∀ {l : List Int}, (∀ n ∈ l, 2 ≤ n ∧ n ≤ 4) → ((2 ^ l.length : Nat) : Int) ≤ Yw l
 | [], _ => by simp [Yw]
 | n :: l, h => by
  have ih := QiL (l := l) fun x hx => h x (by simp [hx])
  have hn := h n (by simp)
  have e : Yw (n :: l) = n * Yw l := rfl
  have h0 : (0 : Int) ≤ ((2 ^ l.length : Nat) : Int) := Int.natCast_nonneg _
  have := Int.mul_le_mul hn.1 ih h0 (by omega)
  rw [e, List.length_cons, Nat.pow_succ, Int.natCast_mul, Int.mul_comm]
  exact this
theorem Qh8 {l : List Int} (h : ∀ n ∈ l, 2 ≤ n ∧ n ≤ 4) (hp : Yw l ≤ 36) : l.length ≤ 5 := by
 have h1 := QiL h
 by_cases h5 : l.length ≤ 5
 ·exact h5
 ·have : 2 ^ 6 ≤ 2 ^ l.length := Nat.pow_le_pow_right (by decide) (by omega)
  have e : (2 : Nat) ^ 6 = 64 := by decide
  omega
theorem QlP {l : List Int} (h : ∀ n ∈ l, 2 ≤ n ∧ n ≤ 4) (hp : Yw l ≤ 36) : pn l ≤ 273 := by
 have h5 := Qh8 h hp
 have h1 := Qlu h
 have hle : Yw l * 3 ^ l.length ≤ 36 * 3 ^ l.length := Int.mul_le_mul_of_nonneg_right hp (Int.pow_nonneg (by decide))
 have h2 := Int.le_trans h1 hle
 generalize hk : l.length = k at h2 h5
 match k, h5 with
 | 0, _ => simp at h2; omega
 | 1, _ => simp at h2; omega
 | 2, _ => simp at h2; omega
 | 3, _ => simp at h2; omega
 | 4, _ => simp at h2; omega
 | 5, _ => simp at h2; omega
/-! ### least costs are small -/
theorem Qg4 {α : Type} {p q : α → Bool} : ∀ {l : List α}, (∀ x ∈ l, p x = true → q x = true) → (l.filter p).length ≤ (l.filter q).length
 | [], _ => Nat.le_refl _
 | a :: l, h => by
  have ih := Qg4 (l := l) (p := p) (q := q) fun x hx => h x (by simp [hx])
  have ha := h a (by simp)
  rw [List.filter_cons, List.filter_cons]
  by_cases hp : p a = true
  ·rw [if_pos hp, if_pos (ha hp)]; simp; exact ih
  ·rw [if_neg hp]
   split
   ·simp; omega
   ·exact ih
theorem Qei {α : Type} {p q : α → Bool} : ∀ {l : List α}, (∀ x ∈ l, p x = true → q x = true) → (∃ x ∈ l, q x = true ∧ ¬ p x = true) → (l.filter p).length < (l.filter q).length
 | [], _, h => by obtain ⟨x, hx, _⟩ := h; simp at hx
 | a :: l, h, ⟨x, hx, hq, hp⟩ => by
  have ha := h a (by simp)
  have hl := Qg4 (l := l) (p := p) (q := q) fun x hx => h x (by simp [hx])
  rw [List.filter_cons, List.filter_cons]
  by_cases hpa : p a = true
  ·rw [if_pos hpa, if_pos (ha hpa)]
   have hxl : x ∈ l := by
    rcases List.mem_cons.1 hx with rfl | hx
    ·exact absurd hpa hp
    ·exact hx
   have := Qei (l := l) (p := p) (q := q) (fun x hx => h x (by simp [hx])) ⟨x, hxl, hq, hp⟩
   simp; exact this
  ·rw [if_neg hpa]
   by_cases hqa : q a = true
   ·rw [if_pos hqa]; simp; omega
   ·rw [if_neg hqa]
    have hxl : x ∈ l := by
     rcases List.mem_cons.1 hx with rfl | hx
     ·exact absurd hq hqa
     ·exact hx
    exact Qei (l := l) (p := p) (q := q) (fun x hx => h x (by simp [hx])) ⟨x, hxl, hq, hp⟩
section
open Classical
variable {A : QgH} {src : Nat → Prop} {n : Nat}
def Lev (A : QgH) (src : Nat → Prop) (k : Nat) (v : Nat) : Prop := ∃ c, Reach A src v c ∧ c ≤ (k : Int) * 1048576
theorem Qkx {k v : Nat} (h : Lev A src k v) : Lev A src (k + 1) v := by
 obtain ⟨c, h1, h2⟩ := h
 exact ⟨c, h1, by rw [Int.natCast_add, Int.add_mul]; omega⟩
theorem Qld (hA : AOK A src n) {k : Nat} (hst : ∀ v, v < n → Lev A src (k + 1) v → Lev A src k v) {v : Nat} {c : Int} (h : Reach A src v c) : Lev A src k v := by
 induction h with
 | @base i hs => exact ⟨0, .base hs, by have : (0 : Int) ≤ (k : Int) * 1048576 := Int.mul_nonneg (by omega) (by decide); omega⟩
 | @step v u c w hr ha ih =>
  obtain ⟨hv, hu, hw0, hw1⟩ := hA.a _ _ _ ha
  obtain ⟨c', h1, h2⟩ := ih
  exact hst u hu ⟨c' + w, .step h1 ha, by rw [Int.natCast_add, Int.add_mul]; omega⟩
theorem QlT (hA : AOK A src n) : ∃ k, k ≤ n ∧ ∀ v, v < n → Lev A src (k + 1) v → Lev A src k v := by
 by_cases h : ∃ k, k ≤ n ∧ ∀ v, v < n → Lev A src (k + 1) v → Lev A src k v
 ·exact h
 ·exfalso
  have hk : ∀ k, k ≤ n + 1 → k ≤ ((List.range n).filter fun v => decide (Lev A src k v)).length := by
   intro k
   induction k with
   | zero => intro _; omega
   | succ k ih =>
    intro hle
    have h1 := ih (by omega)
    have hno : ∃ v, v < n ∧ Lev A src (k + 1) v ∧ ¬ Lev A src k v := by
     refine Classical.byContradiction fun hc => h ⟨k, by omega, fun v hv hl => ?_⟩
     exact Classical.byContradiction fun hn => hc ⟨v, hv, hl, hn⟩
    obtain ⟨v, hv, hl, hn⟩ := hno
    have := Qei (l := List.range n) (p := fun v => decide (Lev A src k v)) (q := fun v => decide (Lev A src (k + 1) v)) (fun x _ hx => by
     simp only [decide_eq_true_eq] at hx ⊢; exact Qkx hx) ⟨v, List.mem_range.2 hv, by simpa using hl, by simpa using hn⟩
    omega
  have h1 := hk (n + 1) (Nat.le_refl _)
  have h2 := List.length_filter_le (fun v => decide (Lev A src (n + 1) v)) (List.range n)
  rw [List.length_range] at h2
  omega
theorem QmU (hA : AOK A src n) {v : Nat} {c : Int} (h : Reach A src v c) : ∃ c', Reach A src v c' ∧ c' ≤ (n : Int) * 1048576 := by
 obtain ⟨k, hk, hst⟩ := QlT hA
 obtain ⟨c', h1, h2⟩ := Qld hA hst h
 exact ⟨c', h1, Int.le_trans h2 (Int.mul_le_mul_of_nonneg_right (by omega) (by decide))⟩
end
theorem Qll {t : Task} (ht : SmallT t) (hp : Yw t.Vars ≤ 36) : Ok (Qay t) fun B => (B = 1125899906842624 ∧ ∀ c, ¬ RS t t.Init c) ∨ (0 ≤ B ∧ B ≤ 37748736 ∧ RS t t.Init B ∧ ∀ c, RS t t.Init c → B ≤ c) := by
 have hA := QjW ht
 have hv1 : ∀ n ∈ t.Vars, 1 ≤ n := fun n hn => (ht.g.v n hn).1
 have hrk := Qdu hv1 ht.g.init
 have hpp := Qc2 hv1
 unfold Qay
 refine Ok.bind (Ok.mono (QkF ht) fun l hl => ?_)
 rw [QiK ht.g.v (by omega) ht.g.init]
 simp only [Option.bind_some]
 have hlen := hl.len
 obtain ⟨x, hx⟩ := Ql (xs := l) (i := (rk t.Vars t.Init).toNat) (by omega)
 have hi : QD l (rk t.Vars t.Init) = some x := by unfold QD; rw [if_pos hrk.1, hx]
 rw [hi]
 simp only [Option.bind_some]
 have hr := hl.rng _ _ hx
 have hn36 : ((Yw t.Vars).toNat : Int) * 1048576 ≤ 37748736 := by
  have : ((Yw t.Vars).toNat : Int) ≤ 36 := by omega
  omega
 have hInf : Inf = 1125899906842624 := rfl
 have hall : ∀ c, RS t t.Init c → x ≤ c ∧ x ≤ 37748736 := by
  intro c hc
  obtain ⟨c', h1, h2⟩ := QmU hA hc
  obtain ⟨y, hy, hyc⟩ := hl.le hA h1 (by omega)
  rw [hx] at hy
  cases hy
  refine ⟨?_, by omega⟩
  by_cases hci : c < Inf
  ·obtain ⟨y, hy, hyc⟩ := hl.le hA hc hci
   rw [hx] at hy
   cases hy
   exact hyc
  ·omega
 refine Ok.ret ?_
 by_cases hlt : x < Inf
 ·have hre : RS t t.Init x := hl.re _ _ hx hlt
  exact .inr ⟨hr.1, (hall x hre).2, hre, fun c hc => (hall c hc).1⟩
 ·refine .inl ⟨by omega, fun c hc => ?_⟩
  have := (hall c hc).2
  omega
end Go.Pw
/- -/
set_option maxHeartbeats 8000000
namespace Go.Pw
theorem Qmh (e : Option Int) (c : Int) : Yq e c = (e.isSome && decide (Yj e = c)) := by
 have h := Qbj e c
 unfold Qb5 at h
 exact (Zu h).symm
theorem Qmt (n : Int) : Yj (some n) = n := by
 have h := QdJ (some n)
 unfold QaJ at h
 simp at h
 exact h.symm
theorem QhR {t : Task} (ht : GoodT t) {f : List Fact} (h : FactsOK t.Vars f) : ∀ x ∈ f, I13 x.Var ∧ I13 x.Val := fun x hx => by
 have hr := h.r x hx
 have hd := QjR ht hr
 have h0 := hr.1
 have h1 := hr.2.2.1
 exact ⟨⟨h0, by omega⟩, ⟨h1, by omega⟩⟩
theorem Qj0 {vars : List Int} {f : List Fact} (h : FactsOK vars f) : f.length ≤ vars.length := by
 have := Qgg (l := f.map (·.Var)) (n := vars.length) (by
  rw [List.Nodup, List.pairwise_map]
  exact h.o.imp fun h => by omega) fun w hw => by
   obtain ⟨x, hx, rfl⟩ := List.mem_map.1 hw
   have hr := h.r x hx
   exact ⟨hr.1, hr.2.1⟩
 simpa using this
theorem QiI {t : Task} (ht : GoodT t) {b : Int} {N : List Nogood} (hp : PreC t b N) (hl : N.length ≤ 300) (hv : t.Vars.length ≤ 5) : SmallC b N where
 b0 := hp.b0
 b1 := by have := hp.b1; omega
 len := hl
 fl := fun n hn => Nat.le_trans (Qj0 (hp.pv n hn)) hv
 fv := fun n hn => QhR ht (hp.pv n hn)
 ds := fun n hn => by
  have h := hp.ds n hn
  have := hp.b1
  have h1 := h.1
  have h2 := h.2
  have h3 := h.3
  unfold I13
  omega
 chk := QgA ht hp
/-! ### what follows the certificate -/
theorem QiF {t : Task} (ht : ShortT t) {M : Nat} (hM : Cap t.Vars M) (hM' : M ≤ 273) (hops : t.Ops.length ≤ 6) (hv5 : t.Vars.length ≤ 5) {b : Int} (hb0 : -1 ≤ b) (hb1 : b ≤ 1099511627776) {N : List Nogood} (hcl : ClosedC t b N) {fu : Nat} (hfu : 6 ≤ fu + 1) :
  Ok ((if (none : Option Int).isSome then (some true)
 else ((Qq (fu + 1) t (⟨b, N⟩ : Certificate) 1048576).bind <| fun (y107 : (Option Int)) =>
 some y107.isSome)).bind (fun (z101 : Bool) => if z101 then (some false)
 else ((QU (⟨b, N⟩ : Certificate)).bind <| QK fun (y108 : ByteArray) (y109 : (Option Int)) =>
 if y109.isSome then (some false)
 else ((Ji y108).bind <| K3 fun (y110 : Int) (y111 : (Option Int)) (y112 : Certificate) =>
 (if y111.isSome then (some true)
 else ((Qq (fu + 1) t y112 1048576).bind <| fun (y113 : (Option Int)) =>
 some y113.isSome)).bind (fun (z102 : Bool) => if z102 then (some false)
 else (if decide (8 < (N.length : Int)) then (some true)
 else ((J4 (fu + 1) t y112 20000).bind <| QK fun (y114 : (Option Int)) (y115 : Certificate) =>
 if (Yq y114 10) then (some true)
 else ((if y114.isNone then ((Qq (fu + 1) t y115 20000).bind <| fun (y116 : (Option Int)) =>
 if y116.isNone then (some (decide (y115.Bound = b)))
 else (some false))
 else (some false)).bind (fun (z103 : Bool) => some z103))))))))) fun r => r = true := by
 obtain ⟨hp, hNM⟩ := hcl.pre hM (by omega) hb0 hb1
 have hbig : N.length * (t.Ops.length * M) ≤ 273 * (6 * 273) := Nat.mul_le_mul (by omega) (Nat.mul_le_mul hops hM')
 have hV := Qbs ht hM (by omega) hp hcl (fu := fu) (S := 1048576) (by omega) (by omega)
 have hs := QiI ht.g hp (by omega) hv5
 simp only [Option.isSome_none, Bool.false_eq_true, if_false, hV, Option.bind_some, Qg0 hs, QK, Qkt hs, K3]
 by_cases h8 : 8 < (N.length : Int)
 ·simp only [h8, decide_true, if_true]
  exact Ok.ret Z
 simp only [h8, decide_false, Bool.false_eq_true, if_false]
 have hsm : N.length * (t.Ops.length * M) ≤ 8 * (6 * 273) := Nat.mul_le_mul (by omega) (Nat.mul_le_mul hops hM')
 have hV2 := Qbs ht hM (by omega) hp hcl (fu := fu) (S := 20000) (by omega) (by omega)
 refine Ok.bind (Ok.mono (Qjk ht hM (by omega) hp (by omega) hV2) ?_)
 rintro ⟨e, c⟩ ⟨h1, h2, h3⟩
 simp only at h1 h2 h3
 subst h1
 simp only [QK, Qmh, Option.isSome_none, Bool.false_and, Bool.false_eq_true, if_false, Option.isNone_none, if_true, h3, Option.bind_some, h2, decide_true]
 exact Ok.ret Z
/-! ### the fixed task -/
def t0 : Task := ⟨[2], [0], [(⟨0, 1⟩ : Fact)], [(⟨⟨#[]⟩, 2, [], [(⟨[], 0, 1⟩ : Effect)]⟩ : Op)]⟩
theorem Qmz {f : List Fact} (h : FactsOK [2] f) (hn : ¬ hold f [0]) : f = [⟨0, 1⟩] := by
 have hz : ∀ x ∈ f, x.Var = 0 ∧ (x.Val = 0 ∨ x.Val = 1) := by
  intro x hx
  obtain ⟨h0, h1, h2, h3⟩ := h.r x hx
  simp at h1
  have hv : x.Var = 0 := by omega
  rw [hv] at h3
  simp at h3
  exact ⟨hv, by omega⟩
 have ho := h.o
 match f, hz, ho, hn with
 | [], _, _, hn => exact absurd (fun x hx => by simp at hx) hn
 | [x], hz, _, hn =>
  obtain ⟨h1, h2⟩ := hz x (by simp)
  cases x with
  | mk a b =>
   simp only at h1 h2
   subst h1
   rcases h2 with rfl | rfl
   ·exact absurd (fun x hx => by rw [List.mem_singleton.1 hx]; rfl) hn
   ·rfl
 | x :: y :: r, hz, ho, _ =>
  have h1 := (hz x (by simp)).1
  have h2 := (hz y (by simp)).1
  have := List.rel_of_pairwise_cons ho (a' := y) (by simp)
  omega
theorem good0 : GoodT t0 where
 nv := by decide
 no := by decide
 v := by
  intro n hn
  have h2 : n = 2 := by simpa [t0] using hn
  omega
 init := ⟨rfl, by
  intro i x d hx hd
  match i with
  | 0 => cases hx; cases hd; omega
  | i + 1 => cases hx⟩
 goal := ⟨fun x hx => by rw [List.mem_singleton.1 hx]; exact ⟨by decide, by decide, by decide, by decide⟩, List.pairwise_singleton _ _⟩
 op := by
  intro o ho
  rw [List.mem_singleton.1 ho]
  refine ⟨by decide, by decide, by decide, by decide, ?_, ⟨by simp, by simp⟩, ?_⟩
  ·intro c hc; simp [QJ] at hc
  ·intro e he
   rw [List.mem_singleton.1 he]
   exact ⟨⟨by simp, by simp⟩, ⟨by decide, by decide, by decide, by decide⟩⟩
theorem Qik : ShortT t0 := ⟨good0, by
 intro o ho e he
 rw [List.mem_singleton.1 ho] at he
 rw [List.mem_singleton.1 he]
 exact Nat.zero_le _⟩
theorem rs0 {c : Int} (h : RS t0 t0.Init c) : 2 ≤ c := by
 have := (QjJ good0 (fun s c => hold t0.Goal s ∨ 2 ≤ c) (fun s _ hg => .inl hg) (fun i o s c hi _ _ hc _ _ => .inr (by
  have ho : o.Cost = 2 := by
   match i with
   | 0 => cases hi; rfl
   | i + 1 => cases hi
  omega)) good0.init h).1
 rcases this with hg | hc
 ·have := hg ⟨0, 1⟩ (by simp [t0])
  exact absurd this (by decide)
 ·exact hc
theorem QjN : Jg t0 2 10 = some (none, ⟨2, [⟨[⟨0, 1⟩], 0⟩]⟩) := by
 refine Ok.eq (Ok.mono (Qfm Qik (Qfj t0.Vars) (by decide) (by decide) (lim := 10) (by decide) (b := 2) (by decide) (by decide)) ?_)
 rintro ⟨e, bd, N⟩ (⟨h1, h2, h3⟩ | ⟨_, _, c, hc, hlt⟩)
 ·simp only at h1 h2 h3
  subst h1 h2
  have hf : ∀ n ∈ N, n.Facts = [⟨0, 1⟩] := fun n hn => Qmz (h3.pv n hn) (h3.ni n hn)
  obtain ⟨m, hm, hd, _⟩ := h3.goal (by decide)
  have hnd := h3.nd
  match N, hf, hm, hnd with
  | [], _, hm, _ => cases hm
  | [n], hf, hm, _ =>
   have e := List.mem_singleton.1 hm
   subst e
   have := hf m (by simp)
   cases m with
   | mk a b =>
    simp only at this hd
    rw [this, hd]
  | n :: k :: r, hf, _, hnd =>
   have e1 := hf n (by simp)
   have e2 := hf k (by simp)
   simp [e1, e2] at hnd
 ·have := rs0 hc
  have := hlt (by decide)
  omega
theorem QlH : dec 0 = [48] ∧ dec 1 = [49] ∧ dec 2 = [50] := by
 refine ⟨?_, ?_, ?_⟩
 ·show Lib.decDigits 0 = _
  rw [Lib.decDigits_one (by decide)]; rfl
 ·show Lib.decDigits 1 = _
  rw [Lib.decDigits_one (by decide)]; rfl
 ·show Lib.decDigits 2 = _
  rw [Lib.decDigits_one (by decide)]; rfl
theorem closed0 : ClosedC t0 2 [⟨[⟨0, 1⟩], 0⟩] := by
 obtain ⟨r, h1, h2⟩ := Qfm Qik (Qfj t0.Vars) (by decide) (by decide) (lim := 10) (by decide) (b := 2) (by decide) (by decide)
 rw [QjN] at h1
 cases h1
 rcases h2 with ⟨_, _, h⟩ | ⟨h, _⟩
 ·exact h
 ·cases h
theorem QhC (fu : Nat) : QN (fu + 1) = some true := by
 obtain ⟨hp, _⟩ := closed0.pre (Qfj t0.Vars) (by decide) (by decide) (by decide)
 have hs := QiI good0 hp (by decide) (by decide)
 have hV := Qbs Qik (Qfj t0.Vars) (by decide) hp closed0 (fu := fu) (S := 100) (by decide) (by decide)
 unfold QN
 have hl := QjN
 unfold t0 at hl hV
 rw [hl]
 simp only [Option.bind_some, QK, Qg0 hs, Option.isNone_none, if_true]
 have ht : bt (txt 2 [⟨[⟨0, 1⟩], 0⟩]) = (⟨#[108, 111, 119, 101, 114, 32, 50, 10, 110, 111, 103, 111, 111, 100, 32, 48, 58, 32, 48, 61, 49, 10]⟩ : ByteArray) := by
  have : txt 2 [⟨[⟨0, 1⟩], 0⟩] = [108, 111, 119, 101, 114, 32, 50, 10, 110, 111, 103, 111, 111, 100, 32, 48, 58, 32, 48, 61, 49, 10] := by
   simp [txt, Yn, ngl, fct, QlH.1, QlH.2.1, QlH.2.2]
  rw [this]; rfl
 rw [if_pos (decide_eq_true ht), hV]
 rfl
/-! ### the law -/
theorem Qji (fu : Nat) (t : Task) (hfu : 6 ≤ fu + 1) : Jb (fu + 1) t = some true := by
 refine Ok.eq ?_
 unfold Jb
 refine Ok.bind (Ok.mono (P := fun z => z = true ∨ (z = false ∧ ShortT t ∧ SmallT t ∧ t.Ops.length ≤ 6 ∧ Yw t.Vars ≤ 36 ∧ ∀ n ∈ t.Vars, 2 ≤ n ∧ n ≤ 4)) ?_ ?_)
 ·refine Ok.bind (Ok.mono (Qkh t) fun y hy => ?_)
  cases y with
  | false => exact Ok.ret (.inl rfl)
  | true =>
   obtain ⟨hs, hv, hw⟩ := hy rfl
   simp only [Bool.not_true, Bool.false_eq_true, if_false]
   by_cases h6 : 6 < (t.Ops.length : Int)
   ·simp only [h6, decide_true, if_true]
    exact Ok.ret (.inl Z)
   simp only [h6, decide_false, Bool.false_eq_true, if_false]
   refine Ok.bind (Ok.mono (QlR hv) fun m hm => ?_)
   by_cases h36 : 36 < m
   ·simp only [h36, decide_true, if_true]
    exact Ok.ret (.inl Z)
   simp only [h36, decide_false, Bool.false_eq_true, if_false, QhC, Option.bind_some, Bool.not_true]
   exact Ok.ret (.inr ⟨Z, ⟨hs.g, hw⟩, hs, by omega, by omega, hv⟩)
 ·rintro z (rfl | ⟨rfl, ht, hs, h6, hp, hv⟩)
  ·simp only [if_true, QhC, Option.bind_some]
   exact Ok.ret Z
  simp only [Bool.false_eq_true, if_false]
  have hM := Qfj t.Vars
  have hM' := QlP hv hp
  have hv5 := Qh8 hv hp
  have hL : ∀ {b : Int}, -1 ≤ b → b ≤ 1099511627776 → Ok (Jg t b 4096) _ := fun h0 h1 => Qfm ht hM (by omega) (by omega) (lim := 4096) (by omega) h0 h1
  refine Ok.bind (Ok.mono (Qll hs hp) fun B hB => ?_)
  rcases hB with ⟨rfl, hno⟩ | ⟨h0, h1, hre, hall⟩
  ·simp only [decide_true, if_true]
   refine Ok.bind (Ok.mono (hL (by decide) (by decide)) ?_)
   rintro ⟨e, bd, N⟩ (⟨e1, e2, hcl⟩ | ⟨_, _, c, hc, _⟩)
   ·simp only at e1 e2 hcl
    subst e1 e2
    exact QiF ht hM hM' h6 hv5 (by decide) (by decide) hcl hfu
   ·exact absurd hc (hno c)
  ·have hne : ¬ B = 1125899906842624 := by omega
   simp only [hne, decide_false, Bool.false_eq_true, if_false]
   rw [Q1 (by omega) (by omega)]
   refine Ok.bind (Ok.mono (hL (by omega) (by omega)) ?_)
   rintro ⟨e, c⟩ hr
   have he : e = some 13 := by
    rcases hr with ⟨_, _, hcl⟩ | ⟨h, _⟩
    ·obtain ⟨n, hn, hh, _⟩ := hcl.covers ht hM (by omega) (by omega) ht.g.init hre (fun _ => by omega)
     exact absurd hh (hcl.ni n hn)
    ·exact h
   subst he
   have hI : Yq (some 13) 13 = true := by rw [Qmh, Qmt]; rfl
   simp only [QK, hI, Bool.not_true, Bool.false_eq_true, if_false]
   refine Ok.bind (Ok.mono (hL (by omega) (by omega)) ?_)
   rintro ⟨e, bd, N⟩ (⟨e1, e2, hcl⟩ | ⟨_, _, c, hc, hlt⟩)
   ·simp only at e1 e2 hcl
    subst e1 e2
    exact QiF ht hM hM' h6 hv5 (by omega) (by omega) hcl hfu
   ·have := hall c hc
    have := hlt h0
    omega
end Go.Pw
