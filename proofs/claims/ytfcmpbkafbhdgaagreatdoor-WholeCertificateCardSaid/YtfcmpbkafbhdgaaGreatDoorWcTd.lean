/- -/
import Derived.Test.YtfcmpbkafbhdgaaGreatDoorWcTc
set_option maxHeartbeats 8000000
set_option linter.unusedSimpArgs false
set_option linter.unusedVariables false
namespace Go.Pw
def ELt (a b : certify_entry) : Prop := a.dist < b.dist ∨ a.dist = b.dist ∧ a.order < b.order
theorem ELt.asymm {a b : certify_entry} (h : ELt a b) : ¬ ELt b a := by unfold ELt at *; omega
theorem ELt.ntrans {a b c : certify_entry} (h : ¬ ELt b a) (k : ¬ ELt c b) : ¬ ELt c a := by unfold ELt at *; omega
theorem ELt.ltn {a b c : certify_entry} (h : ELt b a) (k : ¬ ELt c a) : ¬ ELt c b := by unfold ELt at *; omega
def ge (l : List certify_entry) (k : Nat) : certify_entry := l[k]?.getD ⟨[], 0, 0⟩
theorem QjP {l : List certify_entry} {k : Nat} (h : k < l.length) : l[k]? = some (ge l k) := by unfold ge; simp [h]
theorem Qey {l : List certify_entry} {k : Nat} {a : certify_entry} (h : l[k]? = some a) : ge l k = a := by unfold ge; rw [h]; rfl
def HP (l : List certify_entry) (n : Nat) : Prop := ∀ k, 0 < k → k < n → ¬ ELt (ge l k) (ge l ((k - 1) / 2))
theorem HP.root {l : List certify_entry} {n : Nat} (h : HP l n) : ∀ k, k < n → ¬ ELt (ge l k) (ge l 0) := by
 intro k
 induction k using Nat.strongRecOn with
 | _ k ih =>
  intro hk
  by_cases h0 : k = 0
  ·subst h0; unfold ELt; omega
  ·exact (ih ((k - 1) / 2) (by omega) (by omega)).imp fun e => e |> fun e => Classical.byContradiction fun _ => ELt.ntrans (ih ((k - 1) / 2) (by omega) (by omega)) (h k (by omega) hk) e
theorem Qfq {h : List certify_entry} {i k : Nat} (hi : i < h.length) (hk : k < h.length) : Ok (Q8 h (i : Int) (k : Int)) fun r => r.Perm h ∧ ge r i = ge h k ∧ ge r k = ge h i ∧ ∀ q, q ≠ i → q ≠ k → r[q]? = h[q]? := by
 unfold Q8
 obtain ⟨a, ha⟩ := Ql hi
 obtain ⟨b, hb⟩ := Ql hk
 have e1 := (List.getElem?_eq_some_iff.1 ha).2
 have e2 := (List.getElem?_eq_some_iff.1 hb).2
 simp only [Qj, ha, hb, Option.bind_some, YR hi]
 obtain ⟨c, hc⟩ := Ql (xs := h.set i b) (i := k) (by simpa using hk)
 simp only [hc, Option.bind_some, YR (show k < (h.set i b).length by simpa using hk)]
 refine Ok.ret ⟨?_, ?_, ?_, ?_⟩
 ·rw [← e1, ← e2]
  exact List.set_set_perm hi hk
 ·by_cases e : k = i
  ·subst e
   rw [ha] at hb; cases hb
   rw [Qey ha]; exact Qey (by rw [List.getElem?_set_self (by simpa using hi)])
  ·rw [Qey hb]; exact Qey (by rw [List.getElem?_set_ne e, List.getElem?_set_self hi])
 ·rw [Qey ha]; exact Qey (by rw [List.getElem?_set_self (by simpa using hk)])
 ·intro q h1 h2
  rw [List.getElem?_set_ne (Ne.symm h2), List.getElem?_set_ne (Ne.symm h1)]
open Classical in
theorem Qfr {h : List certify_entry} {i k : Nat} (hi : i < h.length) (hk : k < h.length) : QF h (i : Int) (k : Int) = some (decide (ELt (ge h i) (ge h k))) := by
 unfold QF
 simp only [Qj, QjP hi, QjP hk, Option.bind_some]
 generalize ge h i = a
 generalize ge h k = b
 unfold ELt
 by_cases h1 : a.dist < b.dist
 ·simp [h1]
 ·by_cases h2 : a.dist = b.dist
  ·simp [h1, h2]
  ·simp [h1, h2]
theorem QlG (h : List certify_entry) : QH h = (h.length : Int) := by
 have e := J0 h
 unfold Jq at e
 exact (Zu e).symm
theorem gq {l k : List certify_entry} {q : Nat} (h : l[q]? = k[q]?) : ge l q = ge k q := by unfold ge; rw [h]
structure HU (l : List certify_entry) (n j : Nat) : Prop where
 a : ∀ k, 0 < k → k < n → k ≠ j → ¬ ELt (ge l k) (ge l ((k - 1) / 2))
 b : ∀ k, 0 < k → k < n → (k - 1) / 2 = j → 0 < j → ¬ ELt (ge l k) (ge l ((j - 1) / 2))
theorem QlV {h : List certify_entry} {j : Nat} (hj : j < h.length) (hl : h.length ≤ 70368744177664) (hu : HU h h.length j) : Ok (Y3 h (j : Int)) fun r => r.Perm h ∧ HP r r.length := by
 classical
 unfold Y3
 refine QbC (fun s => ∃ n : Nat, s.1 = (n : Int) ∧ n < s.2.length ∧ s.2.Perm h ∧ HU s.2 s.2.length n) (fun s => s.2.Perm h ∧ HP s.2 s.2.length) (fun _ => False) (fun s => s.1.toNat) ⟨j, Z, hj, List.Perm.refl _, hu⟩ ?_ (fun _ h => h.elim) (fun s hs => Ok.ret hs)
 rintro ⟨_, l⟩ ⟨n, rfl, hn, hp, hu⟩
 simp only at hn hp hu
 have hlen := hp.length_eq
 have w1 : IntKind.i64.wrap ((n : Int) - 1) = (n : Int) - 1 := Q1 (by omega) (by omega)
 by_cases h0 : n = 0
 ·subst h0
  have hw : IntKind.i64.wrap ((IntKind.i64.wrap (((0 : Nat) : Int) - 1)).tdiv 2) = ((0 : Nat) : Int) := by rfl
  simp only [QK, hw, decide_true, if_true, Option.bind_some]
  exact Ok.ret ⟨hp, fun k h1 h2 => hu.a k h1 h2 (by omega)⟩
 ·have w2 : IntKind.i64.wrap (((n : Int) - 1).tdiv 2) = ((((n - 1) / 2 : Nat)) : Int) := by
   have : ((n : Int) - 1).tdiv 2 = ((((n - 1) / 2 : Nat)) : Int) := by
    rw [Int.tdiv_eq_ediv_of_nonneg (by omega)]; omega
   rw [this]; exact Q1 (by omega) (by omega)
  have hne : ¬ ((((n - 1) / 2 : Nat)) : Int) = (n : Int) := by omega
  simp only [QK, w1, w2, hne, decide_false, Bool.false_eq_true, if_false]
  rw [Qfr (h := l) hn (show (n - 1) / 2 < l.length by omega)]
  simp only [Option.bind_some]
  by_cases hlt : ELt (ge l n) (ge l ((n - 1) / 2))
  ·simp only [hlt, decide_true, Bool.not_true, Bool.false_eq_true, if_false]
   obtain ⟨r, hr, hr2, g1, g2, g3⟩ := Qfq (h := l) (show (n - 1) / 2 < l.length by omega) hn
   simp only [hr, Option.bind_some]
   have hrl := hr2.length_eq
   generalize hi : (n - 1) / 2 = i at *
   have hin : i < n := by omega
   refine Ok.ret ⟨⟨i, Z, by simp only; omega, hr2.trans hp, ?_, ?_⟩, by simp only [Int.toNat_natCast]; omega⟩
   ·intro k h1 h2 h3
    simp only at h2 ⊢
    rw [hrl] at h2
    by_cases hkn : k = n
    ·subst hkn
     rw [hi, g2, g1]; exact hlt.asymm
    ·rw [gq (g3 k h3 hkn)]
     by_cases hpi : (k - 1) / 2 = i
     ·rw [hpi, g1]
      have := hu.a k h1 h2 hkn
      rw [hpi] at this
      exact hlt.ltn this
     ·by_cases hpn : (k - 1) / 2 = n
      ·rw [hpn, g2]
       have := hu.b k h1 h2 hpn (by omega)
       rw [hi] at this
       exact this
      ·rw [gq (g3 _ hpi hpn)]
       exact hu.a k h1 h2 hkn
   ·intro k h1 h2 h3 h4
    simp only at h2 ⊢
    rw [hrl] at h2
    have hpp : (i - 1) / 2 < i := by omega
    rw [gq (g3 ((i - 1) / 2) (by omega) (by omega))]
    have hi0 := hu.a i h4 (by omega) (by omega)
    by_cases hkn : k = n
    ·subst hkn; rw [g2]; exact hi0
    ·rw [gq (g3 k (by omega) hkn)]
     have := hu.a k h1 h2 hkn
     rw [h3] at this
     exact ELt.ntrans hi0 this
  ·simp only [hlt, decide_false, Bool.not_false, if_true]
   refine Ok.ret ⟨hp, fun k h1 h2 => ?_⟩
   by_cases e : k = n
   ·subst e; exact hlt
   ·exact hu.a k h1 h2 e
theorem Qk5 {h : List certify_entry} {x : certify_entry} (hh : HP h h.length) (hl : h.length ≤ 1099511627776) : Ok (Jo h x) fun r => r.Perm (x :: h) ∧ HP r r.length := by
 unfold Jo JT
 rw [K4 (by simp; omega)]
 simp only [Option.bind_some, QlG]
 have w : IntKind.i64.wrap (((h ++ [x]).length : Int) - 1) = (h.length : Int) := by
  rw [Q1] <;> simp <;> omega
 rw [w]
 have hu : HU (h ++ [x]) (h ++ [x]).length h.length := by
  have hg : ∀ q, q < h.length → ge (h ++ [x]) q = ge h q := fun q hq => gq (by rw [List.getElem?_append_left hq])
  refine ⟨fun k h1 h2 h3 => ?_, fun k h1 h2 h3 h4 => ?_⟩
  ·have : k < h.length := by simp at h2; omega
   rw [hg k this, hg _ (by omega)]
   exact hh k h1 this
  ·simp at h2; omega
 refine Ok.bind ((QlV (h := h ++ [x]) (j := h.length) (by simp) (by simp; omega) hu).mono fun r hr => Ok.ret ⟨?_, hr.2⟩)
 exact hr.1.trans (List.perm_append_comm (l₁ := h) (l₂ := [x]))
structure HD (l : List certify_entry) (n i : Nat) : Prop where
 a : ∀ k, 0 < k → k < n → (k - 1) / 2 ≠ i → ¬ ELt (ge l k) (ge l ((k - 1) / 2))
 b : ∀ k, 0 < k → k < n → (k - 1) / 2 = i → 0 < i → ¬ ELt (ge l k) (ge l ((i - 1) / 2))
theorem Qk7 {h : List certify_entry} {m : Nat} (hm : m ≤ h.length) (hl : h.length ≤ 70368744177664) (h1 : 0 < h.length) (hd : HD h m 0) : Ok (KT h 0 (m : Int)) fun r => r.2.Perm h ∧ HP r.2 m ∧ ∀ q, m ≤ q → r.2[q]? = h[q]? := by
 classical
 unfold KT
 refine QbC (fun s => ∃ n : Nat, s.1 = (n : Int) ∧ n < s.2.length ∧ s.2.Perm h ∧ HD s.2 m n ∧ ∀ q, m ≤ q → s.2[q]? = h[q]?) (fun s => s.2.Perm h ∧ HP s.2 m ∧ ∀ q, m ≤ q → s.2[q]? = h[q]?) (fun _ => False) (fun s => h.length - s.1.toNat) ⟨0, Z, h1, List.Perm.refl _, hd, fun _ _ => rfl⟩ ?_ (fun _ h => h.elim) (fun s hs => Ok.ret hs)
 rintro ⟨_, l⟩ ⟨n, rfl, hn, hp, hd, hq⟩
 simp only at hn hp hd hq
 have hlen := hp.length_eq
 have w1 : IntKind.i64.wrap (2 * (n : Int)) = 2 * (n : Int) := Q1 (by omega) (by omega)
 have w2 : IntKind.i64.wrap (2 * (n : Int) + 1) = ((2 * n + 1 : Nat) : Int) := by rw [Q1 (by omega) (by omega)]; omega
 have w3 : IntKind.i64.wrap (((2 * n + 1 : Nat) : Int) + 1) = ((2 * n + 2 : Nat) : Int) := by rw [Q1 (by omega) (by omega)]; omega
 by_cases hmb : (m : Int) ≤ ((2 * n + 1 : Nat) : Int)
 ·simp only [QK, w1, w2, hmb, decide_true, Bool.true_or, if_true]
  exact Ok.ret ⟨hp, fun k h1 h2 => hd.a k h1 h2 (by omega), hq⟩
 ·have hneg : ¬ ((2 * n + 1 : Nat) : Int) < 0 := by omega
  simp only [QK, w1, w2, w3, hmb, hneg, decide_false, Bool.or_false, Bool.false_eq_true, if_false]
  have key : ∀ j : Nat, (j - 1) / 2 = n → 0 < j → j < m → (∀ k, 0 < k → k < m → (k - 1) / 2 = n → ¬ ELt (ge l k) (ge l j)) → Ok ((QF l (j : Int) (n : Int)).bind fun (y101 : Bool) =>
    if !y101 then (some (Ctl.brk ((n : Int), l)))
    else ((Q8 l (n : Int) (j : Int)).bind fun (l101 : (List certify_entry)) =>
    some (Ctl.next ((j : Int), l101)))) (WP (R := Bool × List certify_entry) (fun s : Int × List certify_entry => ∃ n : Nat, s.1 = (n : Int) ∧ n < s.2.length ∧ s.2.Perm h ∧ HD s.2 m n ∧ ∀ q, m ≤ q → s.2[q]? = h[q]?) (fun s => s.2.Perm h ∧ HP s.2 m ∧ ∀ q, m ≤ q → s.2[q]? = h[q]?) (fun _ => False) (fun s => h.length - s.1.toNat) ((n : Int), l)) := by
   intro j hj hj0 hjm hmin
   rw [Qfr (h := l) (show j < l.length by omega) hn]
   simp only [Option.bind_some]
   by_cases hlt : ELt (ge l j) (ge l n)
   ·simp only [hlt, decide_true, Bool.not_true, Bool.false_eq_true, if_false]
    obtain ⟨r, hr, hr2, g1, g2, g3⟩ := Qfq (h := l) hn (show j < l.length by omega)
    simp only [hr, Option.bind_some]
    have hrl := hr2.length_eq
    have hnj : n < j := by omega
    refine Ok.ret ⟨⟨j, Z, by simp only; omega, hr2.trans hp, ⟨?_, ?_⟩, fun q hq' => ?_⟩, by simp only [Int.toNat_natCast]; omega⟩
    ·intro k k1 k2 k3
     simp only
     by_cases hkj : k = j
     ·subst hkj
      rw [hj, g2, g1]; exact hlt.asymm
     ·by_cases hkn : k = n
      ·subst hkn
       rw [g1, gq (g3 ((k - 1) / 2) (by omega) (by omega))]
       exact hd.b j hj0 hjm hj k1
      ·rw [gq (g3 k hkn hkj)]
       by_cases hpn : (k - 1) / 2 = n
       ·rw [hpn, g1]; exact hmin k k1 k2 hpn
       ·rw [gq (g3 _ hpn k3)]
        exact hd.a k k1 k2 hpn
    ·intro k k1 k2 k3 k4
     simp only
     rw [hj, g1, gq (g3 k (by omega) (by omega))]
     have := hd.a k k1 k2 (by omega)
     rw [k3] at this
     exact this
    ·simp only
     rw [g3 q (by omega) (by omega)]
     exact hq q hq'
   ·simp only [hlt, decide_false, Bool.not_false, if_true]
    refine Ok.ret ⟨hp, fun k k1 k2 => ?_, hq⟩
    by_cases e : (k - 1) / 2 = n
    ·rw [e]
     exact ELt.ntrans hlt (hmin k k1 k2 e)
    ·exact hd.a k k1 k2 e
  have irr : ∀ a, ¬ ELt a a := fun a => by unfold ELt; omega
  by_cases h2 : ((2 * n + 2 : Nat) : Int) < (m : Int)
  ·simp only [h2, decide_true, if_true]
   rw [Qfr (h := l) (show 2 * n + 2 < l.length by omega) (show 2 * n + 1 < l.length by omega)]
   simp only [Option.bind_some]
   by_cases hlt : ELt (ge l (2 * n + 2)) (ge l (2 * n + 1))
   ·simp only [hlt, decide_true, if_true, Option.bind_some]
    refine key (2 * n + 2) (by omega) (by omega) (by omega) fun k k1 k2 k3 => ?_
    have : k = 2 * n + 1 ∨ k = 2 * n + 2 := by omega
    rcases this with rfl | rfl
    ·exact hlt.asymm
    ·exact irr _
   ·simp only [hlt, decide_false, Bool.false_eq_true, if_false, Option.bind_some]
    refine key (2 * n + 1) (by omega) (by omega) (by omega) fun k k1 k2 k3 => ?_
    have : k = 2 * n + 1 ∨ k = 2 * n + 2 := by omega
    rcases this with rfl | rfl
    ·exact irr _
    ·exact hlt
  ·simp only [h2, decide_false, Bool.false_eq_true, if_false, Option.bind_some]
   refine key (2 * n + 1) (by omega) (by omega) (by omega) fun k k1 k2 k3 => ?_
   have : k = 2 * n + 1 := by omega
   subst this; exact irr _
theorem Qlf {h : List certify_entry} (h1 : 0 < h.length) (hl : h.length ≤ 70368744177664) (hh : HP h h.length) : Ok (Yl h) fun r => (r.1 :: r.2).Perm h ∧ HP r.2 r.2.length ∧ ∀ y ∈ h, ¬ ELt y r.1 := by
 unfold Yl
 have w : IntKind.i64.wrap ((h.length : Int) - 1) = ((h.length - 1 : Nat) : Int) := by rw [Q1 (by omega) (by omega)]; omega
 simp only [QlG, w]
 obtain ⟨l, hl0, hl1, g1, g2, g3⟩ := Qfq (h := h) (i := 0) (k := h.length - 1) h1 (by omega)
 have hl0' : Q8 h 0 ((h.length - 1 : Nat) : Int) = some l := hl0
 rw [hl0']
 simp only [Option.bind_some]
 have e1 := hl1.length_eq
 have hd : HD l (h.length - 1) 0 := by
  refine ⟨fun k k1 k2 k3 => ?_, fun k k1 k2 k3 k4 => by omega⟩
  rw [gq (g3 k (by omega) (by omega)), gq (g3 _ k3 (by omega))]
  exact hh k k1 (by omega)
 refine Ok.bind ((Qk7 (h := l) (m := h.length - 1) (by omega) (by omega) (by omega) hd).mono ?_)
 rintro ⟨b, k⟩ ⟨hk, hhp, hkq⟩
 simp only at hk hhp hkq
 have e2 := hk.length_eq
 simp only [QK]
 unfold Kk
 have w2 : IntKind.i64.wrap ((k.length : Int) - 1) = ((k.length - 1 : Nat) : Int) := by rw [Q1 (by omega) (by omega)]; omega
 obtain ⟨x, hx⟩ := Ql (xs := k) (i := k.length - 1) (by omega)
 have hv : Yy k 0 ((k.length - 1 : Nat) : Int) = some (k.length - 1) := by
  unfold Yy
  rw [if_pos ⟨by omega, by omega, by omega, by omega⟩]
  simp
 have hm : must (decide (k.length - 1 ≤ k.length)) = some () := by unfold must; rw [if_pos (by simp)]
 simp only [w2, Qj, hx, hv, hm, Option.bind_some]
 have hx0 : x = ge h 0 := by
  have h3 := hkq (h.length - 1) (Nat.le_refl _)
  rw [show k.length - 1 = h.length - 1 by omega] at hx
  rw [hx] at h3
  rw [← g2]
  exact (Qey h3.symm).symm
 refine Ok.ret ⟨?_, ?_, ?_⟩
 ·have hsn := Qu hx
  rw [show k.length - 1 + 1 = k.length by omega, List.take_length] at hsn
  have : (x :: k.take (k.length - 1)).Perm k := by
   conv => rhs; rw [hsn]
   exact List.perm_append_comm (l₁ := [x]) (l₂ := k.take (k.length - 1))
  exact this.trans (hk.trans hl1)
 ·have hlen : (k.take (k.length - 1)).length = h.length - 1 := by rw [List.length_take]; omega
  intro q q1 q2
  simp only at q2 ⊢
  rw [hlen] at q2
  have hg : ∀ p, p < h.length - 1 → ge (k.take (k.length - 1)) p = ge k p := fun p hp => gq (by rw [List.getElem?_take_of_lt (by omega)])
  rw [hg q q2, hg _ (by omega)]
  exact hhp q q1 q2
 ·intro y hy
  simp only
  rw [hx0]
  obtain ⟨q, hq⟩ := List.mem_iff_getElem?.1 hy
  rw [← Qey hq]
  exact hh.root q (List.getElem?_eq_some_iff.1 hq).1
end Go.Pw
/- -/
set_option maxHeartbeats 8000000
namespace Go.Pw
theorem Qfn {vars s : List Int} {f : List Fact} (hf : FactsOK vars f) (hs : s.length = vars.length) : ∃ b, Ys f s = some b ∧ (b = true ↔ hold f s) := by
 classical
 have e : Ys f s = Kt f s := rfl
 rw [e, QgI hf hs]
 exact ⟨_, Z, by simp⟩
theorem Qhf {p : List Fact} {N : List Nogood} (hp : PV p) (hpl : p.length ≤ 1000000) (hN : ∀ n ∈ N, PV n.Facts ∧ n.Facts.length ≤ 1000000) :
  ∃ b, JC p N = some b ∧ (b = true ↔ ∃ n ∈ N, SubF n.Facts p) := by
 classical
 unfold JC K9
 obtain ⟨r, hr, h⟩ : Ok (Jx N p) fun r => 0 ≤ r ↔ ∃ n ∈ N, SubF n.Facts p := by
  unfold Jx
  refine Ok.ctl (fun i _ => ∀ n ∈ N.take i, ¬ SubF n.Facts p) (fun r => 0 ≤ r ↔ ∃ n ∈ N, SubF n.Facts p) (by simp) ?_ (fun r h => Ok.ret h) ?_
  ·intro i _ hi h
   obtain ⟨x, hx⟩ := Ql (xs := N) (i := i) (by omega)
   have hxm := List.mem_of_getElem? hx
   rw [Qj, hx]
   simp only [Option.bind_some]
   unfold Kl
   rw [Qib hp (hN x hxm).1 hpl (hN x hxm).2]
   simp only [Option.bind_some]
   by_cases e : SubF x.Facts p
   ·simp only [e, decide_true, if_true]
    have h' : (0 : Int) ≤ (i : Int) ↔ ∃ n ∈ N, SubF n.Facts p := ⟨fun _ => ⟨x, hxm, e⟩, fun _ => by omega⟩
    exact Ok.ret h'
   ·simp only [e, decide_false, Bool.false_eq_true, if_false]
    refine Ok.ret ?_
    intro y hy
    rw [Qu hx] at hy
    rcases List.mem_append.1 hy with q | q
    ·exact h y q
    ·rw [List.mem_singleton.1 q]; exact e
  ·intro _ h
   rw [List.take_length] at h
   exact Ok.ret ⟨fun h => by omega, fun ⟨n, hn, hs⟩ => absurd hs (h n hn)⟩
 rw [hr]
 simp only [Option.bind_some]
 exact ⟨_, Z, by rw [decide_eq_true_eq]; exact h⟩
/-! ### what a state costs -/
def RS (t : Task) (s : List Int) (c : Int) : Prop := Reach (BA t) (QgE t) (rk t.Vars s).toNat c
theorem Qi6 {t : Task} (ht : GoodT t) {s : List Int} (hs : StateOK t.Vars s) : 0 ≤ rk t.Vars s := (Qdu (fun n hn => (ht.v n hn).1) hs).1
theorem QkX {t : Task} (ht : GoodT t) {s : List Int} (hs : StateOK t.Vars s) (h : hold t.Goal s) : RS t s 0 :=
 .base ⟨s, hs, by have := Qi6 ht hs; omega, h⟩
theorem Qft {t : Task} (ht : GoodT t) {i : Nat} {o : Op} (hi : t.Ops[i]? = some o) {s : List Int} (hs : StateOK t.Vars s) : StateOK t.Vars (Jm o.Effs s) :=
 QaD hs fun e he => ((ht.op o (List.mem_of_getElem? hi)).eff e he).2
theorem QkW {t : Task} (ht : GoodT t) {i : Nat} {o : Op} (hi : t.Ops[i]? = some o) {s : List Int} (hs : StateOK t.Vars s) (hp : hold o.Pre s) {c : Int} (h : RS t (Jm o.Effs s) c) : RS t s (c + o.Cost) := by
 refine Reach.step (v := (rk t.Vars (Jm o.Effs s)).toNat) (w := o.Cost) h ⟨s, i, o, hs, hi, hp, Z, ?_, ?_⟩
 ·have := Qi6 ht (Qft ht hi hs); omega
 ·have := Qi6 ht hs; omega
theorem QjJ {t : Task} (ht : GoodT t) (P : List Int → Int → Prop) (h0 : ∀ s, StateOK t.Vars s → hold t.Goal s → P s 0)
  (h1 : ∀ (i : Nat) o s c, t.Ops[i]? = some o → StateOK t.Vars s → hold o.Pre s → 0 ≤ c → RS t (Jm o.Effs s) c → P (Jm o.Effs s) c → P s (c + o.Cost)) {s : List Int} (hs : StateOK t.Vars s) {c : Int} (h : RS t s c) : P s c ∧ 0 ≤ c := by
 have hv1 : ∀ n ∈ t.Vars, 1 ≤ n := fun n hn => (ht.v n hn).1
 have key : ∀ (i : Nat) (c : Int), Reach (BA t) (QgE t) i c → ∀ s, StateOK t.Vars s → rk t.Vars s = (i : Int) → P s c ∧ 0 ≤ c := by
  intro i c h
  induction h with
  | base hb =>
   intro s hs he
   obtain ⟨s', hs', he', hg⟩ := hb
   have := QjL hv1 hs hs' (by omega)
   subst this
   exact ⟨h0 s hs hg, Int.le_refl _⟩
  | @step v u c w hr ha ih =>
   intro s hs he
   obtain ⟨s', i, o, hs', hi, hp, rfl, e1, e2⟩ := ha
   have := QjL hv1 hs hs' (by omega)
   subst this
   obtain ⟨a, b⟩ := ih (Jm o.Effs s) (Qft ht hi hs) e1
   refine ⟨h1 i o s c hi hs hp b ?_ a, by have := (ht.op o (List.mem_of_getElem? hi)).c0; omega⟩
   unfold RS
   rw [e1]; exact hr
 exact key _ c h s hs (by have := Qi6 ht hs; omega)
/-! ### certificates that are closed -/
def nd (b d c : Int) : Int := if b < 0 then 0 else d + c
def skip (b d c : Int) : Prop := 0 ≤ b ∧ b ≤ d + c
def Snd (t : Task) (b : Int) (p : List Fact) (d : Int) : Prop := ∀ s, StateOK t.Vars s → hold p s → ∃ c, RS t s c ∧ (0 ≤ b → c ≤ d)
structure DOK (b d : Int) : Prop where
 z : 0 ≤ d
 n : b < 0 → d = 0
 p : 0 ≤ b → d < b
structure ClosedC (t : Task) (b : Int) (N : List Nogood) : Prop where
 pv : ∀ n ∈ N, FactsOK t.Vars n.Facts
 ds : ∀ n ∈ N, DOK b n.Dist
 ni : ∀ n ∈ N, ¬ hold n.Facts t.Init
 nd : (N.map (·.Facts)).Nodup
 goal : b ≠ 0 → ∃ n ∈ N, n.Dist = 0 ∧ SubF n.Facts t.Goal
 step : ∀ n ∈ N, ∀ (i : Nat) o, t.Ops[i]? = some o → ¬ skip b n.Dist o.Cost → ∀ l, Q3 t (i : Int) n.Facts = some (l, none) → ∀ q ∈ l, ∃ m ∈ N, m.Dist ≤ Go.Pw.nd b n.Dist o.Cost ∧ SubF m.Facts q
theorem SubF.hold {a b : List Fact} (h : SubF a b) {s : List Int} (hb : hold b s) : hold a s := fun f hf => hb f (h f hf)
theorem ClosedC.covers {t : Task} (ht : ShortT t) {M : Nat} (hM : Cap t.Vars M) (hM' : M ≤ 1000) {b : Int} {N : List Nogood} (h : ClosedC t b N) (hb : b ≠ 0) {s : List Int} (hs : StateOK t.Vars s) {c : Int} (hr : RS t s c) : (0 ≤ b → c < b) → ∃ n ∈ N, Go.Pw.hold n.Facts s ∧ (0 ≤ b → n.Dist ≤ c) := by
 refine (QjJ ht.g (fun s c => (0 ≤ b → c < b) → ∃ n ∈ N, Go.Pw.hold n.Facts s ∧ (0 ≤ b → n.Dist ≤ c)) ?_ ?_ hs hr).1
 ·intro s hs hg _
  obtain ⟨n, hn, h1, h2⟩ := h.goal hb
  exact ⟨n, hn, h2.hold hg, fun _ => by omega⟩
 ·intro i o s c hi hs hp h0 hr ih hc
  have hcost := (ht.g.op o (List.mem_of_getElem? hi)).c0
  obtain ⟨n, hn, h1, h2⟩ := ih (fun h => by have := hc h; omega)
  obtain ⟨l, hl, hR⟩ := QbE ht hM hM' hi (h.pv n hn)
  obtain ⟨q, hq, hh⟩ := (hR.h s hs).2 ⟨hp, h1⟩
  obtain ⟨m, hm, h3, h4⟩ := h.step n hn i o hi (fun hk => by have := hc hk.1; have := h2 hk.1; have := hk.2; omega) l hl q hq
  refine ⟨m, hm, h4.hold hh, fun hb0 => ?_⟩
  have := h2 hb0
  unfold Go.Pw.nd at h3
  rw [if_neg (by omega)] at h3
  omega
/-! ### the loop -/
theorem Qh1 {l : List (List Fact)} {d : Int} {h0 : List certify_entry} (hh : HP h0 h0.length) (hl : h0.length + l.length ≤ 1099511627776) {x0 : Int} :
  Ok (forS (fun i101 => QK fun (next102 : Int) (l104 : (List certify_entry)) => (QD l (i101 : Int)).bind fun x101 =>
   (Jo l104 (⟨x101, d, next102⟩ : certify_entry)).bind <| fun (l105 : (List certify_entry)) =>
   some (IntKind.i64.wrap (next102 + 1), l105)) (l.length) 0 (x0, h0)) fun r => HP r.2 r.2.length ∧ r.2.length = h0.length + l.length ∧ (∀ e ∈ h0, e ∈ r.2) ∧ (∀ q ∈ l, ∃ e ∈ r.2, e.facts = q ∧ e.dist = d) ∧ ∀ e ∈ r.2, e ∈ h0 ∨ (e.facts ∈ l ∧ e.dist = d) := by
 refine J5 (fun i (r : Int × List certify_entry) => HP r.2 r.2.length ∧ r.2.length = h0.length + i ∧ (∀ e ∈ h0, e ∈ r.2) ∧ (∀ q ∈ l.take i, ∃ e ∈ r.2, e.facts = q ∧ e.dist = d) ∧ ∀ e ∈ r.2, e ∈ h0 ∨ (e.facts ∈ l ∧ e.dist = d)) ⟨hh, by simp, fun e he => he, by simp, fun e he => .inl he⟩ ?_ ?_
 ·rintro i ⟨nx, r⟩ hi ⟨h1, h2, h3, h4, h5⟩
  obtain ⟨x, hx⟩ := Ql (xs := l) (i := i) (by omega)
  simp only at h1 h2 h3 h4 h5
  rw [QK, Qj, hx]
  simp only [Option.bind_some]
  obtain ⟨r', hr, hp, hh'⟩ := Qk5 (x := ⟨x, d, nx⟩) h1 (by omega)
  rw [hr]
  simp only [Option.bind_some]
  have hlen := hp.length_eq
  simp only [List.length_cons] at hlen
  refine Ok.ret ⟨hh', by simp only; omega, fun e he => hp.mem_iff.2 (List.mem_cons_of_mem _ (h3 e he)), fun q hq => ?_, fun e he => ?_⟩
  ·rw [Qu hx] at hq
   rcases List.mem_append.1 hq with a | a
   ·obtain ⟨e, he, h⟩ := h4 q a
    exact ⟨e, hp.mem_iff.2 (List.mem_cons_of_mem _ he), h⟩
   ·exact ⟨⟨x, d, nx⟩, hp.mem_iff.2 (by simp), (List.mem_singleton.1 a).symm, Z⟩
  ·rcases List.mem_cons.1 (hp.mem_iff.1 he) with a | a
   ·subst a; exact .inr ⟨List.mem_of_getElem? hx, rfl⟩
   ·exact h5 e a
 ·rintro ⟨nx, r⟩ ⟨h1, h2, h3, h4, h5⟩
  rw [List.take_length] at h4
  exact ⟨h1, h2, h3, h4, h5⟩
structure EOK (t : Task) (b D : Int) (p : List Fact) (d : Int) : Prop where
 pv : FactsOK t.Vars p
 ds : DOK b d
 sn : Snd t b p d
 le : D ≤ d
structure LInv (t : Task) (b : Int) (A : Nat) (N : List Nogood) (O : List certify_entry) (D : Int) : Prop where
 hp : HP O O.length
 ol : O.length ≤ 1 + N.length * A
 d0 : 0 ≤ D
 en : ∀ e ∈ O, EOK t b D e.facts e.dist
 pv : ∀ n ∈ N, FactsOK t.Vars n.Facts
 ds : ∀ n ∈ N, DOK b n.Dist
 le : ∀ n ∈ N, n.Dist ≤ D
 ni : ∀ n ∈ N, ¬ hold n.Facts t.Init
 nd : (N.map (·.Facts)).Nodup
 goal : (∃ n ∈ N, n.Dist = 0 ∧ SubF n.Facts t.Goal) ∨ ∃ e ∈ O, e.dist = 0 ∧ e.facts = t.Goal
 step : ∀ n ∈ N, ∀ (i : Nat) o, t.Ops[i]? = some o → ¬ skip b n.Dist o.Cost → ∀ l, Q3 t (i : Int) n.Facts = some (l, none) → ∀ q ∈ l, (∃ m ∈ N, m.Dist ≤ Go.Pw.nd b n.Dist o.Cost ∧ SubF m.Facts q) ∨ ∃ e ∈ O, e.dist = Go.Pw.nd b n.Dist o.Cost ∧ e.facts = q
theorem QmV {M A n o o' : Nat} (h1 : n < M) (h2 : o' + 1 ≤ o + A) : (M - (n + 1)) * (A + 1) + o' < (M - n) * (A + 1) + o := by
 have e : M - n = (M - (n + 1)) + 1 := by omega
 rw [e, Nat.add_mul, Nat.one_mul]
 generalize (M - (n + 1)) * (A + 1) = X
 omega
theorem Qku {t : Task} (ht : ShortT t) {M : Nat} (hM : Cap t.Vars M) (hM' : M ≤ 1000) {b : Int} (hb1 : b ≤ 1099511627776) {e : certify_entry} {D : Int} (he : EOK t b D e.facts e.dist) {O : List certify_entry} (hO : HP O O.length) (hen : ∀ x ∈ O, EOK t b e.dist x.facts x.dist) (hOl : O.length + t.Ops.length * M ≤ 1099511627776)
  {β : Type} {Q : β → Prop} {nx0 : Int} {k : Int × List certify_entry → Option β} {kr : (Option Int) × Certificate → Option β}
  (hk : ∀ nx (O' : List certify_entry), HP O' O'.length → O'.length ≤ O.length + t.Ops.length * M → (∀ x ∈ O, x ∈ O') → (∀ x ∈ O', EOK t b e.dist x.facts x.dist) →
   (∀ (i : Nat) o, t.Ops[i]? = some o → ¬ skip b e.dist o.Cost → ∀ l, Q3 t (i : Int) e.facts = some (l, none) → ∀ q ∈ l, ∃ x ∈ O', x.dist = Go.Pw.nd b e.dist o.Cost ∧ x.facts = q) → Ok (k (nx, O')) Q) :
  Ok (ctl (QI (R := ((Option Int) × Certificate)) (fun i100 => QK fun (next101 : Int) (l103 : (List certify_entry)) => (QD t.Ops (i100 : Int)).bind fun x100 =>
   if decide (b < 0) then ((Q3 t (i100 : Int) e.facts).bind <| QK fun (y105 : (List (List Fact))) (y106 : (Option Int)) =>
   if y106.isSome then (some (Ctl.ret (y106, (⟨0, []⟩ : Certificate))))
   else ((forS (fun i101 => QK fun (next102 : Int) (l104 : (List certify_entry)) => (QD y105 (i101 : Int)).bind fun x101 =>
   (Jo l104 (⟨x101, 0, next102⟩ : certify_entry)).bind <| fun (l105 : (List certify_entry)) =>
   some (IntKind.i64.wrap (next102 + 1), l105)) (y105.length) 0 (next101, l103)).bind (QK fun (next102 : Int) (l104 : (List certify_entry)) => some (Ctl.next (next102, l104)))))
   else (if decide (b ≤ (IntKind.i64.wrap (e.dist + x100.Cost))) then (some (Ctl.next (next101, l103)))
   else ((Q3 t (i100 : Int) e.facts).bind <| QK fun (y107 : (List (List Fact))) (y108 : (Option Int)) =>
   if y108.isSome then (some (Ctl.ret (y108, (⟨0, []⟩ : Certificate))))
   else ((forS (fun i102 => QK fun (next103 : Int) (l106 : (List certify_entry)) => (QD y107 (i102 : Int)).bind fun x102 =>
   (Jo l106 (⟨x102, IntKind.i64.wrap (e.dist + x100.Cost), next103⟩ : certify_entry)).bind <| fun (l107 : (List certify_entry)) =>
   some (IntKind.i64.wrap (next103 + 1), l107)) (y107.length) 0 (next101, l103)).bind (QK fun (next103 : Int) (l106 : (List certify_entry)) => some (Ctl.next (next103, l106))))))) (t.Ops.length) 0 (nx0, O)) kr k) Q := by
 refine Ok.ctl (fun i (s : Int × List certify_entry) => HP s.2 s.2.length ∧ s.2.length ≤ O.length + i * M ∧ (∀ x ∈ O, x ∈ s.2) ∧ (∀ x ∈ s.2, EOK t b e.dist x.facts x.dist) ∧ ∀ (j : Nat) o, j < i → t.Ops[j]? = some o → ¬ skip b e.dist o.Cost → ∀ l, Q3 t (j : Int) e.facts = some (l, none) → ∀ q ∈ l, ∃ x ∈ s.2, x.dist = Go.Pw.nd b e.dist o.Cost ∧ x.facts = q) (fun _ => False) ⟨hO, by simp, fun x hx => hx, hen, fun j o h => by omega⟩ ?_ (fun _ h => h.elim) ?_
 ·rintro i ⟨nx, O1⟩ hi ⟨h1, h2, h3, h4, h5⟩
  simp only at h1 h2 h3 h4 h5
  obtain ⟨o, ho⟩ := Ql (xs := t.Ops) (i := i) (by omega)
  have hop := ht.g.op o (List.mem_of_getElem? ho)
  have hc0 := hop.c0
  have hc1 := hop.c1
  have hbnd : O1.length + M ≤ 1099511627776 := by
   have : i * M + M ≤ t.Ops.length * M := by rw [← Nat.succ_mul]; exact Nat.mul_le_mul_right _ hi
   omega
  have hmul : (i + 1) * M = i * M + M := Nat.succ_mul i M
  rw [QK, Qj, ho]
  simp only [Option.bind_some]
  obtain ⟨l, hl, hR⟩ := QbE ht hM hM' ho he.pv
  have hll := hM l hR.nd hR.ok
  have sound : ∀ q ∈ l, ¬ skip b e.dist o.Cost → EOK t b e.dist q (Go.Pw.nd b e.dist o.Cost) := by
   intro q hq hk
   refine ⟨hR.ok q hq, ?_, ?_, ?_⟩
   ·unfold Go.Pw.nd
    have := he.ds.z
    by_cases hb : b < 0
    ·rw [if_pos hb]; exact ⟨Int.le_refl _, fun _ => rfl, fun h => by omega⟩
    ·rw [if_neg hb]
     exact ⟨by omega, fun h => absurd h hb, fun h => by unfold skip at hk; omega⟩
   ·intro s hs hh
    obtain ⟨hp, hn⟩ := (hR.h s hs).1 ⟨q, hq, hh⟩
    obtain ⟨c, hc, hle⟩ := he.sn _ (Qft ht.g ho hs) hn
    refine ⟨c + o.Cost, QkW ht.g ho hs hp hc, fun hb => ?_⟩
    have := hle hb
    unfold Go.Pw.nd
    rw [if_neg (by omega)]
    omega
   ·unfold Go.Pw.nd
    by_cases hb : b < 0
    ·rw [if_pos hb]; have := he.ds.n hb; omega
    ·rw [if_neg hb]; omega
  have close : ¬ skip b e.dist o.Cost → ∀ r : Int × List certify_entry, (HP r.2 r.2.length ∧ r.2.length = O1.length + l.length ∧ (∀ e ∈ O1, e ∈ r.2) ∧ (∀ q ∈ l, ∃ x ∈ r.2, x.facts = q ∧ x.dist = Go.Pw.nd b e.dist o.Cost) ∧ ∀ x ∈ r.2, x ∈ O1 ∨ (x.facts ∈ l ∧ x.dist = Go.Pw.nd b e.dist o.Cost)) →
    HP r.2 r.2.length ∧ r.2.length ≤ O.length + (i + 1) * M ∧ (∀ x ∈ O, x ∈ r.2) ∧ (∀ x ∈ r.2, EOK t b e.dist x.facts x.dist) ∧ ∀ (j : Nat) o, j < i + 1 → t.Ops[j]? = some o → ¬ skip b e.dist o.Cost → ∀ l, Q3 t (j : Int) e.facts = some (l, none) → ∀ q ∈ l, ∃ x ∈ r.2, x.dist = Go.Pw.nd b e.dist o.Cost ∧ x.facts = q := by
   rintro hk r ⟨a1, a2, a3, a4, a5⟩
   refine ⟨a1, by rw [a2, hmul]; omega, fun x hx => a3 x (h3 x hx), fun x hx => ?_, fun j o' hj ho' hk' l' hl' q hq => ?_⟩
   ·rcases a5 x hx with h | ⟨h, h'⟩
    ·exact h4 x h
    ·rw [h']; exact sound _ h hk
   ·by_cases e' : j = i
    ·subst e'
     rw [ho] at ho'; cases ho'
     rw [hl] at hl'; cases hl'
     obtain ⟨x, hx, q1, q2⟩ := a4 q hq
     exact ⟨x, hx, q2, q1⟩
    ·obtain ⟨x, hx, q1⟩ := h5 j o' (by omega) ho' hk' l' hl' q hq
     exact ⟨x, a3 x hx, q1⟩
  by_cases hb : b < 0
  ·have hk : ¬ skip b e.dist o.Cost := fun h => by unfold skip at h; omega
   have hnd : Go.Pw.nd b e.dist o.Cost = 0 := by unfold Go.Pw.nd; rw [if_pos hb]
   simp only [hb, decide_true, if_true, hl, Option.bind_some, QK, Option.isSome_none, Bool.false_eq_true, if_false]
   obtain ⟨r, hr, hc⟩ := Qh1 (l := l) (d := 0) (x0 := nx) h1 (by omega)
   rw [hr]
   simp only [Option.bind_some]
   refine Ok.ret (close hk r ?_)
   rw [hnd]; exact hc
  ·have hw : IntKind.i64.wrap (e.dist + o.Cost) = e.dist + o.Cost := by
    have h6 := he.ds.z
    have h7 := he.ds.p (by omega)
    exact Q1 (by omega) (by omega)
   simp only [hb, decide_false, Bool.false_eq_true, if_false, hw]
   by_cases hsk : b ≤ e.dist + o.Cost
   ·simp only [hsk, decide_true, if_true]
    refine Ok.ret ⟨h1, by simp only; rw [hmul]; omega, h3, h4, fun j o' hj ho' hk' l' hl' q hq => ?_⟩
    by_cases e' : j = i
    ·subst e'
     rw [ho] at ho'; cases ho'
     exact absurd ⟨by omega, hsk⟩ hk'
    ·exact h5 j o' (by omega) ho' hk' l' hl' q hq
   ·have hk : ¬ skip b e.dist o.Cost := fun h => hsk h.2
    have hnd : Go.Pw.nd b e.dist o.Cost = e.dist + o.Cost := by unfold Go.Pw.nd; rw [if_neg hb]
    simp only [hsk, decide_false, Bool.false_eq_true, if_false, hl, Option.bind_some, QK, Option.isSome_none]
    obtain ⟨r, hr, hc⟩ := Qh1 (l := l) (d := e.dist + o.Cost) (x0 := nx) h1 (by omega)
    rw [hr]
    simp only [Option.bind_some]
    refine Ok.ret (close hk r ?_)
    rw [hnd]; exact hc
 ·rintro ⟨nx, O1⟩ ⟨h1, h2, h3, h4, h5⟩
  exact hk nx O1 h1 h2 h3 h4 fun i o hi => h5 i o (List.getElem?_eq_some_iff.1 hi).1 hi
end Go.Pw
/- -/
set_option maxHeartbeats 8000000
namespace Go.Pw
theorem Qj4 (n : Int) : Kx n = (decide (-1 ≤ n) && decide (n ≤ 1099511627776)) := by
 have e := Qa6 n
 unfold Ky at e
 exact (Zu e).symm
theorem LInv.cnt {t : Task} {M : Nat} (hM : Cap t.Vars M) {b : Int} {A : Nat} {N : List Nogood} {O : List certify_entry} {D : Int} (h : LInv t b A N O D) : N.length ≤ M := by
 have := hM (N.map (·.Facts)) h.nd fun p hp => by
  obtain ⟨n, hn, rfl⟩ := List.mem_map.1 hp
  exact h.pv n hn
 simpa using this
theorem Qfm {t : Task} (ht : ShortT t) {M : Nat} (hM : Cap t.Vars M) (hM' : M ≤ 1000) (hops : t.Ops.length ≤ 20) {lim : Int} (hlm : (M : Int) < lim) {b : Int} (hb0 : -1 ≤ b) (hb1 : b ≤ 1099511627776) :
  Ok (Jg t b lim) fun r => (r.1 = none ∧ r.2.Bound = b ∧ ClosedC t b r.2.Nogoods) ∨ (r.1 = some 13 ∧ b ≠ 0 ∧ ∃ c, RS t t.Init c ∧ (0 ≤ b → c < b)) := by
 unfold Jg
 rw [QbK ht.g, Qj4]
 simp only [Option.bind_some, Option.isSome_none, hb0, hb1, decide_true, Bool.and_self, Bool.not_true, Bool.false_eq_true, if_false]
 by_cases hz : b = 0
 ·subst hz
  simp only [decide_true, if_true]
  exact Ok.ret (.inl ⟨Z, Z, ⟨by simp, by simp, by simp, by simp, fun h => absurd Z h, by simp⟩⟩)
 simp only [hz, decide_false, Bool.false_eq_true, if_false]
 have hgl := ht.g.goal.len
 have hnv := ht.g.nv
 rw [QaH (by omega)]
 simp only [Option.bind_some]
 generalize hA : t.Ops.length * M = A
 have hA1 : A ≤ 20000 := by rw [← hA]; exact Nat.le_trans (Nat.mul_le_mul hops hM') (by decide)
 have hbig : ∀ n, n ≤ M → n * A ≤ 20000000 := fun n hn => Nat.le_trans (Nat.mul_le_mul (Nat.le_trans hn hM') hA1) (by decide)
 refine QbC (fun s : Int × List Nogood × List certify_entry => ∃ D, LInv t b A s.2.1 s.2.2 D) (fun s => ClosedC t b s.2.1) (fun r => r.1 = some 13 ∧ b ≠ 0 ∧ ∃ c, RS t t.Init c ∧ (0 ≤ b → c < b)) (fun s => (M + 1 - s.2.1.length) * (A + 1) + s.2.2.length) ?_ ?_ (fun r h => Ok.ret (.inr h)) ?_
 ·refine ⟨0, ?_⟩
  have he : ∀ e : certify_entry, e ∈ [(⟨t.Goal, 0, 0⟩ : certify_entry)] → e = ⟨t.Goal, 0, 0⟩ := fun e h => List.mem_singleton.1 h
  refine ⟨fun k h1 h2 => by simp at h2; omega, by simp, Int.le_refl _, fun e h => ?_, by simp, by simp, by simp, by simp, by simp, .inr ⟨⟨t.Goal, 0, 0⟩, by simp, Z, Z⟩, by simp⟩
  rw [he e h]
  exact ⟨ht.g.goal, ⟨Int.le_refl _, fun _ => rfl, fun h => (show (0 : Int) < b by omega)⟩, fun s hs hh => ⟨0, QkX ht.g hs hh, fun _ => Int.le_refl _⟩, Int.le_refl _⟩
 ·rintro ⟨nx, N, O⟩ ⟨D, h⟩
  simp only at h
  have hN := h.cnt hM
  have hNA := hbig _ hN
  have hOl := h.ol
  simp only [K3, QlG]
  by_cases h0 : 0 < O.length
  ·have h0' : (0 : Int) < (O.length : Int) := by omega
   simp only [h0', decide_true, if_true]
   obtain ⟨⟨e, O1⟩, hr, hp, hh, hmin⟩ := Qlf h0 (by omega) h.hp
   simp only at hp hh hmin
   rw [hr]
   simp only [Option.bind_some, QK]
   have hlen := hp.length_eq
   simp only [List.length_cons] at hlen
   have heO : e ∈ O := hp.mem_iff.1 (by simp)
   have hO1 : ∀ x ∈ O1, x ∈ O := fun x hx => hp.mem_iff.1 (List.mem_cons_of_mem _ hx)
   have hcase : ∀ x ∈ O, x = e ∨ x ∈ O1 := fun x hx => by simpa using hp.mem_iff.2 hx
   have he := h.en e heO
   have hle : ∀ x ∈ O, e.dist ≤ x.dist := fun x hx => by have := hmin x hx; unfold ELt at this; omega
   have hD : D ≤ e.dist := he.le
   have he' : EOK t b e.dist e.facts e.dist := { he with le := Int.le_refl _ }
   have hen : ∀ x ∈ O1, EOK t b e.dist x.facts x.dist := fun x hx => { h.en x (hO1 x hx) with le := hle x (hO1 x hx) }
   have hel := he.pv.len
   obtain ⟨bc, hbc, hc⟩ := Qhf (N := N) he.pv.pv (by omega) fun n hn => ⟨(h.pv n hn).pv, by have := (h.pv n hn).len; omega⟩
   rw [hbc]
   simp only [Option.bind_some]
   cases bc with
   | true =>
    obtain ⟨m, hm, hs⟩ := hc.1 rfl
    have hml := h.le m hm
    have hmz := (h.ds m hm).z
    simp only [if_true]
    refine Ok.ret ⟨⟨e.dist, ⟨hh, by simp only; omega, by have := h.d0; omega, hen, h.pv, h.ds, fun n hn => by have := h.le n hn; omega, h.ni, h.nd, ?_, ?_⟩⟩, by simp only; omega⟩
    ·rcases h.goal with q | ⟨x, hx, q1, q2⟩
     ·exact .inl q
     ·rcases hcase x hx with rfl | hx
      ·exact .inl ⟨m, hm, by omega, by rw [← q2]; exact hs⟩
      ·exact .inr ⟨x, hx, q1, q2⟩
    ·intro n hn i o hi hk l hl q hq
     rcases h.step n hn i o hi hk l hl q hq with a | ⟨x, hx, q1, q2⟩
     ·exact .inl a
     ·rcases hcase x hx with rfl | hx
      ·exact .inl ⟨m, hm, by omega, by rw [← q2]; exact hs⟩
      ·exact .inr ⟨x, hx, q1, q2⟩
   | false =>
    have hno : ¬ ∃ n ∈ N, SubF n.Facts e.facts := fun q => by simpa using hc.2 q
    simp only [Bool.false_eq_true, if_false]
    obtain ⟨bh, hbh, hh2⟩ := Qfn he.pv ht.g.init.len
    rw [hbh]
    simp only [Option.bind_some]
    cases bh with
    | true =>
     simp only [if_true]
     obtain ⟨c, hc1, hc2⟩ := he.sn _ ht.g.init (hh2.1 rfl)
     exact Ok.ret ⟨Z, hz, c, hc1, fun hb => by have := hc2 hb; have := he.ds.p hb; omega⟩
    | false =>
     have hni : ¬ hold e.facts t.Init := fun q => by simpa using hh2.2 q
     have hlim : ¬ (N.length : Int) = max 0 (min lim 4096) := by omega
     simp only [Bool.false_eq_true, if_false, hlim, decide_false]
     rw [K4 (by simp only [List.length_cons, List.length_nil]; omega)]
     simp only [Option.bind_some]
     refine Qku ht hM hM' hb1 he' hh hen (by rw [hA]; omega) (k := QK fun (next104 : Int) (l108 : (List certify_entry)) => some (Ctl.next (next104, N ++ [(⟨e.facts, e.dist⟩ : Nogood)], l108))) ?_
     intro nx' O' a1 a2 a3 a4 a5
     rw [hA] at a2
     simp only [QK]
     have hmem : (⟨e.facts, e.dist⟩ : Nogood) ∈ N ++ [(⟨e.facts, e.dist⟩ : Nogood)] := by simp
     have hsub : ∀ p : List Fact, SubF p p := fun p f hf => hf
     refine Ok.ret ⟨⟨e.dist, ⟨a1, ?_, by have := h.d0; omega, a4, ?_, ?_, ?_, ?_, ?_, ?_, ?_⟩⟩, ?_⟩
     ·simp only [List.length_append, List.length_cons, List.length_nil]
      rw [Nat.zero_add, Nat.add_mul, Nat.one_mul]; omega
     ·intro n hn
      rcases List.mem_append.1 hn with q | q
      ·exact h.pv n q
      ·rw [List.mem_singleton.1 q]; exact he.pv
     ·intro n hn
      rcases List.mem_append.1 hn with q | q
      ·exact h.ds n q
      ·rw [List.mem_singleton.1 q]; exact he.ds
     ·intro n hn
      rcases List.mem_append.1 hn with q | q
      ·have := h.le n q; omega
      ·rw [List.mem_singleton.1 q]; exact Int.le_refl _
     ·intro n hn
      rcases List.mem_append.1 hn with q | q
      ·exact h.ni n q
      ·rw [List.mem_singleton.1 q]; exact hni
     ·rw [List.map_append, List.map_cons, List.map_nil, List.nodup_append]
      refine ⟨h.nd, by simp, fun p hp q hq => ?_⟩
      rw [List.mem_singleton.1 hq]
      rintro rfl
      obtain ⟨n, hn, e'⟩ := List.mem_map.1 hp
      exact hno ⟨n, hn, by rw [e']; exact hsub _⟩
     ·rcases h.goal with ⟨n, hn, q⟩ | ⟨x, hx, q1, q2⟩
      ·exact .inl ⟨n, List.mem_append_left _ hn, q⟩
      ·rcases hcase x hx with rfl | hx
       ·exact .inl ⟨_, hmem, q1, by simp only; rw [q2]; exact hsub _⟩
       ·exact .inr ⟨x, a3 x hx, q1, q2⟩
     ·intro n hn i o hi hk l hl q hq
      rcases List.mem_append.1 hn with hn | hn
      ·rcases h.step n hn i o hi hk l hl q hq with ⟨m, hm, a⟩ | ⟨x, hx, q1, q2⟩
       ·exact .inl ⟨m, List.mem_append_left _ hm, a⟩
       ·rcases hcase x hx with rfl | hx
        ·exact .inl ⟨_, hmem, by simp only; omega, by simp only; rw [q2]; exact hsub _⟩
        ·exact .inr ⟨x, a3 x hx, q1, q2⟩
      ·rw [List.mem_singleton.1 hn] at hk hl ⊢
       exact .inr (a5 i o hi hk l hl q hq)
     ·simp only [List.length_append, List.length_cons, List.length_nil]
      exact QmV (by omega) (by omega)
  ·have h0' : ¬ (0 : Int) < (O.length : Int) := by omega
   have hO : O = [] := List.eq_nil_of_length_eq_zero (by omega)
   subst hO
   simp only [h0', decide_false, Bool.false_eq_true, if_false]
   refine Ok.ret ⟨h.pv, h.ds, h.ni, h.nd, fun _ => ?_, fun n hn i o hi hk l hl q hq => ?_⟩
   ·rcases h.goal with q | ⟨x, hx, _⟩
    ·exact q
    ·simp at hx
   ·rcases h.step n hn i o hi hk l hl q hq with a | ⟨x, hx, _⟩
    ·exact a
    ·simp at hx
 ·rintro ⟨nx, N, O⟩ h
  exact Ok.ret (.inl ⟨Z, Z, h⟩)
end Go.Pw
