/- -/
import Derived.Test.YtfcmpbkafbhdgaaGreatDoorWcP
import Derived.Test.YtfcmpbkafbhdgaaGreatDoorBB
import Derived.Test.YtfcmpbkafbhdgaaGreatDoorWcTa
set_option maxHeartbeats 8000000
set_option linter.unusedSimpArgs false
set_option linter.unusedVariables false
namespace Go.Pw
def bt (l : List UInt8) : ByteArray := ⟨l.toArray⟩
theorem Jj (l : List UInt8) : (bt l).size = l.length := by simp [bt, ByteArray.size]
theorem QiX (l : List UInt8) : (bt l).data.toList = l := by simp [bt]
theorem Qco (l : List UInt8) : QJ (bt l) = l.map fun b => (b.toNat : Int) := by simp [QJ, bt]
theorem Qio {a b : List UInt8} : bt a = bt b ↔ a = b := by
 constructor
 ·intro h
  have := congrArg (fun q : ByteArray => q.data.toList) h
  simpa [bt] using this
 ·rintro rfl; rfl
theorem QlZ (a b : List UInt8) : bt a ++ bt b = bt (a ++ b) := by
 apply ByteArray.ext
 rw [ByteArray.data_append]
 simp [bt]
theorem Qi2 (l : List UInt8) (i j : Nat) : (bt l).extract i j = bt ((l.take j).drop i) := by
 apply ByteArray.ext
 rw [ByteArray.data_extract]
 simp [bt, List.extract_eq_take_drop, List.drop_take]
theorem QiW {l : List UInt8} {i j : Int} (h0 : 0 ≤ i) (h1 : i ≤ j) (h2 : j ≤ (l.length : Int)) : Qdb (bt l) i j = some (bt ((l.take j.toNat).drop i.toNat)) := by
 unfold Qdb
 rw [Jj, if_pos ⟨h0, h1, h2⟩, Qi2]
theorem QcA {p r : List UInt8} {i j : Int} (hi : i = (p.length : Int)) (hj : j = ((p ++ r).length : Int)) : Qdb (bt (p ++ r)) i j = some (bt r) := by
 rw [QiW (by omega) (by rw [hi, hj, List.length_append]; omega) (by omega)]
 rw [hj, hi, Int.toNat_natCast, Int.toNat_natCast, List.take_length, List.drop_left' rfl]
theorem Qej {p r : List UInt8} {j : Int} (hj : j = (p.length : Int)) : Qdb (bt (p ++ r)) 0 j = some (bt p) := by
 rw [QiW (by omega) (by omega) (by rw [hj, List.length_append]; omega)]
 rw [hj, Int.toNat_natCast, List.take_left' rfl]; rfl
theorem Qde {a b : List UInt8} (h : a.length + b.length ≤ 9223372036854775807) : cat (bt a) (bt b) = some (bt (a ++ b)) := by
 unfold cat
 rw [Jj, Jj, if_pos h, QlZ]
/-! ### the place of a byte -/
theorem Qk0 {p r : List UInt8} {c : UInt8} (h : c ∉ p) : Lib.indexByte (p ++ c :: r) c = (p.length : Int) := by
 induction p with
 | nil => simp [Lib.indexByte]
 | cons b l ih =>
  have hb : (b == c) = false := by rw [beq_eq_false_iff_ne]; rintro rfl; simp at h
  have := ih (fun hm => h (by simp [hm]))
  rw [List.cons_append]
  unfold Lib.indexByte
  rw [if_neg (by simp [hb]), this, if_neg (by simp)]
  simp
theorem QiD (c : UInt8) : ((c.toNat : Int)).toNat.toUInt8 = c := by
 rw [Int.toNat_natCast]; simp
theorem QiQ (c : UInt8) : QD (QJ (bt [c])) 0 = some (c.toNat : Int) := by
 rw [Qco]; rfl
theorem QkI (l : List UInt8) (c : UInt8) (h : l ≠ [c]) : QX (bt l) (bt [c]) = some (Lib.indexByte l c) := by
 unfold QX JN Qef
 have e1 : ¬ ((bt [c]).size : Int) = 0 := by rw [Jj]; simp
 have e2 : ¬ bt [c] = bt l := by rw [Qio]; exact fun e => h e.symm
 have e3 : ((bt [c]).size : Int) = 1 := by rw [Jj]; rfl
 simp only [e1, e2, e3, decide_false, decide_true, Bool.or_self, Bool.false_eq_true, if_false, if_true, QiQ, Option.bind_some, QiX, QiD]
 simp
theorem QhJ {p r : List UInt8} {c : UInt8} (h : c ∉ p) : QX (bt (p ++ c :: r)) (bt [c]) = some (p.length : Int) := by
 by_cases e : p ++ c :: r = [c]
 ·have hp : p = [] := by
   cases p with
   | nil => rfl
   | cons x p => have := congrArg List.length e; simp at this
  subst hp
  rw [e]
  unfold QX
  simp
 ·rw [QkI _ _ e, Qk0 h]
theorem Qkf {p r : List UInt8} {c : UInt8} (h : c ∉ p) (hl : (p ++ c :: r).length ≤ 65536) : KZ (bt (p ++ c :: r)) (bt [c]) = some (bt p, bt r, true) := by
 unfold KZ Ye
 have e0 : (0 : Int) ≤ (p.length : Int) := by omega
 have hw : IntKind.i64.wrap ((p.length : Int) + ((bt [c]).size : Int)) = ((p ++ [c]).length : Int) := by
  rw [Jj, Q1 (by simp; omega) (by rw [List.length_append] at hl; simp at hl ⊢; omega)]; simp
 rw [QhJ h]
 simp only [Option.bind_some, e0, decide_true, if_true, hw]
 rw [Qej rfl, show p ++ c :: r = (p ++ [c]) ++ r by simp, Jj]
 simp only [Option.bind_some]
 rw [QcA rfl rfl]
 simp [K3]
/-! ### a head that is known -/
theorem QdN {p r : List UInt8} : Jy (bt (p ++ r)) (bt p) = some (bt r, true) := by
 unfold Jy JP JO
 have e1 : ((bt p).size : Int) ≤ ((bt (p ++ r)).size : Int) := by rw [Jj, Jj, List.length_append]; omega
 simp only [e1, decide_true, if_true]
 rw [Qej (by rw [Jj]), QcA (by rw [Jj]) (by rw [Jj])]
 simp [QK]
/-! ### numerals -/
def Qfd (n : Nat) (l : List UInt8) : Nat := l.foldl (fun n b => 10 * n + (b.toNat - 48)) n
theorem QhA (n : Nat) (l : List UInt8) (b : UInt8) : Qfd n (l ++ [b]) = 10 * Qfd n l + (b.toNat - 48) := by simp [Qfd]
theorem QgV {k : Nat} (h : k < 10) : (UInt8.ofNat (48 + k)).toNat = 48 + k := by
 rw [UInt8.toNat_ofNat']; omega
theorem QjS (u : Nat) : (∀ b ∈ Lib.decDigits u, 48 ≤ b.toNat ∧ b.toNat ≤ 57) ∧ Qfd 0 (Lib.decDigits u) = u ∧ Lib.decDigits u ≠ [] ∧ (1 < (Lib.decDigits u).length → ∃ b r, Lib.decDigits u = b :: r ∧ b.toNat ≠ 48) := by
 induction u using Nat.strongRecOn with
 | _ u ih =>
  by_cases h : u < 10
  ·rw [Lib.decDigits_one h]
   have := QgV h
   refine ⟨?_, ?_, by simp, by simp⟩
   ·intro b hb
    rw [List.mem_singleton.1 hb]
    omega
   ·unfold Qfd; simp only [List.foldl_cons, List.foldl_nil]; omega
  ·obtain ⟨h1, h2, h3, h4⟩ := ih (u / 10) (by omega)
   have hd := QgV (k := u % 10) (by omega)
   rw [Lib.decDigits, dif_neg h]
   refine ⟨?_, ?_, by simp, fun _ => ?_⟩
   ·intro b hb
    rcases List.mem_append.1 hb with hb | hb
    ·exact h1 b hb
    ·rw [List.mem_singleton.1 hb]; omega
   ·rw [QhA, h2, hd]; omega
   ·by_cases hs : u / 10 < 10
    ·rw [Lib.decDigits_one hs]
     have := QgV hs
     exact ⟨_, _, Z, by omega⟩
    ·have hl : 1 < (Lib.decDigits (u / 10)).length := by
      rw [Lib.decDigits_length, Lib.nDigits_big hs]
      have := Lib.nDigits_pos (u / 10 / 10)
      omega
     obtain ⟨b, r, e, hb⟩ := h4 hl
     exact ⟨b, r ++ [UInt8.ofNat (48 + u % 10)], by rw [e]; rfl, hb⟩
theorem Qf7 {k : Nat} : ∀ {u : Nat}, u < 10 ^ (k + 1) → Lib.nDigits u ≤ k + 1 := by
 induction k with
 | zero => intro u h; rw [Lib.nDigits_small (by simpa using h)]; exact Nat.le_refl _
 | succ k ih =>
  intro u h
  by_cases hs : u < 10
  ·rw [Lib.nDigits_small hs]; omega
  ·rw [Lib.nDigits_big hs]
   have := ih (u := u / 10) (by rw [Nat.pow_succ] at h; omega)
   omega
end Go.Pw
/- -/
set_option maxHeartbeats 8000000
namespace Go.Pw
theorem QhK {x : Int} (h0 : 48 ≤ x) (h1 : x ≤ 57) : IntKind.u8.wrap (x - 48) = x - 48 := by
 unfold IntKind.wrap
 simp [IntKind.signed, IntKind.bits]
 omega
theorem dval_lt' : ∀ {l : List UInt8} (n : Nat), (∀ b ∈ l, 48 ≤ b.toNat ∧ b.toNat ≤ 57) → Qfd n l < (n + 1) * 10 ^ l.length
 | [], n, _ => by simp [Qfd]
 | b :: l, n, h => by
  have h1 := dval_lt' (l := l) (10 * n + (b.toNat - 48)) (fun x hx => h x (by simp [hx]))
  have h2 := h b (by simp)
  have h3 : (10 * n + (b.toNat - 48) + 1) * 10 ^ l.length ≤ ((n + 1) * 10) * 10 ^ l.length := Nat.mul_le_mul_right _ (by omega)
  rw [List.length_cons, Nat.pow_succ, Nat.mul_comm (10 ^ l.length) 10, ← Nat.mul_assoc]
  exact Nat.lt_of_lt_of_le h1 h3
theorem Qlh {l : List UInt8} (h : ∀ b ∈ l, 48 ≤ b.toNat ∧ b.toNat ≤ 57) : Qfd 0 l < 10 ^ l.length := by
 have := dval_lt' 0 h
 simpa using this
theorem Qjs {u : Nat} (hu : u < 10 ^ 13) : QL (bt (Lib.decDigits u)) = some ((u : Int), true) := by
 obtain ⟨hd, hv, hne, hz⟩ := QjS u
 have hlen : (Lib.decDigits u).length ≤ 13 := by rw [Lib.decDigits_length]; exact Qf7 (k := 12) hu
 generalize Lib.decDigits u = l at hd hv hne hz hlen
 have hpos : 0 < l.length := List.length_pos_iff.2 hne
 refine Ok.eq ?_
 unfold QL
 have e1 : ¬ ((bt l).size : Int) < 1 := by rw [Jj]; omega
 have e2 : ¬ (13 : Int) < ((bt l).size : Int) := by rw [Jj]; omega
 have hb : Qfk (bt l) = some (l.map fun b => (b.toNat : Int)) := by
  unfold Qfk
  rw [Jj, if_pos (by omega), Qco]
 have hfirst : (if decide (1 < ((bt l).size : Int)) = true then (QD (QJ (bt l)) 0).bind fun x100 => some (decide (x100 = 48)) else some false) = some false := by
  by_cases h1 : 1 < l.length
  ·obtain ⟨b, r, e, hb0⟩ := hz h1
   rw [if_pos (decide_eq_true (by rw [Jj]; omega)), Qco, e]
   have : ¬ ((b.toNat : Int) = 48) := by omega
   simp [QD, this]
  ·rw [if_neg (by rw [Jj]; simp; omega)]
 simp only [e1, e2, decide_false, Bool.false_eq_true, if_false]
 rw [hfirst]
 simp only [Option.bind_some, Bool.false_eq_true, if_false, hb]
 rw [List.length_map]
 refine Ok.ctl (fun i n => n = ((Qfd 0 (l.take i) : Nat) : Int)) (fun _ => False) (by simp [Qfd]) ?_ (fun r h => h.elim) ?_
 ·intro i n hi hn
  obtain ⟨b, hbi⟩ := Ql hi
  have hbd := hd b (List.mem_of_getElem? hbi)
  have hx : QD (l.map fun b => (b.toNat : Int)) (i : Int) = some ((b.toNat : Nat) : Int) := by rw [Qj, List.getElem?_map, hbi]; rfl
  have hlt := Qlh (l := l.take i) (fun x hx => hd x (List.mem_of_mem_take hx))
  have hle : 10 ^ (l.take i).length ≤ 10 ^ 12 := Nat.pow_le_pow_right (by decide) (by rw [List.length_take]; omega)
  have hlt' : Qfd 0 (l.take i) < 1000000000000 := Nat.lt_of_lt_of_le hlt hle
  have w1 : ¬ ((b.toNat : Int) < 48) := by omega
  have w2 : ¬ ((57 : Int) < (b.toNat : Int)) := by omega
  rw [hx]
  simp only [Option.bind_some, w1, w2, decide_false, Bool.or_self, Bool.false_eq_true, if_false]
  refine Ok.ret ?_
  show IntKind.i64.wrap _ = _
  rw [List.take_add_one, hbi, Option.toList_some, QhA, hn, QhK (by omega) (by omega), Q1 (n := 10 * _) (by omega) (by omega), Q1 (n := (b.toNat : Int) - 48) (by omega) (by omega), Q1 (by omega) (by omega)]
  omega
 ·intro n hn
  refine Ok.ret ?_
  rw [hn, List.take_length, hv]
/-! ### parts -/
def jn (c : UInt8) : List (List UInt8) → List UInt8
 | [] => []
 | [x] => x
 | x :: y :: r => x ++ c :: jn c (y :: r)
theorem Qh4 {c : UInt8} : ∀ {x : List UInt8} {r : List (List UInt8)}, (∀ p ∈ x :: r, c ∉ p) → (jn c (x :: r)).count c = r.length
 | x, [], h => by
  unfold jn
  rw [List.count_eq_zero.2 (h x (by simp))]; rfl
 | x, y :: r, h => by
  unfold jn
  have := Qh4 (x := y) (r := r) (c := c) fun p hp => h p (List.mem_cons_of_mem _ hp)
  rw [List.count_append, List.count_cons_self, this, List.count_eq_zero.2 (h x (by simp))]
  simp
theorem QkJ (l : List UInt8) (c : UInt8) : KQ (bt l) (bt [c]) = some ((l.count c : Nat) : Int) := by
 unfold KQ Qel
 have e1 : ¬ ((bt [c]).size : Int) = 0 := by rw [Jj]; simp
 have e3 : ((bt [c]).size : Int) = 1 := by rw [Jj]; rfl
 simp only [e1, e3, decide_false, decide_true, Bool.false_eq_true, if_false, if_true, QiQ, Option.bind_some, QiX, QiD, Lib.countByte]
 simp
def SpI (c : UInt8) (ps : List (List UInt8)) (s : ByteArray × Int × List ByteArray) (d r : List (List UInt8)) : Prop :=
 ps = d ++ r ∧ s.1 = bt (jn c r) ∧ s.2.1 = (d.length : Int) ∧ s.2.2 = d.map bt ++ List.replicate r.length (bt [])
theorem QhI {c : UInt8} {x : List UInt8} {r : List (List UInt8)} (h : ∀ p ∈ x :: r, c ∉ p) (hl : (jn c (x :: r)).length ≤ 65536) : Ko (bt (jn c (x :: r))) (bt [c]) = some ((x :: r).map bt) := by
 have hcnt := Qh4 h
 have hrl : r.length ≤ (jn c (x :: r)).length := by rw [← hcnt]; exact List.count_le_length
 unfold Ko KK
 have e1 : ¬ (-1 : Int) = 0 := by decide
 have e2 : ¬ bt [c] = (⟨#[]⟩ : ByteArray) := by
  intro e
  have := congrArg ByteArray.size e
  rw [Jj] at this
  exact absurd this (by simp [ByteArray.size])
 have e3 : (-1 : Int) < 0 := by decide
 have w1 : IntKind.i64.wrap (((r.length : Nat) : Int) + 1) = ((x :: r).length : Int) := by rw [Q1 (by omega) (by omega)]; simp
 have w2 : IntKind.i64.wrap (((bt (jn c (x :: r))).size : Int) + 1) = ((jn c (x :: r)).length : Int) + 1 := by rw [Jj, Q1 (by omega) (by omega)]
 have hmin : min ((x :: r).length : Int) (((jn c (x :: r)).length : Int) + 1) = ((x :: r).length : Int) := by rw [List.length_cons]; omega
 have hmk : mk 16 (⟨#[]⟩ : ByteArray) ((x :: r).length : Int) = some (List.replicate (x :: r).length (bt [])) := by
  unfold mk
  rw [if_pos ⟨by omega, by rw [List.length_cons]; omega, by rw [List.length_cons]; omega⟩, Int.toNat_natCast]; rfl
 have w3 : IntKind.i64.wrap (((x :: r).length : Int) - 1) = (r.length : Int) := by rw [List.length_cons, Q1 (by omega) (by omega)]; omega
 simp only [e1, e2, e3, decide_false, decide_true, Bool.false_eq_true, if_false, if_true, QkJ, hcnt, Option.bind_some, w1, w2, hmin, hmk, w3]
 refine Ok.eq (Ok.bind ?_)
 refine QbC (fun s => ∃ d e, SpI c (x :: r) s d e ∧ e ≠ []) (fun s => ∃ d y, SpI c (x :: r) s d [y]) (fun _ => False) (fun s => (r.length - s.2.1.toNat)) ⟨[], x :: r, ⟨Z, Z, Z, Z⟩, by simp⟩ ?_ (fun r h => h.elim) ?_
 ·rintro ⟨s, i, l⟩ ⟨d, e, ⟨h1, h2, h3, h4⟩, hne⟩
  simp only at h2 h3 h4
  subst h2 h3 h4
  have hlen := congrArg List.length h1
  rw [List.length_append, List.length_cons] at hlen
  cases e with
  | nil => exact absurd rfl hne
  | cons y e =>
   cases e with
   | nil =>
    have hn : ¬ ((d.length : Int) < (r.length : Int)) := by simp at hlen; omega
    simp only [K3, hn, decide_false, Bool.false_eq_true, if_false]
    exact Ok.ret ⟨d, y, h1, Z, Z, Z⟩
   | cons z e =>
    have hn : ((d.length : Int) < (r.length : Int)) := by simp at hlen; omega
    have hy : c ∉ y := h y (by rw [h1]; simp)
    have hsz : (jn c (y :: z :: e)).length ≤ (jn c (x :: r)).length := by
     rw [h1]
     clear h1 hlen hn h hl hcnt hrl w1 w2 hmin hmk w3
     induction d with
     | nil => exact Nat.le_refl _
     | cons a d ih =>
      cases d with
      | nil => simp only [List.cons_append, List.nil_append, jn, List.length_append, List.length_cons] at ih ⊢; omega
      | cons a' d => simp only [List.cons_append, jn, List.length_append, List.length_cons] at ih ⊢; omega
    have hj : jn c (y :: z :: e) = y ++ c :: jn c (z :: e) := rfl
    have hylen : y.length < (jn c (y :: z :: e)).length := by rw [hj, List.length_append, List.length_cons]; omega
    have w4 : IntKind.i64.wrap ((y.length : Int) + 0) = (y.length : Int) := by rw [Q1 (by omega) (by omega)]; omega
    have w5 : IntKind.i64.wrap ((y.length : Int) + ((bt [c]).size : Int)) = ((y ++ [c]).length : Int) := by rw [Jj, Q1 (by simp; omega) (by simp; omega)]; simp
    have w6 : IntKind.i64.wrap ((d.length : Int) + 1) = (d.length : Int) + 1 := Q1 (by omega) (by omega)
    have e4 : ¬ ((y.length : Int) < 0) := by omega
    simp only [K3, hn, decide_true, if_true, Y9, hj, QhJ hy, Option.bind_some, e4, decide_false, Bool.false_eq_true, if_false, w4]
    rw [Qej rfl]
    have hi : QD (d.map bt ++ List.replicate (y :: z :: e).length (bt [])) (d.length : Int) = some (bt []) := by
     rw [Qj, List.getElem?_append_right (by simp), List.length_map, Nat.sub_self]; rfl
    have hs : YO (d.map bt ++ List.replicate (y :: z :: e).length (bt [])) (d.length : Int) (bt y) = some ((d ++ [y]).map bt ++ List.replicate (z :: e).length (bt [])) := by
     unfold YO
     rw [if_pos ⟨by omega, by simp⟩, Int.toNat_natCast]
     congr 1
     rw [List.set_append, if_neg (by simp), List.length_map, Nat.sub_self]
     simp [List.replicate_succ]
    simp only [Option.bind_some, hi, hs, w5, w6]
    rw [show y ++ c :: jn c (z :: e) = (y ++ [c]) ++ jn c (z :: e) by simp, QcA rfl (by rw [Jj])]
    refine Ok.ret ⟨⟨d ++ [y], z :: e, ⟨by rw [h1]; simp, Z, by simp, Z⟩, by simp⟩, ?_⟩
    show r.length - ((d.length : Int) + 1).toNat < r.length - (d.length : Int).toNat
    omega
 ·rintro ⟨s, i, l⟩ ⟨d, y, h1, h2, h3, h4⟩
  simp only at h2 h3 h4
  subst h2 h3 h4
  have hlen := congrArg List.length h1
  rw [List.length_append, List.length_cons] at hlen
  simp at hlen
  have hi : QD (d.map bt ++ List.replicate [y].length (bt [])) (d.length : Int) = some (bt []) := by
   rw [Qj, List.getElem?_append_right (by simp), List.length_map, Nat.sub_self]; rfl
  have hs : YO (d.map bt ++ List.replicate [y].length (bt [])) (d.length : Int) (bt (jn c [y])) = some ((d ++ [y]).map bt) := by
   unfold YO
   rw [if_pos ⟨by omega, by simp⟩, Int.toNat_natCast]
   congr 1
   rw [List.set_append, if_neg (by simp), List.length_map, Nat.sub_self]
   simp [jn]
  have w6 : IntKind.i64.wrap ((d.length : Int) + 1) = (d.length : Int) + 1 := Q1 (by omega) (by omega)
  have hv : Yy ((d ++ [y]).map bt) 0 ((d.length : Int) + 1) = some (d.length + 1) := by
   unfold Yy
   rw [if_pos ⟨by omega, by omega, by simp, by simp⟩]
   congr 1
  simp only [K3, hi, Option.bind_some, hs, w6, hv, must]
  have hm : decide (d.length + 1 ≤ ((d ++ [y]).map bt).length) = true := by simp
  rw [if_pos hm]
  simp only [Option.bind_some]
  refine Ok.ret (Ok.ret ?_)
  rw [h1, List.take_of_length_le (by simp)]
end Go.Pw
/- -/
set_option maxHeartbeats 8000000
namespace Go.Pw
def dec (n : Int) : List UInt8 := Lib.decDigits n.toNat
def fct (x : Fact) : List UInt8 := dec x.Var ++ 61 :: dec x.Val
def ngl (n : Nogood) : List UInt8 := [110, 111, 103, 111, 111, 100, 32] ++ (dec n.Dist ++ 58 :: n.Facts.flatMap fun x => 32 :: fct x)
def Yn (b : Int) : List UInt8 := if b < 0 then [117, 110, 115, 111, 108, 118, 97, 98, 108, 101] else [108, 111, 119, 101, 114, 32] ++ dec b
def txt (b : Int) (N : List Nogood) : List UInt8 := (Yn b ++ [10]) ++ N.flatMap fun n => ngl n ++ [10]
def I13 (n : Int) : Prop := 0 ≤ n ∧ n < 10000000000000
structure SmallC (b : Int) (N : List Nogood) : Prop where
 b0 : -1 ≤ b
 b1 : b < 10000000000000
 len : N.length ≤ 300
 fl : ∀ n ∈ N, n.Facts.length ≤ 5
 fv : ∀ n ∈ N, ∀ x ∈ n.Facts, I13 x.Var ∧ I13 x.Val
 ds : ∀ n ∈ N, I13 n.Dist
 chk : QY ⟨b, N⟩ = some none
theorem Qlj {n : Int} {b : UInt8} (h : b ∈ dec n) : 48 ≤ b.toNat ∧ b.toNat ≤ 57 := (QjS n.toNat).1 b h
theorem Qa9 {n : Int} (h : I13 n) : (dec n).length ≤ 13 := by
 unfold dec
 rw [Lib.decDigits_length]
 exact Qf7 (k := 12) (by have := h.2; show n.toNat < 10000000000000; omega)
theorem QbG {n : Int} (h : I13 n) : QL (bt (dec n)) = some (n, true) := by
 have h1 := h.1
 have h2 := h.2
 unfold dec
 rw [Qjs (by show n.toNat < 10000000000000; omega), Int.toNat_of_nonneg h1]
theorem Qd3 {n : Int} (h : I13 n) : Jc n = some (bt (dec n)) := by
 have h1 := h.1
 have h2 := h.2
 unfold Jc
 rw [if_pos ⟨by omega, by omega⟩]
 unfold Lib.itoa
 rw [if_neg (by omega)]; rfl
theorem Qbd {n : Int} {c : UInt8} (h : c.toNat < 48 ∨ 57 < c.toNat) : c ∉ dec n := fun hm => by
 have := Qlj hm
 omega
theorem QiT {x : Fact} (h : I13 x.Var ∧ I13 x.Val) : (fct x).length ≤ 27 := by
 have h1 := Qa9 h.1
 have h2 := Qa9 h.2
 unfold fct
 rw [List.length_append, List.length_cons]; omega
theorem Qd8 {f : List Fact} (h : ∀ x ∈ f, I13 x.Var ∧ I13 x.Val) : (f.flatMap fun x => 32 :: fct x).length ≤ f.length * 28 :=
 Qdy fun x hx => by have := QiT (h x hx); rw [List.length_cons]; omega
theorem QiO {n : Nogood} (hf : n.Facts.length ≤ 5) (h : ∀ x ∈ n.Facts, I13 x.Var ∧ I13 x.Val) (hd : I13 n.Dist) : (ngl n).length ≤ 161 := by
 have h1 := Qd8 h
 have h2 := Qa9 hd
 unfold ngl
 rw [List.length_append, List.length_append, List.length_cons]
 simp only [List.length_cons, List.length_nil]
 omega
theorem QiS {b : Int} (h1 : b < 10000000000000) : (Yn b).length ≤ 19 := by
 unfold Yn
 split
 ·decide
 ·have := Qa9 (n := b) ⟨by omega, h1⟩
  rw [List.length_append]
  simp only [List.length_cons, List.length_nil]
  omega
theorem Qgw {N : List Nogood} (fl : ∀ n ∈ N, n.Facts.length ≤ 5) (fv : ∀ n ∈ N, ∀ x ∈ n.Facts, I13 x.Var ∧ I13 x.Val) (ds : ∀ n ∈ N, I13 n.Dist) : (N.flatMap fun n => ngl n ++ [10]).length ≤ N.length * 162 :=
 Qdy fun n hn => by have := QiO (fl n hn) (fv n hn) (ds n hn); rw [List.length_append]; simp only [List.length_cons, List.length_nil]; omega
theorem QgT {α : Type} (c : UInt8) (g : α → List UInt8) : ∀ (x : α) (r : List α), ((x :: r).flatMap fun y => c :: g y) = c :: jn c ((x :: r).map g)
 | x, [] => by simp [jn]
 | x, y :: r => by
  rw [List.flatMap_cons, QgT c g y r]
  simp [jn]
theorem flat_jn' {α : Type} (c : UInt8) (g : α → List UInt8) : ∀ (p : List UInt8) (r : List α), (p ++ [c]) ++ (r.flatMap fun y => g y ++ [c]) = jn c (p :: (r.map g ++ [[]]))
 | p, [] => by simp [jn]
 | p, y :: r => by
  rw [List.flatMap_cons, ← List.append_assoc, List.map_cons, List.cons_append]
  rw [show jn c (p :: g y :: (r.map g ++ [[]])) = p ++ c :: jn c (g y :: (r.map g ++ [[]])) from rfl, ← flat_jn' c g (g y) r]
  simp
/-! ### Format -/
def nm (l : List UInt8) : List Int := l.map fun b => (b.toNat : Int)
theorem QjM (a b : List UInt8) : nm (a ++ b) = nm a ++ nm b := by simp [nm]
theorem Qea (a : List UInt8) : (nm a).length = a.length := by simp [nm]
theorem Qdz {xs : List Int} {q : List UInt8} (h : xs.length + q.length ≤ 140737488355328) : QdZ xs (bt q) = some (xs ++ nm q) := by
 unfold QdZ
 rw [Jj, if_pos h, Qco]; rfl
theorem QiN {α : Type} (g : α → List UInt8) (xs : List α) : nm (xs.flatMap g) = xs.flatMap fun x => nm (g x) := by
 induction xs with
 | nil => rfl
 | cons x xs ih => rw [List.flatMap_cons, List.flatMap_cons, QjM, ih]
theorem Qkj {l : List UInt8} (h : l ≠ []) : Qff (nm l) = some (bt l) := by
 unfold Qff
 have h1 : nm l ≠ [] := by cases l with
  | nil => exact absurd rfl h
  | cons a l => simp [nm]
 have h2 : (nm l).all (fun n => decide (0 ≤ n) && decide (n ≤ 255)) = true := by
  rw [List.all_eq_true]
  intro x hx
  obtain ⟨b, _, rfl⟩ := List.mem_map.1 hx
  have := b.toNat_lt
  simp; omega
 rw [if_pos ⟨h1, h2⟩]
 have : u8s (nm l) = l := by
  unfold u8s nm
  rw [List.map_map]
  conv => rhs; rw [← List.map_id l]
  refine List.map_congr_left fun b _ => ?_
  simp
 rw [this]; rfl
theorem Qmy {b : Int} (h0 : -1 ≤ b) (h1 : b < 10000000000000) :
  (if decide (b < 0) = true then (QdZ ([] : List Int) (⟨#[117, 110, 115, 111, 108, 118, 97, 98, 108, 101, 10]⟩)).bind fun l100 => some l100
   else (Jc b).bind fun y101 => (cat (⟨#[108, 111, 119, 101, 114, 32]⟩) y101).bind fun c101 => (cat c101 (⟨#[10]⟩)).bind fun c102 => (QdZ ([] : List Int) c102).bind fun l101 => some l101) = some (nm (Yn b ++ [10])) := by
 by_cases hb : b < 0
 ·rw [if_pos (decide_eq_true hb)]
  unfold Yn
  rw [if_pos hb]
  rw [show (⟨#[117, 110, 115, 111, 108, 118, 97, 98, 108, 101, 10]⟩ : ByteArray) = bt ([117, 110, 115, 111, 108, 118, 97, 98, 108, 101] ++ [10]) from rfl, Qdz (by simp)]
  rfl
 ·have hl := Qa9 (n := b) ⟨by omega, h1⟩
  rw [if_neg (by simp; omega), Qd3 ⟨by omega, h1⟩]
  unfold Yn
  rw [if_neg hb]
  simp only [Option.bind_some]
  rw [show (⟨#[108, 111, 119, 101, 114, 32]⟩ : ByteArray) = bt [108, 111, 119, 101, 114, 32] from rfl, show (⟨#[10]⟩ : ByteArray) = bt [10] from rfl, Qde (by simp; omega)]
  simp only [Option.bind_some]
  rw [Qde (by simp; omega)]
  simp only [Option.bind_some]
  rw [Qdz (by simp; omega)]
  rfl
theorem Qk3 {f : List Fact} {s0 : List Int} (hs : s0.length ≤ 1000000) (hl : f.length ≤ 5) (h : ∀ x ∈ f, I13 x.Var ∧ I13 x.Val) :
  (forS (fun i101 => fun (l105 : (List Int)) => (QD f (i101 : Int)).bind fun x101 =>
   (Jc x101.Var).bind <| fun (y103 : ByteArray) =>
   (cat (⟨#[32]⟩) y103).bind fun c105 =>
   (cat c105 (⟨#[61]⟩)).bind fun c106 =>
   (Jc x101.Val).bind <| fun (y104 : ByteArray) =>
   (cat c106 y104).bind fun c107 =>
   (QdZ l105 c107).bind fun l106 =>
   some l106) (f.length) 0 s0) = some (s0 ++ nm (f.flatMap fun x => 32 :: fct x)) := by
 rw [QiN]
 refine Qc8 f (fun x => nm (32 :: fct x)) fun i y s hy hsx => ?_
 have hm := h y (List.mem_of_getElem? hy)
 have h1 := Qa9 hm.1
 have h2 := Qa9 hm.2
 have hsl : s.length ≤ 1000200 := by
  rw [hsx, ← QiN, List.length_append, Qea]
  have := Qd8 (f := f.take i) fun x hx => h x (List.mem_of_mem_take hx)
  have h3 : (f.take i).length ≤ 5 := by rw [List.length_take]; omega
  omega
 rw [Qj, hy]
 simp only [Option.bind_some, Qd3 hm.1, Qd3 hm.2]
 rw [show (⟨#[32]⟩ : ByteArray) = bt [32] from rfl, show (⟨#[61]⟩ : ByteArray) = bt [61] from rfl, Qde (by simp; omega)]
 simp only [Option.bind_some]
 rw [Qde (by simp; omega)]
 simp only [Option.bind_some]
 rw [Qde (by simp; omega)]
 simp only [Option.bind_some]
 rw [Qdz (by simp; omega)]
 simp [fct]
theorem Qg0 {b : Int} {N : List Nogood} (h : SmallC b N) : QU ⟨b, N⟩ = some (bt (txt b N), none) := by
 refine Ok.eq ?_
 unfold QU
 have hlen := h.len
 have hhl := QiS h.b1
 rw [h.chk]
 simp only [Option.bind_some, Option.isSome_none, Bool.false_eq_true, if_false]
 rw [Qmy h.b0 h.b1]
 simp only [Option.bind_some]
 refine Ok.ctl (fun i s => s = nm ((Yn b ++ [10]) ++ (N.take i).flatMap fun n => ngl n ++ [10])) (fun _ => False) (by simp) ?_ (fun r h => h.elim) ?_
 ·intro i s hi hs
  obtain ⟨n, hn⟩ := Ql hi
  have hm := List.mem_of_getElem? hn
  have hd := Qa9 (h.ds n hm)
  have hsl : s.length ≤ 20 + i * 162 := by
   rw [hs, Qea, List.length_append, List.length_append]
   have := Qgw (N := N.take i) (fun n hn => h.fl n (List.mem_of_mem_take hn)) (fun n hn => h.fv n (List.mem_of_mem_take hn)) (fun n hn => h.ds n (List.mem_of_mem_take hn))
   rw [List.length_take, Nat.min_eq_left (by omega)] at this
   simp only [List.length_cons, List.length_nil]
   omega
  have hnl := QiO (h.fl n hm) (h.fv n hm) (h.ds n hm)
  rw [Qj, hn]
  simp only [Option.bind_some, Qd3 (h.ds n hm)]
  rw [show (⟨#[110, 111, 103, 111, 111, 100, 32]⟩ : ByteArray) = bt [110, 111, 103, 111, 111, 100, 32] from rfl, show (⟨#[58]⟩ : ByteArray) = bt [58] from rfl, show (⟨#[10]⟩ : ByteArray) = bt [10] from rfl, Qde (by simp; omega)]
  simp only [Option.bind_some]
  rw [Qde (by simp; omega)]
  simp only [Option.bind_some]
  rw [Qdz (by simp; omega)]
  simp only [Option.bind_some]
  have hsl2 : (s ++ nm ([110, 111, 103, 111, 111, 100, 32] ++ dec n.Dist ++ [58])).length ≤ 1000000 := by
   rw [List.length_append, Qea]; simp; omega
  rw [Qk3 hsl2 (h.fl n hm) (h.fv n hm)]
  simp only [Option.bind_some]
  have he : s ++ nm ([110, 111, 103, 111, 111, 100, 32] ++ dec n.Dist ++ [58]) ++ nm (n.Facts.flatMap fun x => 32 :: fct x) = s ++ nm (ngl n) := by
   rw [List.append_assoc, ← QjM]
   unfold ngl
   simp
  rw [he, Qdz (by rw [List.length_append, Qea]; simp; omega)]
  simp only [Option.bind_some]
  have hfin : ¬ (65536 : Int) < ((s ++ nm (ngl n) ++ nm [10]).length : Int) := by
   rw [List.length_append, List.length_append, Qea, Qea]; simp only [List.length_cons, List.length_nil]; omega
  simp only [hfin, decide_false, Bool.false_eq_true, if_false]
  refine Ok.ret ?_
  show _ = _
  rw [hs, List.take_add_one, hn, Option.toList_some, List.flatMap_append]
  simp [nm]
 ·intro s hs
  rw [hs, List.take_length, Qkj (by simp)]
  exact Ok.ret Z
/-! ### Parse -/
theorem Qle {b : Int} (h0 : -1 ≤ b) (h1 : b < 10000000000000) : Kg (bt (Yn b)) = some (b, true) := by
 unfold Kg Yn
 by_cases hb : b < 0
 ·have : b = -1 := by omega
  subst this
  rfl
 ·rw [if_neg hb]
  have hne : ¬ bt ([108, 111, 119, 101, 114, 32] ++ dec b) = (⟨#[117, 110, 115, 111, 108, 118, 97, 98, 108, 101]⟩ : ByteArray) := by
   intro e
   have e2 : bt ([108, 111, 119, 101, 114, 32] ++ dec b) = bt [117, 110, 115, 111, 108, 118, 97, 98, 108, 101] := e
   rw [Qio] at e2
   simp at e2
  simp only [hne, decide_false, Bool.false_eq_true, if_false]
  rw [show (⟨#[108, 111, 119, 101, 114, 32]⟩ : ByteArray) = bt [108, 111, 119, 101, 114, 32] from rfl, QdN]
  simp [QK, QbG ⟨by omega, h1⟩]
theorem Qjt {n : Nogood} (hf : n.Facts.length ≤ 5) (h : ∀ x ∈ n.Facts, I13 x.Var ∧ I13 x.Val) (hd : I13 n.Dist) : JD (bt (ngl n)) = some (true, n) := by
 have hfl := Qd8 h
 have Yn := Qa9 hd
 refine Ok.eq ?_
 unfold JD ngl
 rw [show (⟨#[110, 111, 103, 111, 111, 100, 32]⟩ : ByteArray) = bt [110, 111, 103, 111, 111, 100, 32] from rfl, show (⟨#[58]⟩ : ByteArray) = bt [58] from rfl, QdN]
 simp only [Option.bind_some, QK]
 rw [Qkf (Qbd (by decide)) (by rw [List.length_append, List.length_cons]; omega)]
 simp only [Option.bind_some, K3, QbG hd, QK, Bool.not_true, Bool.or_self, Bool.false_eq_true, if_false]
 cases hfs : n.Facts with
 | nil =>
  have e : bt (List.flatMap (fun x => 32 :: fct x) ([] : List Fact)) = (⟨#[]⟩ : ByteArray) := rfl
  rw [if_pos (decide_eq_true e)]
  refine Ok.ret ?_
  cases n
  simp at hfs
  subst hfs
  rfl
 | cons x r =>
  rw [hfs] at h hf
  rw [QgT 32 fct x r]
  have hjl : (32 :: jn 32 ((x :: r).map fct)).length ≤ (x :: r).length * 28 := by
   rw [← QgT 32 fct x r]; exact Qd8 h
  rw [List.length_cons] at hjl
  have e : ¬ bt (32 :: jn 32 ((x :: r).map fct)) = (⟨#[]⟩ : ByteArray) := by
   intro e
   have e2 : bt (32 :: jn 32 ((x :: r).map fct)) = bt [] := e
   rw [Qio] at e2
   cases e2
  rw [if_neg (by simpa using e)]
  have hi : QD (QJ (bt (32 :: jn 32 ((x :: r).map fct)))) 0 = some 32 := by rw [Qco]; rfl
  rw [hi]
  simp only [Option.bind_some, decide_true, Bool.not_true, Bool.false_eq_true, if_false]
  rw [show (32 :: jn 32 ((x :: r).map fct)) = [32] ++ jn 32 ((x :: r).map fct) from rfl, QcA (by rfl) (by rw [Jj])]
  simp only [Option.bind_some]
  rw [show (⟨#[32]⟩ : ByteArray) = bt [32] from rfl, show (⟨#[61]⟩ : ByteArray) = bt [61] from rfl, List.map_cons]
  have hno : ∀ p ∈ fct x :: r.map fct, (32 : UInt8) ∉ p := by
   intro p hp
   rw [← List.map_cons] at hp
   obtain ⟨y, hy, rfl⟩ := List.mem_map.1 hp
   unfold fct
   intro hm
   rcases List.mem_append.1 hm with hm | hm
   ·exact Qbd (by decide) hm
   ·rcases List.mem_cons.1 hm with hm | hm
    ·exact absurd hm (by decide)
    ·exact Qbd (by decide) hm
  rw [List.map_cons] at hjl
  rw [QhI hno (by have := hf; omega)]
  simp only [Option.bind_some]
  rw [← List.map_cons, List.map_map]
  refine Ok.ctl (fun i z => z = (x :: r).take i) (fun _ => False) Z ?_ (fun r h => h.elim) ?_
  ·intro i z hi hz
   rw [List.length_map] at hi
   obtain ⟨y, hy⟩ := Ql hi
   have hm := h y (List.mem_of_getElem? hy)
   have h1 := QiT hm
   rw [Qj, List.getElem?_map, hy]
   simp only [Option.map_some, Option.bind_some, Function.comp]
   unfold fct at h1 ⊢
   rw [Qkf (Qbd (by decide)) (by omega)]
   simp only [Option.bind_some, K3, QbG hm.1, QbG hm.2, QK, Bool.not_true, Bool.or_self, Bool.false_eq_true, if_false]
   have hap : app 16 z [(⟨y.Var, y.Val⟩ : Fact)] = some (z ++ [y]) := by
    unfold app
    rw [if_pos (by rw [hz, List.length_take, List.length_singleton]; omega)]
   rw [hap]
   refine Ok.ret ?_
   show z ++ [y] = _
   rw [hz, List.take_add_one, hy]; rfl
  ·intro z hz
   rw [List.length_map] at hz
   refine Ok.ret ?_
   rw [hz, List.take_length, ← hfs]
theorem Qkt {b : Int} {N : List Nogood} (h : SmallC b N) : Ji (bt (txt b N)) = some (0, none, ⟨b, N⟩) := by
 have hlen := h.len
 have hhl := QiS h.b1
 have hll := Qgw h.fl h.fv h.ds
 have htl : (txt b N).length ≤ 48700 := by
  unfold txt
  rw [List.length_append, List.length_append]
  simp only [List.length_cons, List.length_nil]
  omega
 have hno : ∀ p ∈ Yn b :: (N.map ngl ++ [[]]), (10 : UInt8) ∉ p := by
  intro p hp
  rcases List.mem_cons.1 hp with rfl | hp
  ·unfold Yn
   split
   ·decide
   ·intro hm
    rcases List.mem_append.1 hm with hm | hm
    ·exact absurd hm (by decide)
    ·exact Qbd (by decide) hm
  ·rcases List.mem_append.1 hp with hp | hp
   ·obtain ⟨n, hn, rfl⟩ := List.mem_map.1 hp
    unfold ngl
    intro hm
    rcases List.mem_append.1 hm with hm | hm
    ·exact absurd hm (by decide)
    ·rcases List.mem_append.1 hm with hm | hm
     ·exact Qbd (by decide) hm
     ·rcases List.mem_cons.1 hm with hm | hm
      ·exact absurd hm (by decide)
      ·obtain ⟨x, _, hm⟩ := List.mem_flatMap.1 hm
       rcases List.mem_cons.1 hm with hm | hm
       ·exact absurd hm (by decide)
       ·unfold fct at hm
        rcases List.mem_append.1 hm with hm | hm
        ·exact Qbd (by decide) hm
        ·rcases List.mem_cons.1 hm with hm | hm
         ·exact absurd hm (by decide)
         ·exact Qbd (by decide) hm
   ·rw [List.mem_singleton.1 hp]; simp
 have hj : txt b N = jn 10 (Yn b :: (N.map ngl ++ [[]])) := flat_jn' 10 ngl (Yn b) N
 have hsp := QhI hno (by rw [← hj]; omega)
 rw [← hj] at hsp
 refine Ok.eq ?_
 unfold Ji
 have e1 : ¬ (65536 : Int) < ((bt (txt b N)).size : Int) := by rw [Jj]; omega
 rw [show (⟨#[10]⟩ : ByteArray) = bt [10] from rfl, hsp]
 simp only [e1, decide_false, Bool.false_eq_true, if_false, Option.bind_some]
 have hpl : ((Yn b :: (N.map ngl ++ [[]])).map bt).length = N.length + 2 := by simp
 have hw : IntKind.i64.wrap ((((Yn b :: (N.map ngl ++ [[]])).map bt).length : Int) - 1) = (N.length : Int) + 1 := by rw [hpl, Q1 (by omega) (by omega)]; omega
 simp only [hw]
 rw [hpl]
 refine QiZ (fun i s => i ≤ N.length + 1 ∧ s = (if i = 0 then 0 else b, N.take (i - 1))) (fun s => s = (b, N)) (fun _ => False) ⟨by omega, by simp⟩ ?_ (fun r h => h.elim) (fun s hs => by omega) ?_
 ·rintro i s hi ⟨hi2, rfl⟩
  by_cases hl : i = N.length + 1
  ·have hx : QD ((Yn b :: (N.map ngl ++ [[]])).map bt) (i : Int) = some (bt []) := by
    rw [Qj, hl]; simp
   rw [hx]
   have c1 : ¬ ((i : Int) < (N.length : Int) + 1) := by omega
   have c2 : (0 : Int) < (i : Int) := by omega
   have c3 : bt [] = (⟨#[]⟩ : ByteArray) := rfl
   simp only [Option.bind_some, QK, c1, c2, c3, decide_true, decide_false, Bool.not_false, Bool.and_self, if_true]
   refine Ok.ret ?_
   show _ = _
   rw [if_neg (by omega), hl, Nat.add_sub_cancel, List.take_length]
  ·have c1 : ((i : Int) < (N.length : Int) + 1) := by omega
   by_cases h0 : i = 0
   ·subst h0
    have hx : QD ((Yn b :: (N.map ngl ++ [[]])).map bt) ((0 : Nat) : Int) = some (bt (Yn b)) := by rw [Qj]; rfl
    rw [hx]
    have c2 : ((0 : Nat) : Int) = 0 := rfl
    have c3 : (0 : Int) < (N.length : Int) + 1 := by omega
    simp only [Option.bind_some, QK, c1, c3, decide_true, Bool.not_true, Bool.false_and, Bool.false_eq_true, if_false, c2, if_true, Qle h.b0 h.b1, K3, Bool.or_self]
    refine Ok.ret ?_
    show 0 + 1 ≤ N.length + 1 ∧ _ = _
    exact ⟨by omega, Z⟩
   ·obtain ⟨n, hn⟩ := Ql (xs := N) (i := i - 1) (by omega)
    have hm := List.mem_of_getElem? hn
    have hx : QD ((Yn b :: (N.map ngl ++ [[]])).map bt) (i : Int) = some (bt (ngl n)) := by
     obtain ⟨k, rfl⟩ : ∃ k, i = k + 1 := ⟨i - 1, by omega⟩
     rw [Nat.add_sub_cancel] at hn
     rw [Qj, List.map_cons, List.getElem?_cons_succ, List.map_append, List.getElem?_append_left (by simp; omega), List.map_map, List.getElem?_map, hn]
     rfl
    have hap : app 32 (N.take (i - 1)) [n] = some (N.take (i - 1) ++ [n]) := by
     unfold app
     rw [if_pos (by rw [List.length_take, List.length_singleton]; omega)]
    have c2 : ¬ ((i : Int) = 0) := by omega
    rw [hx]
    simp only [Option.bind_some, QK, c1, c2, decide_true, decide_false, Bool.not_true, Bool.false_and, Bool.false_eq_true, if_false, Qjt (h.fl n hm) (h.fv n hm) (h.ds n hm), K3, hap, Bool.or_self]
    refine Ok.ret ?_
    show i + 1 ≤ N.length + 1 ∧ _ = _
    refine ⟨by omega, ?_⟩
    rw [if_neg h0, if_neg (by omega), Nat.add_sub_cancel]
    congr 1
    have : i = (i - 1) + 1 := by omega
    conv => rhs; rw [this, List.take_add_one, hn]
    rfl
 ·rintro s rfl
  simp only [QK, h.chk, Option.bind_some, Option.isSome_none, Bool.false_eq_true, if_false]
  exact Ok.ret Z
end Go.Pw
