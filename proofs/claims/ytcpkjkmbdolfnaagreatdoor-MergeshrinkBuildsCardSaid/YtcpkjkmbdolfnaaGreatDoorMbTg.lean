/- -/
import Derived.Test.YtcpkjkmbdolfnaaGreatDoorMbTf
import Derived.Test.YtcpkjkmbdolfnaaGreatDoorMbTe
set_option maxHeartbeats 8000000
set_option maxRecDepth 20000
set_option linter.unusedSimpArgs false
set_option linter.unusedVariables false
namespace Go.Pw
def exT : Task := ⟨[2, 3], [0, 0], [⟨1, 1⟩], [⟨⟨#[]⟩, 1, [⟨0, 0⟩], [⟨[], 0, 1⟩]⟩, ⟨⟨#[]⟩, 1, [⟨0, 1⟩], [⟨[], 0, 0⟩]⟩, ⟨⟨#[]⟩, 1, [⟨0, 0⟩, ⟨1, 0⟩], [⟨[], 1, 2⟩]⟩, ⟨⟨#[]⟩, 1, [⟨0, 1⟩, ⟨1, 2⟩], [⟨[], 1, 1⟩]⟩]⟩
theorem QoQ : Kn = exT := by
 have h := Yz
 unfold Yn at h
 exact (Zu h).symm
theorem QaL {s : List Int} : StateOK [2, 3] s ↔ s ∈ [[0, 0], [0, 1], [0, 2], [1, 0], [1, 1], ([1, 2] : List Int)] := by
 rw [← Qbk]
 have : Jq [2, 3] = [[0, 0], [0, 1], [0, 2], [1, 0], [1, 1], [1, 2]] := by decide
 rw [this]
theorem Qky {o : Op} (h : o ∈ exT.Ops) : o = ⟨⟨#[]⟩, 1, [⟨0, 0⟩], [⟨[], 0, 1⟩]⟩ ∨ o = ⟨⟨#[]⟩, 1, [⟨0, 1⟩], [⟨[], 0, 0⟩]⟩ ∨ o = ⟨⟨#[]⟩, 1, [⟨0, 0⟩, ⟨1, 0⟩], [⟨[], 1, 2⟩]⟩ ∨ o = ⟨⟨#[]⟩, 1, [⟨0, 1⟩, ⟨1, 2⟩], [⟨[], 1, 1⟩]⟩ := by
 simpa [exT] using h
theorem ex_small : SmallT exT := by
 have f0 : FactsOK [2, 3] [] := ⟨by simp, by simp⟩
 refine ⟨⟨by simp [exT], by simp [exT], by simp [exT], QaL.2 (by simp [exT]), ⟨by simp [exT, InR], by simp [exT]⟩, fun o ho => ?_⟩, by simp [exT], by simp [exT], fun o ho => ?_, by simp [exT, Ke]⟩
 ·rcases Qky ho with rfl | rfl | rfl | rfl
  all_goals
   refine ⟨by simp, by simp, by simp, Nat.zero_le _, by simp [bytesOf], ⟨by simp [exT, InR], by simp⟩, by simp [exT, InR, f0]⟩
 ·rcases Qky ho with rfl | rfl | rfl | rfl <;> simp
theorem Qoj : QlH exT := by
 intro o ho
 rcases Qky ho with rfl | rfl | rfl | rfl <;> simp
def pot (s : List Int) : Int := ([3, 0, 2, 4, 0, 1] : List Int)[(rk [2, 3] s).toNat]?.getD 0
theorem QiX {s : List Int} (hs : StateOK [2, 3] s) {o : Op} (ho : o ∈ exT.Ops) (hp : JD o.Pre s) : pot s ≤ o.Cost + pot (JH o.Effs s) := by
 have hs := QaL.1 hs
 simp only [List.mem_cons, List.not_mem_nil, or_false] at hs
 rcases Qky ho with rfl | rfl | rfl | rfl <;> rcases hs with rfl | rfl | rfl | rfl | rfl | rfl <;> first
  | (exfalso; revert hp; simp [JD]; done)
  | (simp [JH, JD, pot, rk, rkZ]; done)
theorem Qog {i : Nat} {c : Int} (h : Reach (BA exT) (QfF exT) i c) : ∀ s, StateOK [2, 3] s → rk [2, 3] s = (i : Int) → pot s ≤ c := by
 have hv1 : ∀ n ∈ ([2, 3] : List Int), 1 ≤ n := by simp
 induction h with
 | base hs =>
  intro s hsok hr
  obtain ⟨s', hs', h1, h2⟩ := hs
  have := QhZ hv1 hs' hsok (by rw [hr]; exact h1)
  subst this
  have h3 := QaL.1 hsok
  simp only [List.mem_cons, List.not_mem_nil, or_false] at h3
  rcases h3 with rfl | rfl | rfl | rfl | rfl | rfl <;> first
   | (exfalso; revert h2; simp [JD, exT]; done)
   | (simp [pot, rk, rkZ]; done)
 | step _ ha ih =>
  intro s hsok hr
  obtain ⟨s', l, o, hs', ho, hp, rfl, h1, h2⟩ := ha
  have := QhZ hv1 hs' hsok (by rw [hr]; exact h2)
  subst this
  have hom := List.mem_of_getElem? ho
  have h3 := ih _ (Qfb ex_small.g ho hs') h1
  have h4 := QiX hs' hom hp
  omega
theorem Qm6 : Reach (BA exT) (QfF exT) 0 3 := by
 have h1 : Reach (BA exT) (QfF exT) 4 0 := .base ⟨[1, 1], QaL.2 (by simp), rfl, by simp [JD, exT]⟩
 have h2 := Reach.step (u := 5) (w := 1) h1 ⟨[1, 2], 3, _, QaL.2 (by simp), rfl, by simp [JD], rfl, by simp [JH, JD, exT, rk, rkZ], rfl⟩
 have h3 := Reach.step (u := 2) (w := 1) h2 ⟨[0, 2], 0, _, QaL.2 (by simp), rfl, by simp [JD], rfl, by simp [JH, JD, exT, rk, rkZ], rfl⟩
 exact Reach.step (u := 0) (w := 1) h3 ⟨[0, 0], 2, _, QaL.2 (by simp), Z, by simp [JD], Z, by simp [JH, JD, exT, rk, rkZ], Z⟩
theorem Qnk {k : List Int} (hk : SP (BA exT) (QfF exT) (Ke exT.Vars).toNat k) : k[0]? = some 3 := by
 obtain ⟨z, hz, hz3⟩ := hk.le (Qmb ex_small) Qm6 (by decide)
 have h := Qog (hk.re _ _ hz (Int.lt_of_le_of_lt hz3 (by decide))) [0, 0] (QaL.2 (by simp)) rfl
 have : pot [0, 0] = 3 := by decide
 rw [hz]
 congr 1; omega
theorem Qo5 : ∃ k, SP (BA exT) (QfF exT) (Ke exT.Vars).toNat k := by
 have h1 : Reach (BA exT) (QfF exT) 4 0 := .base ⟨[1, 1], QaL.2 (by simp), rfl, by simp [JD, exT]⟩
 have h0 : Reach (BA exT) (QfF exT) 1 0 := .base ⟨[0, 1], QaL.2 (by simp), rfl, by simp [JD, exT]⟩
 have h2 := Reach.step (u := 5) (w := 1) h1 ⟨[1, 2], 3, _, QaL.2 (by simp), rfl, by simp [JD], rfl, by simp [JH, JD, exT, rk, rkZ], rfl⟩
 have h3 := Reach.step (u := 2) (w := 1) h2 ⟨[0, 2], 0, _, QaL.2 (by simp), rfl, by simp [JD], rfl, by simp [JH, JD, exT, rk, rkZ], rfl⟩
 have h4 := Reach.step (u := 0) (w := 1) h3 ⟨[0, 0], 2, _, QaL.2 (by simp), rfl, by simp [JD], rfl, by simp [JH, JD, exT, rk, rkZ], rfl⟩
 have h5 := Reach.step (u := 3) (w := 1) h4 ⟨[1, 0], 1, _, QaL.2 (by simp), rfl, by simp [JD], rfl, by simp [JH, JD, exT, rk, rkZ], rfl⟩
 have hv1 : ∀ n ∈ ([2, 3] : List Int), 1 ≤ n := by simp
 have hlt : ∀ s, StateOK [2, 3] s → ∃ i : Nat, rk [2, 3] s = (i : Int) ∧ i < 6 ∧ ([3, 0, 2, 4, 0, 1] : List Int)[i]? = some (pot s) := by
  intro s hs
  have h := QaL.1 hs
  simp only [List.mem_cons, List.not_mem_nil, or_false] at h
  rcases h with rfl | rfl | rfl | rfl | rfl | rfl
  ·exact ⟨0, Z, by decide, Z⟩
  ·exact ⟨1, Z, by decide, Z⟩
  ·exact ⟨2, Z, by decide, Z⟩
  ·exact ⟨3, Z, by decide, Z⟩
  ·exact ⟨4, Z, by decide, Z⟩
  ·exact ⟨5, Z, by decide, Z⟩
 refine ⟨[3, 0, 2, 4, 0, 1], ⟨by simp [exT, Ke], fun i x h => ?_, fun i hi => ?_, fun i x h _ => ?_⟩, ?_⟩
 ·match i, h with
  | 0, h | 1, h | 2, h | 3, h | 4, h | 5, h => cases h; decide
  | n + 6, h => simp at h
 ·obtain ⟨s, hs, hr, hg⟩ := hi
  obtain ⟨j, e1, e2, e3⟩ := hlt s hs
  have e1 : rk exT.Vars s = (j : Int) := e1
  have : i = j := by omega
  subst this
  rw [e3]
  have h := QaL.1 hs
  simp only [List.mem_cons, List.not_mem_nil, or_false] at h
  rcases h with rfl | rfl | rfl | rfl | rfl | rfl <;> first
   | (exfalso; revert hg; simp [JD, exT]; done)
   | rfl
 ·match i, h with
  | 0, h => cases h; exact h4
  | 1, h => cases h; exact h0
  | 2, h => cases h; exact h3
  | 3, h => cases h; exact h5
  | 4, h => cases h; exact h1
  | 5, h => cases h; exact h2
  | n + 6, h => simp at h
 ·rintro v u w x y ⟨s, i, o, hs, ho, hp, rfl, h6, h7⟩ hx hy _
  have hom := List.mem_of_getElem? ho
  have hs' := Qfb ex_small.g ho hs
  obtain ⟨j, e1, e2, e3⟩ := hlt s hs
  obtain ⟨j', f1, f2, f3⟩ := hlt _ hs'
  have e1 : rk exT.Vars s = (j : Int) := e1
  have f1 : rk exT.Vars (JH o.Effs s) = (j' : Int) := f1
  have : u = j := by omega
  subst this
  have : v = j' := by omega
  subst this
  have := QiX hs hom hp
  rw [e3] at hy; rw [f3] at hx
  cases hx; cases hy
  omega
theorem QmH : Yu = some true := by
 have hp : Ke exT.Vars ≤ 100 := by simp [exT, Ke]
 have hpv : Ke exT.Vars = 6 := by simp [exT, Ke]
 have h8 : exT.Ops.length ≤ 8 := by simp [exT]
 have hn : 0 < exT.Vars.length := by simp [exT]
 have p1 : ([0, 1] : List Int).Perm (idL exT.Vars.length) := by decide
 have p2 : ([1, 0] : List Int).Perm (idL exT.Vars.length) := by decide
 obtain ⟨a, x, F, ha, hA⟩ := (Qjl ex_small hp h8 hn (order := [0, 1]) (by simp) 6).2 p1
 obtain ⟨b, y, G, hb, hB⟩ := (Qjl ex_small hp h8 hn (order := [1, 0]) (by simp) 1).2 p2
 have s00 : StateOK exT.Vars [0, 0] := QaL.2 (by simp)
 have s01 : StateOK exT.Vars [0, 1] := QaL.2 (by simp)
 obtain ⟨k, hk⟩ := Qo5
 obtain ⟨f1, f2, _⟩ := hA.c.f (by rw [hpv]; decide)
 have va : Q0 a [0, 0] = some 3 := by
  obtain ⟨d, e, v1, v2, v3, v4, v5, v6⟩ := hA.le ex_small hk s00
  have h6 := v6 Qoj p1 f1
  have h7 := Qnk hk
  rw [show (rk exT.Vars [0, 0]).toNat = 0 from rfl] at v3
  rw [h7] at v3
  cases v3
  rw [v1, h6]
 have sa : (a.distance.length : Int) = 6 := by rw [hA.size, f2, Qll p1, hpv]
 have hy : y.States = 1 := by
  have h1 := hB.c.m
  have h2 := hB.c.i.v.s1
  have : max 1 (min (1 : Int) 4096) = 1 := by decide
  omega
 have g0 : ∀ s, StateOK exT.Vars s → G s = 0 := fun s hs => by have := hB.c.i.r s hs; omega
 have hgoal : y.Goals[0]? = some true := by
  have := hB.c.i.g [0, 1] s01 (by simp [exT])
  rw [g0 _ s01] at this
  exact this
 have vb : Q0 b [0, 0] = some 0 := by
  obtain ⟨d, h1, h2⟩ := hB.val s00
  rw [g0 _ s00, hB.d.s0 0 hgoal] at h1
  cases h1
  exact h2
 have sb : (b.distance.length : Int) = 1 := by rw [hB.size, hy]
 have eb : b.exact = false := by
  cases h : b.exact with
  | false => rfl
  | true =>
   have := (hB.c.e h).gl [0, 0] s00 (by rw [g0 _ s00]; exact hgoal) ⟨1, 1⟩ (by simp [exT]) (by simp)
   simp at this
 unfold Yu
 rw [QoQ, ha]
 simp only [Option.bind_some, QM, QhT]
 rw [hb]
 simp only [Option.bind_some, QM, QhT, Option.isNone_none, must, if_true, va, QlR, QkF, sa, sb, f1, eb, vb, decide_true, Bool.not_false]
end Go.Pw
/- -/
set_option maxHeartbeats 8000000
namespace Go.Pw
structure FewT (t : Task) : Prop where
 s : SmallT t
 n : 0 < t.Vars.length
 p : Ke t.Vars ≤ 100
 o : t.Ops.length ≤ 8
open Classical in
theorem Qoi (t : Task) : Qbn t = some (decide (FewT t)) := by
 refine Ok.eq ?_
 unfold Qbn
 rw [Qmp]
 simp only [Option.bind_some]
 by_cases h : SmallT t
 ·simp only [h, decide_true, if_true]
  by_cases hn : 0 < t.Vars.length
  ·simp only [show (0 : Int) < (t.Vars.length : Int) by omega, decide_true, if_true]
   refine Ok.bind (Ok.bind ((Qgv h.g.v (most := 100) (by omega) (by omega)).mono ?_))
   intro m hm
   by_cases h1 : m ≤ 100
   ·have hp : Ke t.Vars ≤ 100 := by omega
    simp only [h1, decide_true, if_true]
    by_cases h2 : t.Ops.length ≤ 8
    ·refine Ok.ret (Ok.ret ?_)
     rw [decide_eq_true (show (t.Ops.length : Int) ≤ 8 by omega), decide_eq_true (FewT.mk h hn hp h2)]
    ·refine Ok.ret (Ok.ret ?_)
     rw [decide_eq_false (show ¬ (t.Ops.length : Int) ≤ 8 by omega), decide_eq_false fun hf : FewT t => h2 hf.o]
   ·simp only [h1, decide_false, Bool.false_eq_true, if_false]
    refine Ok.ret (Ok.ret ?_)
    rw [decide_eq_false fun hf : FewT t => by have := hf.p; omega]
  ·simp only [show ¬ (0 : Int) < (t.Vars.length : Int) by omega, decide_false, Bool.false_eq_true, if_false]
   refine Ok.ret ?_
   rw [decide_eq_false fun hf : FewT t => hn hf.n]
 ·simp only [h, decide_false, Bool.false_eq_true, if_false]
  refine Ok.ret ?_
  rw [decide_eq_false fun hf : FewT t => h hf.s]
end Go.Pw
/- -/
set_option maxHeartbeats 8000000
namespace Go.Pw
theorem Qf7 : ∀ {C M : List Int}, C.Nodup → (∀ x ∈ C, x ∈ M) → M.length ≤ C.length → M.Perm C
 | [], M, _, _, h => by
  have : M = [] := List.eq_nil_of_length_eq_zero (by simpa using h)
  subst this
  exact .refl _
 | c :: C, M, hn, hs, hl => by
  obtain ⟨h1, h2⟩ := List.nodup_cons.1 hn
  have hm := hs c (by simp)
  have h3 := Qf7 (C := C) (M := M.erase c) h2 (fun x hx => (List.mem_erase_of_ne (fun e => h1 (by rw [← e]; exact hx))).2 (hs x (by simp [hx]))) (by rw [List.length_erase_of_mem hm]; simp at hl; omega)
  exact (List.perm_cons_erase hm).trans (h3.cons c)
theorem QhQ : ∀ {l : List Int} {a : Int}, l.Nodup → a ∈ l → l.count a = 1
 | [], _, _, h => by simp at h
 | b :: l, a, hn, h => by
  obtain ⟨h1, h2⟩ := List.nodup_cons.1 hn
  by_cases e : a = b
  ·subst e
   rw [List.count_cons_self, List.count_eq_zero.2 h1]
  ·have hm : a ∈ l := by
    rcases List.mem_cons.1 h with h | h
    ·exact absurd h e
    ·exact h
   rw [List.count_cons_of_ne (Ne.symm e), QhQ h2 hm]
theorem QmC (order : List Int) (hl : order.length < 9223372036854775807) (v : Int) : forS (fun i101 => fun (many100 : Int) => (Qz order (i101 : Int)).bind fun x100 =>
  (if decide (v = x100) then (some (IntKind.i64.wrap (many100 + 1))) else (some many100)).bind (fun (many101 : Int) => some many101)) order.length 0 0 = some ((order.count v : Nat) : Int) := by
 refine Ok.eq (QO (fun j (m : Int) => m = (((order.take j).count v : Nat) : Int)) (by simp) ?_ ?_)
 ·rintro j m hj rfl
  obtain ⟨x, hx⟩ := Qy hj
  simp only [Qn, hx, Option.bind_some]
  have hc : (order.take j).count v ≤ j := Nat.le_trans List.count_le_length (by rw [List.length_take]; omega)
  rw [QG hx, List.count_append]
  by_cases e : v = x
  ·subst e
   simp only [decide_true, if_true, Option.bind_some]
   rw [QA (by omega) (by omega)]
   exact Ok.ret (by simp)
  ·simp only [e, decide_false, Bool.false_eq_true, if_false, Option.bind_some]
   exact Ok.ret (by rw [List.count_singleton, if_neg (by simpa using Ne.symm e)]; simp)
 ·rintro m rfl
  rw [List.take_length]
open Classical in
theorem Qmx (order : List Int) (n : Nat) (hn : n < 9223372036854775807) : YZ order (n : Int) = some (decide (order.Perm (idL n))) := by
 unfold YZ
 by_cases hl : (order.length : Int) = (n : Int)
 ·have hl' : order.length = n := by omega
  have hn' : (n : Int) ≤ 9223372036854775807 := by omega
  simp only [hl, hn', decide_true, Bool.not_true, Bool.false_eq_true, if_false, must, if_true, Option.bind_some, Int.toNat_natCast]
  rw [YF (r := false) (p := fun i => decide (order.count (i : Int) = 1))]
  ·by_cases hp : order.Perm (idL n)
   ·rw [if_pos, decide_eq_true hp]
    rw [List.all_eq_true]
    intro i hi
    simp only [List.mem_range] at hi
    simp only [decide_eq_true_eq]
    rw [hp.count_eq]
    exact QhQ (Qfk n) (QfY.2 ⟨by omega, by omega⟩)
   ·rw [if_neg, decide_eq_false hp]
    intro h
    apply hp
    refine Qf7 (Qfk n) (fun x hx => ?_) (by rw [Qdy]; omega)
    obtain ⟨h0, h1⟩ := QfY.1 hx
    have := List.all_eq_true.1 h x.toNat (by simp; omega)
    simp only [decide_eq_true_eq] at this
    rw [Int.toNat_of_nonneg h0] at this
    exact List.count_pos_iff.1 (by omega)
  ·intro j hj
   rw [QmC order (by omega)]
   simp only [Option.bind_some]
   by_cases h : order.count (j : Int) = 1
   ·simp [h]
   ·have h' : ¬ ((order.count (j : Int) : Nat) : Int) = 1 := by omega
    simp [h, h']
 ·simp only [hl, decide_false, Bool.not_false, if_true]
  rw [decide_eq_false]
  intro hp
  apply hl
  have := hp.length_eq
  rw [Qdy] at this
  omega
theorem Qom (n : Int) : QN n 1 4096 = max 1 (min n 4096) := by
 have h := Qbc n 1 4096
 unfold Qas at h
 exact (Zu h).symm
theorem FewT.many {t : Task} (h : FewT t) : Y6 t.Vars 100 = some (Ke t.Vars) := by
 have hp := h.p
 refine Ok.eq ((Qgv h.s.g.v (most := 100) (by omega) (by omega)).mono ?_)
 intro m hm
 omega
theorem FewT.pos {t : Task} (h : FewT t) : 1 ≤ Ke t.Vars := Qca fun n hn => (h.s.g.v n hn).1
end Go.Pw
/- -/
set_option maxHeartbeats 8000000
namespace Go.Pw
theorem Qfl {S : Type} (B : Nat → S → Option S) : ∀ (k i : Nat) (s : S), forS B (k + 1) i s = (forS B k i s).bind (B (i + k))
 | 0, i, s => by
  show (B i s).bind (fun s => some s) = (some s).bind (B (i + 0))
  simp
 | k + 1, i, s => by
  show (B i s).bind (fun s => forS B (k + 1) (i + 1) s) = ((B i s).bind fun s => forS B k (i + 1) s).bind (B (i + (k + 1)))
  cases B i s with
  | none => rfl
  | some s' =>
   simp only [Option.bind_some]
   rw [Qfl B k (i + 1) s', show i + 1 + k = i + (k + 1) by omega]
def RootOf (n r : Int) : Prop := 1 ≤ r ∧ r * r ≤ n ∧ n < (r + 1) * (r + 1)
theorem RootOf.uniq {n r q : Int} (h : RootOf n r) (k : RootOf n q) : r = q := by
 have key : ∀ {r q : Int}, RootOf n r → RootOf n q → ¬ r < q := by
  intro r q h k hlt
  have : (r + 1) * (r + 1) ≤ q * q := Int.mul_le_mul (by omega) (by omega) (by have := h.1; omega) (by have := k.1; omega)
  have := h.2.2; have := k.2.1; omega
 have := key h k; have := key k h; omega
theorem QhB {n r : Int} (h1 : n ≤ 4096) (a : 0 ≤ r) (b : r ≤ 64) : IntKind.i64.wrap (IntKind.i64.wrap (r + 1) * IntKind.i64.wrap (r + 1)) = (r + 1) * (r + 1) ∧ IntKind.i64.wrap (r + 1) = r + 1 ∧ ((r + 1) * (r + 1) ≤ n → r + 1 ≤ 64) := by
 have hb : (r + 1) * (r + 1) ≤ 65 * 65 := Int.mul_le_mul (by omega) (by omega) (by omega) (by omega)
 have hp : 0 ≤ (r + 1) * (r + 1) := Int.mul_nonneg (by omega) (by omega)
 have w1 : IntKind.i64.wrap (r + 1) = r + 1 := QA (by omega) (by omega)
 refine ⟨by rw [w1, QA (by omega) (by omega)], w1, fun hl => ?_⟩
 rcases Int.lt_or_le (r + 1) 65 with h | h
 ·omega
 ·have : 65 * 65 ≤ (r + 1) * (r + 1) := Int.mul_le_mul h h (by omega) (by omega)
  omega
theorem QiQ {n : Int} (h0 : 1 ≤ n) (h1 : n ≤ 4096) : Ok (JJ n) (RootOf n) := by
 unfold JJ
 refine K3 (fun r => 0 ≤ r ∧ r ≤ 64 ∧ r * r ≤ n) (RootOf n) (fun _ => False) (fun r => (64 - r).toNat) ⟨by omega, by omega, by omega⟩ ?_ (fun _ h => h.elim) (fun s h => Ok.ret h)
 rintro r ⟨a, b, c⟩
 obtain ⟨w1, w2, w3⟩ := QhB h1 a b
 rw [w1, w2]
 by_cases hl : (r + 1) * (r + 1) ≤ n
 ·have hr := w3 hl
  simp only [hl, decide_true, if_true]
  exact ⟨_, Z, fun s' e => by cases e; exact ⟨⟨by omega, by omega, hl⟩, by omega⟩, fun s' e => (by cases e), fun r e => (by cases e)⟩
 ·simp only [hl, decide_false, Bool.false_eq_true, if_false]
  refine ⟨_, Z, fun s' e => (by cases e), fun s' e => ?_, fun r e => (by cases e)⟩
  cases e
  refine ⟨?_, c, by omega⟩
  rcases Int.lt_or_le 0 r with h | h
  ·omega
  ·have : r = 0 := by omega
   subst this
   omega
theorem QjX {n : Int} (h0 : 1 ≤ n) (h1 : n ≤ 4096) {β : Type} {k : Int → Option β} {R : β → Prop} (hk : ∀ r, RootOf n r → Ok (k r) R) :
  Ok (ctl (J8 (R := β) (fun (r_100 : Int) => if decide ((IntKind.i64.wrap ((IntKind.i64.wrap (r_100 + 1)) * (IntKind.i64.wrap (r_100 + 1)))) ≤ n) then (some (Ctl.next (IntKind.i64.wrap (r_100 + 1))))
 else (some (Ctl.brk r_100))) 1) (fun r => some r) k) R := by
 refine K3 (fun r => 1 ≤ r ∧ r ≤ 64 ∧ r * r ≤ n) (RootOf n) (fun _ => False) (fun r => (64 - r).toNat) ⟨by omega, by omega, by omega⟩ ?_ (fun _ h => h.elim) (fun s h => hk s h)
 rintro r ⟨a, b, c⟩
 obtain ⟨w1, w2, w3⟩ := QhB h1 (show 0 ≤ r by omega) b
 rw [w1, w2]
 by_cases hl : (r + 1) * (r + 1) ≤ n
 ·have hr := w3 hl
  simp only [hl, decide_true, if_true]
  exact ⟨_, Z, fun s' e => by cases e; exact ⟨⟨by omega, by omega, hl⟩, by omega⟩, fun s' e => (by cases e), fun r e => (by cases e)⟩
 ·simp only [hl, decide_false, Bool.false_eq_true, if_false]
  refine ⟨_, Z, fun s' e => (by cases e), fun s' e => ?_, fun r e => (by cases e)⟩
  cases e
  exact ⟨a, c, by omega⟩
abbrev RSt := Int × Int × List Int × List Edge × List Bool × List Int × Bool
noncomputable def QlC (t : Task) (order : List Int) (M root : Int) (all : List (List Int)) : Nat → RSt → Option RSt := (fun i100 => un7 fun (z100 : Int) (z101 : Int) (z102 : (List Int)) (z103 : (List Edge)) (z104 : (List Bool)) (z105 : (List Int)) (z106 : Bool) => (Qz order (i100 : Int)).bind fun x100 =>
 (KW t x100).bind <| fun (y101 : System) =>
 (if decide (0 < (i100 : Int)) then ((if decide (M < (IntKind.i64.wrap (z100 * y101.States))) then ((if decide (z100 ≤ root) then ((must (!decide (z100 = 0))).bind fun u100 =>
 some (z100, IntKind.i64.wrap (M.tdiv z100)))
 else ((if decide (y101.States ≤ root) then ((must (!decide (y101.States = 0))).bind fun u101 =>
 some (IntKind.i64.wrap (M.tdiv y101.States), y101.States))
 else (some (root, root))).bind (QM fun (keep100 : Int) (limit : Int) => some (keep100, limit)))).bind (QM fun (keep101 : Int) (limit101 : Int) => some (keep101, limit101)))
 else (some (z100, y101.States))).bind (QM fun (keep102 : Int) (limit102 : Int) => some (keep102, limit102)))
 else (some (M, M))).bind (QM fun (keep103 : Int) (limit103 : Int) => (JQ y101 limit103).bind <| un3 fun (y102 : (List Int)) (y103 : Bool) (y104 : System) =>
 (if z106 then (some y103)
 else (some false)).bind (fun (z107 : Bool) => if decide ((i100 : Int) = 0) then ((forS (fun i101 => fun (l100 : (List Int)) => (Qz all (i101 : Int)).bind fun x101 =>
 (Qz x101 x100).bind fun x102 =>
 (Qz y102 x102).bind fun x103 =>
 (app 8 l100 [x103]).bind fun l101 =>
 some l101) (all.length) 0 z105).bind (fun (l100 : (List Int)) => some (y104.States, y104.Init, y104.Costs, y104.Edges, y104.Goals, l100, z107)))
 else ((JQ (⟨z100, z101, z102, z103, z104⟩ : System) keep103).bind <| un3 fun (y105 : (List Int)) (y106 : Bool) (y107 : System) =>
 (if z107 then (some y106)
 else (some false)).bind (fun (z108 : Bool) => (KF y107 y104).bind <| QM fun (y108 : Int) (y109 : System) =>
 (forS (fun i102 => fun (l102 : (List Int)) => (Qz all (i102 : Int)).bind fun x104 =>
 (Qz l102 (i102 : Int)).bind fun x105 =>
 (Qz y105 x105).bind fun x106 =>
 (Qz x104 x100).bind fun x107 =>
 (Qz y102 x107).bind fun x108 =>
 (JG l102 (i102 : Int) (IntKind.i64.wrap ((IntKind.i64.wrap (x106 * y104.States)) + x108))).bind fun l103 =>
 some l103) (all.length) 0 z105).bind (fun (l102 : (List Int)) => some (y109.States, y109.Init, y109.Costs, y109.Edges, y109.Goals, l102, z108)))))))
def rst (x : System) (all : List (List Int)) (F : List Int → Nat) (ex : Bool) : RSt := (x.States, x.Init, x.Costs, x.Edges, x.Goals, all.map (fun s => (F s : Int)), ex)
theorem Qmm {t : Task} {all : List (List Int)} (ha : ∀ s ∈ all, StateOK t.Vars s) (hl : all.length ≤ 4096) {v : Int} (h0 : 0 ≤ v) (h1 : v < (t.Vars.length : Int)) {c : List Int} {G : List Int → Nat} (hg : ∀ s, StateOK t.Vars s → Qz c (Qes v s : Int) = some (G s : Int)) :
  forS (fun i101 => fun (l100 : (List Int)) => (Qz all (i101 : Int)).bind fun x101 =>
 (Qz x101 v).bind fun x102 =>
 (Qz c x102).bind fun x103 =>
 (app 8 l100 [x103]).bind fun l101 =>
 some l101) (all.length) 0 [] = some (all.map fun s => (G s : Int)) := by
 rw [Yr all (fun s => [(G s : Int)]) (s0 := [])]
 ·rw [List.nil_append, Kp]
 ·intro i s l hi hs
  have hlt := (List.getElem?_eq_some_iff.1 hi).1
  have hok := ha s (List.mem_of_getElem? hi)
  simp only [Qn, hi, Option.bind_some, QfX hok h0 h1, hg s hok]
  rw [Jh (by rw [hs, List.nil_append, Kp, List.length_map, List.length_take]; simp; omega)]
  rfl
theorem QmW {t : Task} {all : List (List Int)} (ha : ∀ s ∈ all, StateOK t.Vars s) {v : Int} (h0 : 0 ≤ v) (h1 : v < (t.Vars.length : Int)) {c1 c2 : List Int} {F G1 G2 : List Int → Nat} {y : System} (hy0 : 0 ≤ y.States) (hy : y.States ≤ 100)
  (hg1 : ∀ s, StateOK t.Vars s → Qz c1 (F s : Int) = some (G1 s : Int)) (hg2 : ∀ s, StateOK t.Vars s → Qz c2 (Qes v s : Int) = some (G2 s : Int)) (hb1 : ∀ s, StateOK t.Vars s → G1 s ≤ 100) (hb2 : ∀ s, StateOK t.Vars s → G2 s ≤ 100) :
  forS (fun i102 => fun (l102 : (List Int)) => (Qz all (i102 : Int)).bind fun x104 =>
 (Qz l102 (i102 : Int)).bind fun x105 =>
 (Qz c1 x105).bind fun x106 =>
 (Qz x104 v).bind fun x107 =>
 (Qz c2 x107).bind fun x108 =>
 (JG l102 (i102 : Int) (IntKind.i64.wrap ((IntKind.i64.wrap (x106 * y.States)) + x108))).bind fun l103 =>
 some l103) (all.length) 0 (all.map fun s => (F s : Int)) = some (all.map fun s => ((G1 s * y.States.toNat + G2 s : Nat) : Int)) := by
 refine Ok.eq (QO (fun m (l : List Int) => l.length = all.length ∧ (∀ j, j < m → l[j]? = (all.map fun s => ((G1 s * y.States.toNat + G2 s : Nat) : Int))[j]?) ∧ ∀ j, m ≤ j → l[j]? = (all.map fun s => (F s : Int))[j]?) ⟨by simp, fun j h => absurd h (Nat.not_lt_zero _), fun j _ => rfl⟩ ?_ ?_)
 ·rintro m l hm ⟨k1, k2, k3⟩
  obtain ⟨s, hs⟩ := Qy hm
  have hok := ha s (List.mem_of_getElem? hs)
  have hlm : l[m]? = some (F s : Int) := by rw [k3 m (Nat.le_refl _), List.getElem?_map, hs]; rfl
  have a1 := hb1 s hok
  have a2 := hb2 s hok
  have hb : (G1 s : Int) * y.States ≤ 100 * 100 := Int.mul_le_mul (by omega) hy hy0 (by omega)
  have hb0 : 0 ≤ (G1 s : Int) * y.States := Int.mul_nonneg (by omega) hy0
  simp only [Qn, hs, hlm, Option.bind_some, hg1 s hok, QfX hok h0 h1, hg2 s hok]
  rw [QA (show -9223372036854775808 ≤ (G1 s : Int) * y.States by omega) (by omega), QA (by omega) (by omega), QX (by omega)]
  have e : (G1 s : Int) * y.States + (G2 s : Int) = ((G1 s * y.States.toNat + G2 s : Nat) : Int) := by
   have e : y.States = (y.States.toNat : Int) := by omega
   rw [e]
   simp
  rw [e]
  refine Ok.ret ⟨by simp [k1], fun j hj => ?_, fun j hj => by rw [List.getElem?_set_ne (by omega)]; exact k3 j (by omega)⟩
  by_cases ej : j = m
  ·subst ej
   rw [List.getElem?_set_self (by omega), List.getElem?_map, hs]; rfl
  ·rw [List.getElem?_set_ne (Ne.symm ej)]; exact k2 j (by omega)
 ·rintro l ⟨k1, k2, k3⟩
  apply List.ext_getElem?
  intro j
  by_cases hj : j < all.length
  ·exact k2 j hj
  ·rw [List.getElem?_eq_none (by rw [k1]; omega), List.getElem?_eq_none (by rw [List.length_map]; omega)]
theorem Qhv {t : Task} (ht : SmallT t) (hp : Ke t.Vars ≤ 100) (h8 : t.Ops.length ≤ 8) {order : List Int} (ho : OrdOK t order) (hne : 0 < order.length) {most : Int} (hm : 1 ≤ most) (hm2 : most ≤ 4096) (vars : List Int) {rt : Int} (hrt : RootOf most rt) :
  Ok (QB ⟨vars, [], [], true⟩ t order most) fun r => r.1 = none ∧ ∃ F, CRes t order most r.2.2.1 r.2.2.2 r.2.1 F ∧ forS (QlC t order most rt (Jq t.Vars)) order.length 0 (0, 0, [], [], [], [], true) = some (rst r.2.1 (Jq t.Vars) F r.2.2.2) := by
 have hn := Qd5 ht.g
 have hv1 : ∀ n ∈ t.Vars, 1 ≤ n := fun n hn => (ht.g.v n hn).1
 have hall : ∀ s ∈ Jq t.Vars, StateOK t.Vars s := fun s hs => Qbk.1 hs
 have hlen := Qar (vars := t.Vars) fun x hx => by have := ht.g.v x hx; omega
 have hlen2 : (Jq t.Vars).length ≤ 100 := by omega
 generalize Jq t.Vars = all at *
 unfold QB
 have hz : ¬ (order.length : Int) = 0 := by omega
 simp only [hz, decide_false, Bool.false_eq_true, if_false]
 obtain ⟨root, hroot, hR⟩ := QiQ hm hm2
 obtain rfl := hR.uniq hrt
 obtain ⟨hr1, hr2, _⟩ := hR
 refine Ok.step hroot ?_
 refine Ok.ctl (fun i st => (i = 0 → st.1 = [] ∧ st.2.1 = true) ∧ (0 < i → ∃ F, CRes t (order.take i) most st.1 st.2.1 (Qfy st) F ∧ forS (QlC t order most root all) i 0 (0, 0, [], [], [], [], true) = some (rst (Qfy st) all F st.2.1))) (fun _ => False) ⟨fun _ => ⟨Z, Z⟩, fun h => absurd h (Nat.lt_irrefl _)⟩ ?_ (fun _ h => h.elim) ?_
 ·rintro i ⟨zs, ex, S, I, C, E, Gl⟩ hi ⟨hI0, hI1⟩
  simp only at hI0 hI1
  obtain ⟨v, hv⟩ := Qy hi
  have hvm := ho.r v (List.mem_of_getElem? hv)
  have h0 := hvm.1
  have h1 := hvm.2
  have hd := Kf ht.g.v h0 h1
  have htk := QG hv
  have hnd := Qg7 ho.d hv
  have hvL : v ∉ order.take i := by
   intro h
   have := (List.nodup_append.1 hnd).2.2 v h
   simp at this
  have hLr : ∀ w ∈ order.take i, 0 ≤ w ∧ w < (t.Vars.length : Int) := fun w hw => ho.r w (List.mem_of_mem_take hw)
  simp only [un7, Qn, hv, Option.bind_some]
  obtain ⟨⟨e, y⟩, hat, ha1, _⟩ := QhS (t := t) (v := v) hn
  obtain ⟨he, hy⟩ | ⟨_, _, hno⟩ := ha1 ⟨ht.g, h0, h1⟩
  rotate_left
  ·exact absurd (ht.room h0 h1) hno
  simp only at he hy
  subst he
  obtain ⟨y', hat', hy'⟩ := Qiw ht h0 h1
  obtain rfl := hy'.uniq hy
  have hca := Qd9 ht h0 h1 hy
  have hys := hy.s
  have hyc : y'.Costs.length = t.Ops.length := by rw [hy.c, List.length_map]
  refine Ok.step hat ?_
  simp only [QM, Option.isSome_none, Bool.false_eq_true, if_false]
  by_cases hi0 : i = 0
  ·subst hi0
   obtain ⟨rfl, rfl⟩ := hI0 rfl
   simp only [Int.natCast_zero, decide_true, if_true]
   obtain ⟨⟨c, e, z, ex'⟩, hr, h2, G, hG⟩ := QbC hca.1 (by omega) (by omega) ⟨vars, [], [], true⟩ most
   simp only at h2 hG
   subst h2
   obtain ⟨c', z', e', hr', hrr⟩ := Qff hca.1.v (by omega) (by omega) ⟨vars, [], [], true⟩ most
   rw [hr'] at hr
   simp only [Option.some.injEq, Prod.mk.injEq, true_and] at hr
   obtain ⟨rfl, rfl, rfl⟩ := hr
   refine Ok.step hr' ?_
   simp only [un4, Option.isSome_none, Bool.false_eq_true, if_false]
   rw [Jh (by simp)]
   refine Ok.ret ⟨fun h => by omega, fun _ => ⟨G, ?_, ?_⟩⟩
   ·have := Qf3 h0 h1 hy hp ht hm rfl hG
    rw [htk]
    exact this
   ·have hto := Qmm hall (by omega) h0 h1 hG.g
    rw [Qfl]
    show QlC t order most root all (0 + 0) (0, 0, [], [], [], [], true) = _
    unfold QlC
    have hv0 : Qz order ((0 : Nat) : Int) = some v := by rw [Qn]; exact hv
    simp only [Int.natCast_zero] at hv0
    simp only [un7, Nat.add_zero, Int.natCast_zero, hv0, hat', Option.bind_some, Int.lt_irrefl, decide_false, decide_true, Bool.false_eq_true, if_false, if_true, QM, hrr, un3]
    rw [hto]
    rfl
  ·simp only [show ¬ (i : Int) = 0 by omega, decide_false, Bool.false_eq_true, if_false]
   obtain ⟨F, hF, hRf⟩ := hI1 (by omega)
   have hX := hF.i.v.s1
   have hLne : order.take i ≠ [] := by
    intro h
    have := congrArg List.length h
    rw [List.length_take, Nat.min_eq_left (by omega)] at this
    simp only [List.length_nil] at this
    omega
   have hpL : YS t (order.take i) ≤ Ke t.Vars := Qdw ht.g.v ((List.nodup_append.1 hnd).1) hLr
   have hXn := hF.i.n
   have hXc : (Qfy (zs, ex, S, I, C, E, Gl)).Costs.length = t.Ops.length := by rw [hF.i.c, List.length_map]
   obtain ⟨⟨left, right⟩, hcap, l1, r1, hlr, hlx⟩ := caps (X := S) (y := y'.States) (most := most) (root := root) hX (show S ≤ 100 by have : S ≤ YS t (order.take i) := hXn; omega) (by omega) (by omega) hm hm2 hr1 hr2
   refine Ok.step hcap ?_
   simp only at l1 r1 hlr hlx
   simp only [QM]
   obtain ⟨⟨c1, e, x', ex1⟩, hs1, h2, G1, hG1⟩ := QbC hF.i (show S ≤ 100 by have : S ≤ YS t (order.take i) := hXn; omega) (by omega) ⟨vars, zs, [], ex⟩ left
   simp only at h2 hG1
   subst h2
   obtain ⟨c1', x1', e1', hs1', hrr1⟩ := Qff hF.i.v (show S ≤ 100 by have : S ≤ YS t (order.take i) := hXn; omega) (by omega) ⟨vars, zs, [], ex⟩ left
   rw [hs1'] at hs1
   simp only [Option.some.injEq, Prod.mk.injEq, true_and] at hs1
   obtain ⟨rfl, rfl, rfl⟩ := hs1
   refine Ok.step hs1' ?_
   simp only [un4, Option.isSome_none, Bool.false_eq_true, if_false]
   obtain ⟨⟨c2, e, z', ex2⟩, hs2, h2, G2, hG2⟩ := QbC hca.1 (by omega) (by omega) ⟨vars, zs, [], (ex && e1')⟩ right
   simp only at h2 hG2
   subst h2
   obtain ⟨c2', x2', e2', hs2', hrr2⟩ := Qff hca.1.v (by omega) (by omega) ⟨vars, zs, [], (ex && e1')⟩ right
   rw [hs2'] at hs2
   simp only [Option.some.injEq, Prod.mk.injEq, true_and] at hs2
   obtain ⟨rfl, rfl, rfl⟩ := hs2
   refine Ok.step hs2' ?_
   simp only [un4, Option.isSome_none, Bool.false_eq_true, if_false]
   have hzl := hF.n
   have hol : (order.take i).length ≤ t.Vars.length := Qac ((List.nodup_append.1 hnd).1) hLr
   have hnv := ht.nv
   rw [Jh (by simp; omega)]
   simp only [Option.bind_some]
   have hg1 := hG1.s
   have hg2 := hG2.s
   have q1 := hG1.i.v.s1
   have q2 := hG2.i.v.s1
   have hsx : (Qfy (zs, ex, S, I, C, E, Gl)).States = S := rfl
   have hss : x1'.States * x2'.States ≤ 4096 := by
    have h1 : x1'.States ≤ 100 := by omega
    have : x1'.States * x2'.States ≤ left * right := Int.mul_le_mul (by have := hG1.m; omega) (by have := hG2.m; omega) (by omega) (by omega)
    omega
   have hcc : x1'.Costs = x2'.Costs := by rw [hG1.i.c, hG2.i.c]
   have hxl : x1'.Costs.length = t.Ops.length := by rw [hG1.i.c, List.length_map]
   have hrows := fun l hl => Qk6 ht hp hLr hnd h0 h1 hG1.i hG2.i (l := l) hl
   refine Ok.bind (Ok.mono (Qf6 hG1.i.v hG2.i.v hcc hss (C := 8192) hrows (by omega)) ?_)
   rintro ⟨e, z⟩ ⟨h2, hz, hzE⟩
   simp only at h2 hz hzE
   subst h2
   obtain ⟨⟨e, zr⟩, hpr, h2, hzr⟩ := QgZ hG1.i.v hG2.i.v hcc hss (C := 8192) hrows (by omega)
   simp only at h2 hzr
   subst h2
   obtain rfl := hz.uniq hzr
   simp only [QM, Option.isSome_none, Bool.false_eq_true, if_false]
   have := QgA hLne hLr hvL hnd h0 h1 hp ht hF hy l1 r1 hlr hlx hG1 hG2 hz hss (by omega)
   rw [← htk] at this
   refine Ok.ret ⟨fun h => by omega, fun _ => ⟨_, this, ?_⟩⟩
   have b1 : ∀ s, StateOK t.Vars s → G1 s ≤ 100 := fun s hs => by have := hG1.i.r s hs; omega
   have b2 : ∀ s, StateOK t.Vars s → G2 s ≤ 100 := fun s hs => by have := hG2.i.r s hs; omega
   have hto := QmW hall h0 h1 (y := x2') (by omega) (by omega) hG1.g hG2.g b1 b2
   rw [Qfl, hRf]
   simp only [Option.bind_some, rst, Qfy]
   unfold QlC
   have hv0 : Qz order (i : Int) = some v := by rw [Qn]; exact hv
   simp only [un7, Nat.zero_add, hv0, hat', Option.bind_some, show (0 : Int) < (i : Int) by omega, show ¬ (i : Int) = 0 by omega, decide_false, decide_true, Bool.false_eq_true, if_false, if_true]
   rw [hcap]
   have hrr1 : JQ ⟨S, I, C, E, Gl⟩ left = some (c1', e1', x1') := hrr1
   simp only [Option.bind_some, QM, un3, hrr1, hrr2, hpr]
   have hex : ∀ a b c : Bool, (if (if a = true then some b else some false) = some true then c else false) = (a && b && c) := by decide
   cases ex <;> cases e1' <;> cases e2' <;> simp only [if_true, Bool.false_eq_true, if_false, Option.bind_some, Bool.and_true, Bool.and_false, Bool.true_and, Bool.false_and, hto]
 ·rintro ⟨zs, ex, S, I, C, E, Gl⟩ ⟨_, hI1⟩
  simp only at hI1
  obtain ⟨F, hF, hRf⟩ := hI1 hne
  rw [List.take_length] at hF
  exact Ok.ret ⟨Z, F, hF, hRf⟩
end Go.Pw
/- -/
set_option maxHeartbeats 8000000
namespace Go.Pw
theorem Ql1 {t : Task} (ht : SmallT t) (hp : Ke t.Vars ≤ 100) (h8 : t.Ops.length ≤ 8) (hn : 0 < t.Vars.length) {order : List Int} (hl : order.length * 8 ≤ 140737488351232) (most : Int) (hperm : order.Perm (idL t.Vars.length)) :
  ∃ a x F, QR t order most = some (some a, none) ∧ BRes t order most a x F ∧ Yt t order most = some ⟨x, (Jq t.Vars).map (fun s => (F s : Int)), a.exact⟩ := by
 have hnm := Qd5 ht.g
 obtain ⟨e, he, hg⟩ := Qg1 t hnm
 have := hg.2 ht.g
 subst this
 obtain ⟨k, hk1, hk2⟩ := Qh9 (l := order) (n := t.Vars.length) hl
 have hnv := ht.nv
 have hlen : order.length = t.Vars.length := by rw [hperm.length_eq, Qdy]
 have hcl : Qx t.Vars = some t.Vars := by
  unfold Qx
  rw [Jh (by simp; omega)]
  rfl
 have m1 : 1 ≤ max 1 (min most 4096) := by omega
 have m2 : max 1 (min most 4096) ≤ 4096 := by omega
 obtain ⟨rt, _, hrt⟩ := QiQ m1 m2
 obtain ⟨⟨e, x, zs, ex⟩, hr, h2, F, hF, hRf⟩ := Qhv ht hp h8 (QiY hperm) (by omega) m1 m2 t.Vars hrt
 simp only at h2 hF hRf
 subst h2
 obtain ⟨⟨d, e⟩, hd, h3, h4⟩ := QkG hF.i.v
 simp only at h3 h4
 subst h3
 refine ⟨⟨t.Vars, zs, d, ex⟩, x, F, ?_, ⟨Z, hF, h4⟩, ?_⟩
 ·unfold QR
  rw [he, hk1, QfW (by omega)]
  simp only [Option.bind_some, Option.isSome_none, Bool.false_eq_true, if_false, Qmg, hk2.2 hperm, decide_true, Bool.not_true]
  rw [hcl]
  simp only [Option.bind_some]
  rw [hr]
  simp only [Option.bind_some, un4, Option.isSome_none, Bool.false_eq_true, if_false]
  rw [hd]
  rfl
 ·have hlen := Qar (vars := t.Vars) fun x hx => by have := ht.g.v x hx; omega
  refine Ok.eq ?_
  unfold Yt
  rw [Qom]
  refine QjX m1 m2 fun r hr => ?_
  obtain rfl := hr.uniq hrt
  rw [Qfe ht.g.v (by omega) (by omega)]
  simp only [Option.bind_some]
  exact Ok.step hRf (Ok.ret Z)
theorem Qko (t : Task) (order : List Int) (most : Int) (hl : order.length * 8 ≤ 140737488351232) : JW t order most = some true := by
 classical
 unfold JW
 rw [QmH, Qoi]
 simp only [Option.bind_some, Bool.not_true, Bool.false_eq_true, if_false]
 by_cases h : FewT t
 rotate_left
 ·simp [h]
 have hnv := h.s.g.nv
 have hpr := h.p
 have hpp := h.pos
 simp only [h, decide_true, Bool.not_true, Bool.false_eq_true, if_false, Qmx order t.Vars.length (by omega), Option.bind_some]
 by_cases hp : order.Perm (idL t.Vars.length)
 rotate_left
 ·simp [hp]
 have hlen := Qar (vars := t.Vars) fun x hx => by have := h.s.g.v x hx; omega
 obtain ⟨a, x, F, ha, hA, hR⟩ := Ql1 h.s h.p h.o h.n hl most hp
 have hv := hA.c.i.v
 obtain ⟨d', hd', h5⟩ := QjZ hv.ws
 have e1 := hA.d.uniq (QoS hv) h5
 subst e1
 simp only [hp, decide_true, Bool.not_true, Bool.false_eq_true, if_false, ha, hR, QM, QhT, Option.isNone_none, must, if_true, Option.bind_some, QkF, QlR, hA.size, beq_self_eq_true, hd']
 rw [Qfe h.s.g.v hnv (by omega)]
 simp only [Option.bind_some]
 refine Ok.eq (Ok.ctl (fun _ _ => True) (fun _ => False) trivial ?_ (fun _ h => h.elim) (fun _ _ => Ok.ret Z))
 intro i _ hi _
 obtain ⟨s, hs⟩ := Qy hi
 have hsok := Qbk.1 (List.mem_of_getElem? hs)
 obtain ⟨d, v1, v2⟩ := hA.val hsok
 have hto : ((Jq t.Vars).map (fun s => (F s : Int)))[i]? = some (F s : Int) := by rw [List.getElem?_map, hs]; rfl
 simp only [Qn, hs, hto, v1, v2, Option.bind_some, decide_true, Bool.not_true, Bool.false_eq_true, if_false]
 exact Ok.ret trivial
end Go.Pw
