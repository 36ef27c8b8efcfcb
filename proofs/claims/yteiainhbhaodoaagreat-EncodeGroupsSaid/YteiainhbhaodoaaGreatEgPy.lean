/- -/
import Derived.Test.YteiainhbhaodoaaGreatEgP
import Derived.Test.YteiainhbhaodoaaGreatBB
import Derived.KernelRfl
import Derived.Test.YteiainhbhaodoaaGreatEgV
set_option maxHeartbeats 8000000
set_option maxRecDepth 100000
set_option linter.unusedSimpArgs false
set_option linter.unusedVariables false
namespace Go.Pw
section
variable {α β S R : Type}
theorem Qw {x : Option α} {f : α → Option β} (a : α) (h : x = some a) {r : Option β} (k : f a = r) : x.bind f = r := by rw [h]; exact k
theorem Qby {B : Nat → S → Option S} {n i : Nat} {s : S} {r : Option S} (s1 : S) (h0 : B i s = some s1) (h : forS B n (i + 1) s1 = r) : forS B (n + 1) i s = r := by simp only [forS, h0, Option.bind_some]; exact h
theorem Qep {x : Option (Ctl S R)} {kr : R → Option β} {k : S → Option β} (s : S) (h : x = some (.next s)) {r : Option β} (e : k s = r) : ctl x kr k = r := by rw [h]; exact e
theorem Qgr {B : S → Option (Ctl S R)} {s : S} {kr : R → Option β} {k : S → Option β} (n : Nat) (c : Ctl S R) (h : Y8 B n s = some c) {r : Option β} (e : ctl (some c) kr k = r) : ctl (JA B s) kr k = r := by
 rw [Qcz h]; exact e
theorem Qkb {B : Nat → S → Option S} {s s1 : S} (h0 : B 0 s = some s1) : forS B 1 0 s = some s1 := by simp [forS, h0]
theorem Qh8 {B : Nat → S → Option S} {s s2 : S} (s1 : S) (h0 : B 0 s = some s1) (h1 : B 1 s1 = some s2) : forS B 2 0 s = some s2 := by simp [forS, h0, h1]
theorem QeG {B : Nat → S → Option (Ctl S R)} {s s1 : S} (h0 : B 0 s = some (.next s1)) : QW B 1 0 s = some (.next s1) := by simp [QW, h0]
theorem Qkc {B : Nat → S → Option (Ctl S R)} {s s2 : S} (s1 : S) (h0 : B 0 s = some (.next s1)) (h1 : B 1 s1 = some (.next s2)) : QW B 2 0 s = some (.next s2) := by simp [QW, h0, h1]
end
end Go.Pw
/- -/
set_option maxHeartbeats 4000000
namespace Go.Pw
theorem Qg0 (l : List Int) (n : Int) : ∀ (k i : Nat), i + k = l.length → QW (R := Bool) (fun i100 => fun (_ : Unit) => (Q9 l (i100 : Int)).bind fun x100 =>
  if decide (x100 = n) then (some (Ctl.ret true))
  else (some (Ctl.next ()))) k i () = some (if n ∈ l.drop i then .ret true else .next ())
 | 0, i, h => by rw [List.drop_of_length_le (by omega)]; rfl
 | k + 1, i, h => by
  have hi : i < l.length := by omega
  rw [QW, Qq, List.getElem?_eq_getElem hi, Option.bind_some, List.drop_eq_getElem_cons hi]
  by_cases hx : l[i] = n
  ·rw [if_pos (by simpa using hx), if_pos (by rw [List.mem_cons]; exact .inl hx.symm)]
  ·rw [if_neg (by simpa using hx)]
   have := Qg0 l n k (i + 1) (by omega)
   simp only [this]
   have e : n ∈ l[i] :: l.drop (i + 1) ↔ n ∈ l.drop (i + 1) := by
    rw [List.mem_cons]
    exact ⟨fun q => q.elim (fun q => absurd q.symm hx) id, .inr⟩
   by_cases hm : n ∈ l.drop (i + 1)
   ·rw [if_pos hm, if_pos (e.2 hm)]
   ·rw [if_neg hm, if_neg (fun q => hm (e.1 q))]
theorem Qck (l : List Int) (n : Int) : KI l n = some (decide (n ∈ l)) := by
 unfold KI
 rw [Qg0 l n l.length 0 (by omega), List.drop_zero]
 by_cases h : n ∈ l
 ·rw [if_pos h, decide_eq_true h]; rfl
 ·rw [if_neg h, decide_eq_false h]; rfl
theorem Qjn (l : List Int) (n : Int) : Qay l n = some (decide (n ∈ l)) := Qck l n
theorem Qb9 (a b : List Int) : K9 a b = some (decide (∀ x ∈ a, x ∈ b)) := by
 classical
 unfold K9
 rw [Ka (r := false) (fun x => x ∈ b)]
 ·by_cases h : ∀ x ∈ a, x ∈ b
  ·rw [if_pos h, decide_eq_true h]
  ·rw [if_neg h, decide_eq_false h]
 ·intro i x hx
  rw [Qq, hx, Option.bind_some, Qck, Option.bind_some]
  by_cases h : x ∈ b <;> simp [h]
/-! ### the reference's situation -/
def Qb5 (o : GOp) (d : List GChange) (b : Int) (g : List Int) : List Int := o.Pre.Pos ++ d.flatMap (fun c => c.When.Pos) ++ g.filter (fun x => decide (x = b))
def Qap (o : GOp) (d : List GChange) (b : Int) (g : List Int) : List Int := o.Pre.Neg ++ d.flatMap (fun c => c.When.Neg) ++ g.filter (fun x => !decide (x = b))
theorem Qf9 (d : List GChange) : ∀ (xs pre : List GChange) (l m : List Int), d = pre ++ xs → (l.length + (xs.flatMap (fun c => c.When.Pos)).length) ≤ 1000000 → (m.length + (xs.flatMap (fun c => c.When.Neg)).length) ≤ 1000000 →
  forS (fun i100 => QO fun (l102 : (List Int)) (l103 : (List Int)) => (Q9 d (i100 : Int)).bind fun x100 =>
   (app 8 l102 x100.When.Pos).bind fun l104 =>
   (app 8 l103 x100.When.Neg).bind fun l105 =>
   some (l104, l105)) xs.length pre.length (l, m) = some (l ++ xs.flatMap (fun c => c.When.Pos), m ++ xs.flatMap (fun c => c.When.Neg))
 | [], pre, l, m, _, _, _ => by simp [forS]
 | x :: xs, pre, l, m, e, h1, h2 => by
  rw [List.flatMap_cons, List.length_append] at h1 h2
  have hx : d[pre.length]? = some x := by rw [e, List.getElem?_append_right (Nat.le_refl _)]; simp
  rw [List.length_cons]
  refine Qby (l ++ x.When.Pos, m ++ x.When.Neg) ?_ ?_
  ·simp only [QO, Qq, hx, Option.bind_some]
   rw [Jq (by omega), Option.bind_some, Jq (by omega), Option.bind_some]
  have := Qf9 d xs (pre ++ [x]) (l ++ x.When.Pos) (m ++ x.When.Neg) (by simp [e]) (by rw [List.length_append]; omega) (by rw [List.length_append]; omega)
  rw [List.length_append, List.length_singleton] at this
  rw [this]
  simp [List.flatMap_cons]
theorem Qdi (g : List Int) (b : Int) : ∀ (xs pre : List Int) (l m : List Int), g = pre ++ xs → l.length + xs.length ≤ 2000000 → m.length + xs.length ≤ 2000000 →
  forS (fun i101 => QO fun (l106 : (List Int)) (l107 : (List Int)) => (Q9 g (i101 : Int)).bind fun x101 =>
   (if decide (x101 = b) then ((app 8 l106 [x101]).bind fun l108 =>
   some (l108, l107))
   else ((app 8 l107 [x101]).bind fun l109 =>
   some (l106, l109))).bind (QO fun (l110 : (List Int)) (l111 : (List Int)) => some (l110, l111))) xs.length pre.length (l, m) = some (l ++ xs.filter (fun x => decide (x = b)), m ++ xs.filter (fun x => !decide (x = b)))
 | [], pre, l, m, _, _, _ => by simp [forS]
 | x :: xs, pre, l, m, e, h1, h2 => by
  rw [List.length_cons] at h1 h2
  have hx : g[pre.length]? = some x := by rw [e, List.getElem?_append_right (Nat.le_refl _)]; simp
  rw [List.length_cons]
  by_cases hb : x = b
  ·refine Qby (l ++ [x], m) ?_ ?_
   ·simp only [QO, Qq, hx, Option.bind_some]
    rw [if_pos (by simpa using hb), Jq (by simp; omega)]
    rfl
   have := Qdi g b xs (pre ++ [x]) (l ++ [x]) m (by simp [e]) (by simp; omega) (by omega)
   rw [List.length_append, List.length_singleton] at this
   rw [this]
   simp [hb]
  ·refine Qby (l, m ++ [x]) ?_ ?_
   ·simp only [QO, Qq, hx, Option.bind_some]
    rw [if_neg (by simpa using hb), Jq (by simp; omega)]
    rfl
   have := Qdi g b xs (pre ++ [x]) l (m ++ [x]) (by simp [e]) (by omega) (by simp; omega)
   rw [List.length_append, List.length_singleton] at this
   rw [this]
   simp [hb]
end Go.Pw
/- -/
set_option maxHeartbeats 4000000
namespace Go.Pw
theorem QhE {o : GOp} {d : List GChange} {b : Int} {g : List Int} (h1 : o.Pre.Pos.length + (d.flatMap (fun c => c.When.Pos)).length ≤ 1000000) (h2 : o.Pre.Neg.length + (d.flatMap (fun c => c.When.Neg)).length ≤ 1000000) (h3 : g.length ≤ 1000000) :
  J6 o d b g = some (Qb5 o d b g, Qap o d b g, decide (∀ x ∈ Qb5 o d b g, x ∉ Qap o d b g)) := by
 classical
 unfold J6
 rw [Jq (by simp; omega), Option.bind_some, Jq (by simp; omega), Option.bind_some]
 have e1 := Qf9 d d [] o.Pre.Pos o.Pre.Neg rfl h1 h2
 have e2 := Qdi g b g [] (o.Pre.Pos ++ d.flatMap (fun c => c.When.Pos)) (o.Pre.Neg ++ d.flatMap (fun c => c.When.Neg)) rfl (by rw [List.length_append]; omega) (by rw [List.length_append]; omega)
 simp only [List.nil_append, List.length_nil] at e1 e2 ⊢
 rw [e1, Option.bind_some]
 simp only [QO]
 refine (congrArg (fun z => Option.bind z _) e2).trans ?_
 simp only [Option.bind_some, QO]
 rw [show o.Pre.Pos ++ d.flatMap (fun c => c.When.Pos) ++ g.filter (fun x => decide (x = b)) = Qb5 o d b g from rfl, show o.Pre.Neg ++ d.flatMap (fun c => c.When.Neg) ++ g.filter (fun x => !decide (x = b)) = Qap o d b g from rfl]
 rw [Ka (xs := Qb5 o d b g) (r := (Qb5 o d b g, Qap o d b g, false)) (fun x => x ∉ Qap o d b g)]
 ·by_cases h : ∀ x ∈ Qb5 o d b g, x ∉ Qap o d b g
  ·rw [if_pos h, decide_eq_true h]
  ·rw [if_neg h, decide_eq_false h]
 ·intro i x hx
  rw [Qq, hx, Option.bind_some, Qjn, Option.bind_some]
  by_cases h : x ∈ Qap o d b g
  ·simp [h]
  ·simp [h]
/-! ### keys put into a map -/
def Keys (m : Q0) (l : List Int) : Prop := ∀ a, Ki m a = if a ∈ l then some true else none
theorem Keys.put {m : Q0} {l : List Int} (h : Keys m l) (x : Int) : Keys (YQ m x true) (l ++ [x]) := fun a => by
 rw [QaU, h a]
 by_cases e : x = a
 ·subst e; simp
 ·have e2 : ¬ a = x := fun q => e q.symm
  rw [if_neg e]; simp [e2]
theorem QeT {m : Q0} {a : Int} : a ∈ m.map Prod.fst ↔ (Ki m a).isSome = true := by
 induction m with
 | nil => simp [Ki]
 | cons p r ih =>
  obtain ⟨k, u⟩ := p
  rw [List.map_cons, List.mem_cons]
  unfold Ki
  by_cases h : k = a
  ·rw [if_pos h]; simp [h]
  ·rw [if_neg h, ih]
   exact ⟨fun q => q.elim (fun q => absurd q.symm h) id, .inr⟩
theorem Qgx {m : Q0} (h : (m.map Prod.fst).Nodup) (s : Int) (v : Bool) : ((YQ m s v).map Prod.fst).Nodup := by
 induction m with
 | nil => simp [YQ]
 | cons p r ih =>
  obtain ⟨k, u⟩ := p
  rw [List.map_cons, List.nodup_cons] at h
  unfold YQ
  by_cases e : k = s
  ·rw [if_pos e, List.map_cons, List.nodup_cons]; exact h
  ·rw [if_neg e, List.map_cons, List.nodup_cons]
   refine ⟨fun q => h.1 ?_, ih h.2⟩
   rw [QeT, QaU] at q
   rw [if_neg (fun q => e q.symm)] at q
   exact QeT.2 q
theorem QeN (c : List Int) (hc : ∀ x ∈ c, KY x) : ∀ (xs pre : List Int) (m : Q0) (l : List Int), c = pre ++ xs → Keys m l → m.length + xs.length ≤ 1000000 →
  ∃ m', forS (fun i100 => fun (l100 : Q0) => (Q9 c (i100 : Int)).bind fun x100 => (JN l100 x100 true).bind fun m100 => some m100) xs.length pre.length m = some m' ∧ Keys m' (l ++ xs) ∧ m'.length ≤ m.length + xs.length ∧ ((m.map Prod.fst).Nodup → (m'.map Prod.fst).Nodup)
 | [], pre, m, l, _, h, _ => ⟨m, rfl, by rw [List.append_nil]; exact h, Nat.le_refl _, id⟩
 | x :: xs, pre, m, l, e, h, hl => by
  rw [List.length_cons] at hl
  have hx : c[pre.length]? = some x := by rw [e, List.getElem?_append_right (Nat.le_refl _)]; simp
  have hlen : (YQ m x true).length ≤ m.length + 1 := by rw [Qa2]; split <;> omega
  obtain ⟨m', h1, h2, h3, h4⟩ := QeN c hc xs (pre ++ [x]) (YQ m x true) (l ++ [x]) (by simp [e]) (h.put x) (by omega)
  refine ⟨m', ?_, by simpa using h2, by rw [List.length_cons]; omega, fun q => h4 (Qgx q x true)⟩
  rw [List.length_cons]
  refine Qby (YQ m x true) ?_ ?_
  ·simp only [Qq, hx, Option.bind_some]
   unfold JN
   rw [if_pos ⟨hc x (List.mem_of_getElem? hx), by unfold maxLen; omega⟩, Option.bind_some]
  ·rw [List.length_append, List.length_singleton] at h1
   exact h1
end Go.Pw
/- -/
set_option maxHeartbeats 4000000
namespace Go.Pw
theorem Qkd {c : Cond} {mp mn : Q0} {lp ln : List Int} (hp : ∀ x ∈ c.Pos, KY x) (hn : ∀ x ∈ c.Neg, KY x) (h1 : Keys mp lp) (h2 : Keys mn ln) (l1 : mp.length + c.Pos.length ≤ 1000000) (l2 : mn.length + c.Neg.length ≤ 1000000) :
  ∃ m n, Jc c ⟨mp, mn⟩ = some (m, n) ∧ Keys m (lp ++ c.Pos) ∧ Keys n (ln ++ c.Neg) ∧ m.length ≤ mp.length + c.Pos.length ∧ n.length ≤ mn.length + c.Neg.length ∧ ((mp.map Prod.fst).Nodup → (m.map Prod.fst).Nodup) := by
 obtain ⟨m, e1, k1, g1, n1⟩ := QeN c.Pos hp c.Pos [] mp lp rfl h1 l1
 obtain ⟨n, e2, k2, g2, _⟩ := QeN c.Neg hn c.Neg [] mn ln rfl h2 l2
 refine ⟨m, n, ?_, k1, k2, g1, g2, n1⟩
 unfold Jc
 refine Qw m e1 ?_
 exact Qw n e2 Z
theorem QhM {N : Q0} {L : List Int} (hN : Keys N L) {R : Type} {r : R} : ∀ (ord : List Int), (∀ x ∈ ord, KY x) →
  Qbl (R := R) (fun x102 => fun (_ : Unit) => (KP N x102).bind fun q100 => if q100 then (some (Ctl.ret r)) else (some (Ctl.next ()))) ord () = some (if ∀ x ∈ ord, x ∉ L then .next () else .ret r)
 | [], _ => by simp [Qbl]
 | x :: xs, h => by
  have hx := h x (List.mem_cons_self ..)
  rw [Qbl]
  unfold KP
  rw [if_pos hx, Option.bind_some, hN x]
  by_cases hL : x ∈ L
  ·rw [if_neg (c := ∀ y ∈ x :: xs, y ∉ L) (fun q => q x (List.mem_cons_self ..) hL), if_pos hL]; rfl
  ·rw [if_neg hL]
   simp only [Option.getD_none, Bool.false_eq_true, if_false]
   have ih := QhM hN (r := r) xs (fun y hy => h y (List.mem_cons_of_mem _ hy))
   unfold KP at ih
   refine ih.trans ?_
   by_cases q : ∀ x ∈ xs, x ∉ L
   ·rw [if_pos q, if_pos (fun y hy => (List.mem_cons.1 hy).elim (fun e => e ▸ hL) (q y))]
   ·rw [if_neg q, if_neg (fun z => q fun y hy => z y (List.mem_cons_of_mem _ hy))]
end Go.Pw
/- -/
set_option maxHeartbeats 4000000
namespace Go.Pw
def OkC (c : Cond) : Prop := (∀ x ∈ c.Pos, KY x) ∧ (∀ x ∈ c.Neg, KY x)
theorem Qfj (d : List GChange) (hd : ∀ c ∈ d, OkC c.When) : ∀ (xs pre : List GChange) (mp mn : Q0) (lp ln : List Int), d = pre ++ xs → Keys mp lp → Keys mn ln → mp.length + (xs.flatMap (fun c => c.When.Pos)).length ≤ 1000000 → mn.length + (xs.flatMap (fun c => c.When.Neg)).length ≤ 1000000 →
  ∃ m n, forS (fun i100 => QO fun (l102 : Q0) (l103 : Q0) => (Q9 d (i100 : Int)).bind fun x100 =>
   (Jc x100.When (⟨l102, l103⟩ : invariant_literals)).bind <| QO fun (l104 : Q0) (l105 : Q0) =>
   some (l104, l105)) xs.length pre.length (mp, mn) = some (m, n) ∧ Keys m (lp ++ xs.flatMap (fun c => c.When.Pos)) ∧ Keys n (ln ++ xs.flatMap (fun c => c.When.Neg)) ∧
   m.length ≤ mp.length + (xs.flatMap (fun c => c.When.Pos)).length ∧ n.length ≤ mn.length + (xs.flatMap (fun c => c.When.Neg)).length ∧ ((mp.map Prod.fst).Nodup → (m.map Prod.fst).Nodup)
 | [], pre, mp, mn, lp, ln, _, h1, h2, _, _ => ⟨mp, mn, rfl, by simpa using h1, by simpa using h2, by simp, by simp, id⟩
 | x :: xs, pre, mp, mn, lp, ln, e, h1, h2, l1, l2 => by
  rw [List.flatMap_cons, List.length_append] at l1 l2
  have hx : d[pre.length]? = some x := by rw [e, List.getElem?_append_right (Nat.le_refl _)]; simp
  have ho := hd x (List.mem_of_getElem? hx)
  obtain ⟨m, n, e1, k1, k2, g1, g2, n1⟩ := Qkd (c := x.When) ho.1 ho.2 h1 h2 (by omega) (by omega)
  obtain ⟨m', n', e2, k3, k4, g3, g4, n2⟩ := Qfj d hd xs (pre ++ [x]) m n (lp ++ x.When.Pos) (ln ++ x.When.Neg) (by simp [e]) k1 k2 (by omega) (by omega)
  refine ⟨m', n', ?_, by simpa [List.flatMap_cons] using k3, by simpa [List.flatMap_cons] using k4, by rw [List.flatMap_cons, List.length_append]; omega, by rw [List.flatMap_cons, List.length_append]; omega, fun q => n2 (n1 q)⟩
  rw [List.length_cons]
  refine Qby (m, n) ?_ ?_
  ·simp only [QO, Qq, hx, Option.bind_some]
   rw [e1, Option.bind_some]
  ·rw [List.length_append, List.length_singleton] at e2
   exact e2
end Go.Pw
/- -/
set_option maxHeartbeats 4000000
namespace Go.Pw
theorem Qco (g : List Int) (hg : ∀ x ∈ g, KY x) (b : Int) : ∀ (xs pre : List Int) (n : Q0) (ln : List Int), g = pre ++ xs → Keys n ln → n.length + xs.length ≤ 2000000 →
  ∃ n', forS (fun i101 => fun (l107 : Q0) => (Q9 g (i101 : Int)).bind fun x101 =>
   (if !decide (x101 = b) then ((JN l107 x101 true).bind fun m101 =>
   some m101)
   else (some l107)).bind (fun (l108 : Q0) => some l108)) xs.length pre.length n = some n' ∧ Keys n' (ln ++ xs.filter (fun x => !decide (x = b)))
 | [], pre, n, ln, _, h, _ => ⟨n, rfl, by simpa using h⟩
 | x :: xs, pre, n, ln, e, h, hl => by
  rw [List.length_cons] at hl
  have hx : g[pre.length]? = some x := by rw [e, List.getElem?_append_right (Nat.le_refl _)]; simp
  by_cases hb : x = b
  ·obtain ⟨n', h1, h2⟩ := Qco g hg b xs (pre ++ [x]) n ln (by simp [e]) h (by omega)
   refine ⟨n', ?_, by simpa [hb] using h2⟩
   rw [List.length_cons]
   refine Qby n ?_ ?_
   ·simp only [Qq, hx, Option.bind_some]
    rw [if_neg (by simpa using hb)]; rfl
   ·rw [List.length_append, List.length_singleton] at h1; exact h1
  ·have hlen : (YQ n x true).length ≤ n.length + 1 := by rw [Qa2]; split <;> omega
   obtain ⟨n', h1, h2⟩ := Qco g hg b xs (pre ++ [x]) (YQ n x true) (ln ++ [x]) (by simp [e]) (h.put x) (by omega)
   refine ⟨n', ?_, by simpa [hb] using h2⟩
   rw [List.length_cons]
   refine Qby (YQ n x true) ?_ ?_
   ·simp only [Qq, hx, Option.bind_some]
    rw [if_pos (by simpa using hb)]
    unfold JN
    rw [if_pos ⟨hg x (List.mem_of_getElem? hx), by unfold maxLen; omega⟩]; rfl
   ·rw [List.length_append, List.length_singleton] at h1; exact h1
def Qdr (o : GOp) (d : List GChange) (b : Int) : List Int := o.Pre.Pos ++ d.flatMap (fun c => c.When.Pos) ++ (if 0 ≤ b then [b] else [])
theorem QhF {o : GOp} {d : List GChange} {b : Int} {g : List Int} (ho : OkC o.Pre) (hd : ∀ c ∈ d, OkC c.When) (hb : KY b) (hg : ∀ x ∈ g, KY x)
  (h1 : o.Pre.Pos.length + (d.flatMap (fun c => c.When.Pos)).length ≤ 900000) (h2 : o.Pre.Neg.length + (d.flatMap (fun c => c.When.Neg)).length ≤ 900000) (h3 : g.length ≤ 900000) :
  ∃ mp mn, QM o d b g = some (decide (∀ x ∈ Qdr o d b, x ∉ Qap o d b g), ⟨mp, mn⟩) ∧ Keys mp (Qdr o d b) ∧ Keys mn (Qap o d b g) := by
 obtain ⟨m1, n1, e1, k1, k2, g1, g2, u1⟩ := Qkd (c := o.Pre) (mp := []) (mn := []) (lp := []) (ln := []) ho.1 ho.2 (fun a => by simp [Ki]) (fun a => by simp [Ki]) (by simp; omega) (by simp; omega)
 simp only [List.nil_append, List.length_nil, Nat.zero_add] at k1 k2 g1 g2
 obtain ⟨m2, n2, e2, k3, k4, g3, g4, u2⟩ := Qfj d hd d [] m1 n1 o.Pre.Pos o.Pre.Neg rfl k1 k2 (by omega) (by omega)
 obtain ⟨m3, e3, k5, u3⟩ : ∃ m3, (if decide (0 ≤ b) = true then (JN m2 b true).bind fun m100 => some m100 else some m2) = some m3 ∧ Keys m3 (Qdr o d b) ∧ ((m2.map Prod.fst).Nodup → (m3.map Prod.fst).Nodup) := by
  unfold Qdr
  by_cases h0 : 0 ≤ b
  ·refine ⟨YQ m2 b true, ?_, by rw [if_pos h0]; exact k3.put b, fun q => Qgx q b true⟩
   rw [if_pos (by simpa using h0)]
   unfold JN
   rw [if_pos ⟨hb, by unfold maxLen; omega⟩]; rfl
  ·exact ⟨m2, by rw [if_neg (by simpa using h0)], by rw [if_neg h0, List.append_nil]; exact k3, id⟩
 obtain ⟨n3, e4, k6⟩ := Qco g hg b g [] n2 _ rfl k4 (by omega)
 refine ⟨m3, n3, ?_, k5, k6⟩
 unfold QM
 refine Qw (m1, n1) e1 ?_
 refine Qw (m2, n2) e2 ?_
 refine Qw m3 e3 ?_
 refine Qw n3 e4 ?_
 have hnd : (m3.map Prod.fst).Nodup := u3 (u2 (u1 (by simp)))
 refine Qc2 hnd fun ord hord => ?_
 have hmem : ∀ x, x ∈ ord ↔ x ∈ Qdr o d b := fun x => by
  rw [hord.mem_iff, QeT, k5 x]
  by_cases q : x ∈ Qdr o d b <;> simp [q]
 have hi : ∀ x ∈ ord, KY x := fun x hx => by
  have := (hmem x).1 hx
  unfold Qdr at this
  simp only [List.mem_append, List.mem_flatMap] at this
  rcases this with (q | ⟨c, hc, q⟩) | q
  ·exact ho.1 x q
  ·exact (hd c hc).1 x q
  ·split at q
   ·simp at q; subst q; exact hb
   ·simp at q
 rw [QhM k6 ord hi]
 have e5 : (∀ x ∈ ord, x ∉ Qap o d b g) ↔ ∀ x ∈ Qdr o d b, x ∉ Qap o d b g := ⟨fun q x hx => q x ((hmem x).2 hx), fun q x hx => q x ((hmem x).1 hx)⟩
 by_cases q : ∀ x ∈ Qdr o d b, x ∉ Qap o d b g
 ·rw [decide_eq_true q]
  exact congrArg (fun z => ctl (some z) _ _) (if_pos (e5.2 q))
 ·rw [decide_eq_false q]
  exact congrArg (fun z => ctl (some z) _ _) (if_neg (fun z => q (e5.1 z)))
end Go.Pw
/- -/
set_option maxHeartbeats 4000000
namespace Go.Pw
theorem Qfg {m : Q0} {L : List Int} (hm : Keys m L) (c : List Int) (hc : ∀ x ∈ c, KY x) : ∀ (xs pre : List Int) (a : Bool), c = pre ++ xs →
  forS (fun i101 => fun (all100 : Bool) => (Q9 c (i101 : Int)).bind fun x101 =>
   (if all100 then ((KP m x101).bind fun q100 =>
   some q100)
   else (some false)).bind (fun (all101 : Bool) => some all101)) xs.length pre.length a = some (a && decide (∀ x ∈ xs, x ∈ L))
 | [], pre, a, _ => by simp [forS]
 | x :: xs, pre, a, e => by
  have hx : c[pre.length]? = some x := by rw [e, List.getElem?_append_right (Nat.le_refl _)]; simp
  have ih := Qfg hm c hc xs (pre ++ [x]) (a && decide (x ∈ L)) (by simp [e])
  rw [List.length_append, List.length_singleton] at ih
  rw [List.length_cons]
  refine Qby (a && decide (x ∈ L)) ?_ ?_
  ·simp only [Qq, hx, Option.bind_some]
   unfold KP
   rw [if_pos (hc x (List.mem_of_getElem? hx)), hm x]
   by_cases h : x ∈ L <;> cases a <;> simp [h]
  ·rw [ih]
   cases a <;> by_cases h : x ∈ L <;> simp [h]
def Del (y : Int) (P N : List Int) (c : GChange) : Prop := c.Add = false ∧ c.Atom = y ∧ c.When.Tests.length = 0 ∧ (∀ x ∈ c.When.Pos, x ∈ P) ∧ (∀ x ∈ c.When.Neg, x ∈ N)
open Classical in
theorem Qhw {o : GOp} {y : Int} {mp mn : Q0} {P N : List Int} (hp : Keys mp P) (hn : Keys mn N) (hd : ∀ c ∈ o.Changes, OkC c.When) : Jj ⟨mp, mn⟩ o y = some (decide (∃ c ∈ o.Changes, Del y P N c)) := by
 unfold Jj
 rw [Ka (xs := o.Changes) (r := true) (fun c => ¬ Del y P N c)]
 ·by_cases h : ∃ c ∈ o.Changes, Del y P N c
  ·rw [decide_eq_true h, if_neg (fun q => by obtain ⟨c, hc, hD⟩ := h; exact q c hc hD)]
  ·rw [decide_eq_false h, if_pos (fun c hc hD => h ⟨c, hc, hD⟩)]
 ·intro i c hc
  have ho := hd c (List.mem_of_getElem? hc)
  have e1 := Qfg hp c.When.Pos ho.1 c.When.Pos [] true rfl
  have e2 := Qfg hn c.When.Neg ho.2 c.When.Neg [] (decide (∀ x ∈ c.When.Pos, x ∈ P)) rfl
  simp only [List.length_nil, Bool.true_and] at e1 e2
  rw [Qq, hc, Option.bind_some]
  by_cases hq : c.Add = false ∧ c.Atom = y ∧ c.When.Tests.length = 0
  ·obtain ⟨q1, q2, q3⟩ := hq
   rw [if_neg (by simp [q1, q2, q3]), e1, Option.bind_some, e2, Option.bind_some]
   by_cases hD : Del y P N c
   ·have hz : (decide (∀ x ∈ c.When.Pos, x ∈ P) && decide (∀ x ∈ c.When.Neg, x ∈ N)) = true := by
     rw [Bool.and_eq_true]; exact ⟨decide_eq_true hD.2.2.2.1, decide_eq_true hD.2.2.2.2⟩
    rw [hz]; simp [hD]
   ·have hz : (decide (∀ x ∈ c.When.Pos, x ∈ P) && decide (∀ x ∈ c.When.Neg, x ∈ N)) = false := by
     rw [Bool.eq_false_iff]
     intro q
     rw [Bool.and_eq_true] at q
     exact hD ⟨q1, q2, q3, of_decide_eq_true q.1, of_decide_eq_true q.2⟩
    rw [hz]; simp [hD]
  ·have hD : ¬ Del y P N c := fun h => hq ⟨h.1, h.2.1, h.2.2.1⟩
   rw [if_pos]
   ·simp [hD]
   cases h6 : c.Add
   ·simp only [Bool.false_or, Bool.or_eq_true, Bool.not_eq_true', decide_eq_false_iff_not, decide_eq_true_eq]
    by_cases h7 : c.Atom = y
    ·exact .inr (by have : ¬ c.When.Tests.length = 0 := fun q => hq ⟨h6, h7, q⟩; omega)
    ·exact .inl h7
   ·rfl
end Go.Pw
/- -/
set_option maxHeartbeats 4000000
namespace Go.Pw
open Classical in
theorem Qhx {o : GOp} {y : Int} {P N : List Int} : Yb o y P N = some (decide (∃ c ∈ o.Changes, Del y P N c)) := by
 unfold Yb
 rw [Ka (xs := o.Changes) (r := true) (fun c => ¬ Del y P N c)]
 ·by_cases h : ∃ c ∈ o.Changes, Del y P N c
  ·rw [decide_eq_true h, if_neg (fun q => by obtain ⟨c, hc, hD⟩ := h; exact q c hc hD)]
  ·rw [decide_eq_false h, if_pos (fun c hc hD => h ⟨c, hc, hD⟩)]
 ·intro i c hc
  rw [Qq, hc, Option.bind_some]
  by_cases q1 : c.Add = false
  ·by_cases q2 : c.Atom = y
   ·by_cases q3 : (c.When.Tests.length : Int) = 0
    ·by_cases q4 : ∀ x ∈ c.When.Pos, x ∈ P
     ·by_cases q5 : ∀ x ∈ c.When.Neg, x ∈ N
      ·have hD : Del y P N c := ⟨q1, q2, by omega, q4, q5⟩
       rw [if_pos (by simp [q1]), if_pos (by simpa using q2), if_pos (decide_eq_true q3), Qb9, Option.bind_some, if_pos (decide_eq_true q4), Qb9, Option.bind_some, Option.bind_some, if_pos (decide_eq_true q5)]
       simp [hD]
      ·have hD : ¬ Del y P N c := fun h => q5 h.2.2.2.2
       rw [if_pos (by simp [q1]), if_pos (by simpa using q2), if_pos (decide_eq_true q3), Qb9, Option.bind_some, if_pos (decide_eq_true q4), Qb9, Option.bind_some, Option.bind_some, decide_eq_false q5]
       simp [hD]
     ·have hD : ¬ Del y P N c := fun h => q4 h.2.2.2.1
      rw [if_pos (by simp [q1]), if_pos (by simpa using q2), if_pos (decide_eq_true q3), Qb9, Option.bind_some, decide_eq_false q4]
      simp [hD]
    ·have hD : ¬ Del y P N c := fun h => q3 (by have := h.2.2.1; omega)
     rw [if_pos (by simp [q1]), if_pos (by simpa using q2), if_neg (by simpa using q3)]
     simp [hD]
   ·have hD : ¬ Del y P N c := fun h => q2 h.2.1
    rw [if_pos (by simp [q1]), if_neg (by simpa using q2)]
    simp [hD]
  ·have hD : ¬ Del y P N c := fun h => q1 h.1
   rw [if_neg (by simpa using q1)]
   simp [hD]
end Go.Pw
/- -/
set_option maxHeartbeats 4000000
namespace Go.Pw
theorem Qk7 {i j : Int} (h0 : 0 ≤ i) (h1 : i < j) (h2 : j ≤ 1000000) : IntKind.i64.wrap ((IntKind.u64.wrap (IntKind.i64.wrap (i + j))).fdiv (2 ^ 1)) = (i + j) / 2 := by
 rw [J1 (n := i + j) (by omega) (by omega)]
 have e : IntKind.u64.wrap (i + j) = i + j := IntWalk.u64_in (i + j) ⟨by omega, by omega⟩
 rw [e, show ((2 : Int) ^ 1) = 2 from rfl, Int.fdiv_eq_ediv_of_nonneg _ (by omega), J1 (by omega) (by omega)]
theorem QkA {g : List Int} {t : Int} (hg : g.Pairwise (· < ·)) (hn : g.length ≤ 1000000) : ∃ i : Int, Q4 g t = some (i, decide (t ∈ g)) := by
 have hlt : ∀ x y : Int, Yu x y = decide (x < y) := fun x y => by
  have h := QbK x y
  have h1 := Yp x
  have h2 := Yp y
  unfold Yv at h
  unfold Yd at h1 h2
  rw [← Zu h, ← Zu h1]
  simp
 have hnan : ∀ x : Int, JR x = false := fun x => by
  have h := Yw x
  unfold Km at h
  rw [← Zu h]; simp
 have hget : ∀ (a b : Nat) (x y : Int), a < b → g[a]? = some x → g[b]? = some y → x < y := fun a b x y hab hx hy => by
  obtain ⟨ha, rfl⟩ := List.getElem?_eq_some_iff.1 hx
  obtain ⟨hb, rfl⟩ := List.getElem?_eq_some_iff.1 hy
  exact List.pairwise_iff_getElem.1 hg a b ha hb hab
 have key : Ok (Q4 g t) (fun r => r.2 = decide (t ∈ g)) := by
  unfold Q4
  refine Qa1 (fun (p : Int × Int) => 0 ≤ p.1 ∧ p.1 ≤ p.2 ∧ p.2 ≤ (g.length : Int) ∧ (∀ (k : Nat) x, g[k]? = some x → (k : Int) < p.1 → x < t) ∧ (∀ (k : Nat) x, g[k]? = some x → p.2 ≤ (k : Int) → t ≤ x))
   (fun p => p.1 = p.2 ∧ 0 ≤ p.1 ∧ p.1 ≤ (g.length : Int) ∧ (∀ (k : Nat) x, g[k]? = some x → (k : Int) < p.1 → x < t) ∧ (∀ (k : Nat) x, g[k]? = some x → p.1 ≤ (k : Int) → t ≤ x)) (fun _ => False) (fun p => (p.2 - p.1).toNat) ⟨by omega, by omega, by omega, fun k x _ h => by omega, fun k x hx h => by have := (List.getElem?_eq_some_iff.1 hx).1; omega⟩ ?_ (fun _ h => h.elim) ?_
  ·rintro ⟨i, j⟩ ⟨h0, h1, h2, h3, h4⟩
   simp only at h0 h1 h2 h3 h4
   simp only [QO]
   by_cases hij : i < j
   ·rw [if_pos (decide_eq_true hij), Qk7 h0 hij (by omega)]
    obtain ⟨x, hx⟩ : ∃ x, g[((i + j) / 2).toNat]? = some x := ⟨g[((i + j) / 2).toNat]'(by omega), List.getElem?_eq_getElem (by omega)⟩
    have hidx : Q9 g ((i + j) / 2) = some x := by unfold Q9; rw [if_pos (by omega)]; exact hx
    rw [hidx, Option.bind_some, hlt]
    by_cases hl : x < t
    ·rw [if_pos (decide_eq_true hl), J1 (by omega) (by omega)]
     refine ⟨_, Z, ?_, (by intro s' h; cases h), (by intro r h; cases h)⟩
     rintro s' h; cases h
     exact ⟨⟨by omega, by omega, h2, fun k y hy hk => by
      by_cases e : (k : Int) = (i + j) / 2
      ·have : k = ((i + j) / 2).toNat := by omega
       subst this; rw [hx] at hy; cases hy; exact hl
      ·have := hget k ((i + j) / 2).toNat y x (by omega) hy hx; omega, h4⟩, by simp only; omega⟩
    ·rw [if_neg (by simpa using hl)]
     refine ⟨_, Z, ?_, (by intro s' h; cases h), (by intro r h; cases h)⟩
     rintro s' h; cases h
     exact ⟨⟨h0, by omega, by omega, h3, fun k y hy hk => by
      by_cases e : (k : Int) = (i + j) / 2
      ·have : k = ((i + j) / 2).toNat := by omega
       subst this; rw [hx] at hy; cases hy; omega
      ·have := hget ((i + j) / 2).toNat k x y (by omega) hx hy; omega⟩, by simp only; omega⟩
   ·rw [if_neg (by simpa using hij)]
    refine ⟨_, Z, (by intro s' h; cases h), ?_, (by intro r h; cases h)⟩
    rintro s' h; cases h
    exact ⟨by omega, h0, by omega, h3, fun k x hx hk => h4 k x hx (by omega)⟩
  ·rintro ⟨i, j⟩ ⟨e, h0, h2, h3, h4⟩
   simp only at e h0 h2 h3 h4
   subst e
   simp only [QO]
   have hno : (∀ (k : Nat) x, g[k]? = some x → (k : Int) = i → x ≠ t) → ¬ t ∈ g := fun hne hm => by
    obtain ⟨k, hk, hkt⟩ := List.getElem_of_mem hm
    have hx := List.getElem?_eq_getElem hk
    rw [hkt] at hx
    by_cases e : (k : Int) = i
    ·exact hne k t hx e Z
    ·by_cases q : (k : Int) < i
     ·have := h3 k t hx q; omega
     ·have hi : i.toNat < g.length := by omega
      have hy := List.getElem?_eq_getElem hi
      have a1 := h4 i.toNat _ hy (by omega)
      have a2 := hget i.toNat k _ t (by omega) hy hx
      omega
   by_cases hi : i < (g.length : Int)
   ·obtain ⟨x, hx⟩ : ∃ x, g[i.toNat]? = some x := ⟨g[i.toNat]'(by omega), List.getElem?_eq_getElem (by omega)⟩
    have hidx : Q9 g i = some x := by unfold Q9; rw [if_pos h0]; exact hx
    rw [if_pos (decide_eq_true hi), hidx, Option.bind_some]
    by_cases hxt : x = t
    ·rw [if_pos (decide_eq_true hxt), Option.bind_some]
     exact Ok.ret (decide_eq_true (hxt ▸ List.mem_of_getElem? hx)).symm
    ·rw [if_neg (by simpa using hxt), hnan, if_neg (by simp), Option.bind_some]
     exact Ok.ret (decide_eq_false (hno fun k y hy hk => by
      have : k = i.toNat := by omega
      subst this; rw [hx] at hy; cases hy; exact hxt)).symm
   ·rw [if_neg (by simpa using hi), Option.bind_some]
    exact Ok.ret (decide_eq_false (hno fun k y hy hk => by have := (List.getElem?_eq_some_iff.1 hy).1; omega)).symm
 obtain ⟨r, h1, h2⟩ := key
 exact ⟨r.1, by rw [h1, ← h2]⟩
end Go.Pw
/- -/
set_option maxHeartbeats 4000000
namespace Go.Pw
theorem dT {p : Prop} {i : Decidable p} (h : p) : @decide p i = true := decide_eq_true h
theorem dF {p : Prop} {i : Decidable p} (h : ¬ p) : @decide p i = false := decide_eq_false h
open Classical in
theorem Qg4 {α S R β : Type} {xs : List α} {B : Nat → S → Option (Ctl S R)} {r : R} {s : S} {kr : R → Option β} {k : S → Option β} (p : Nat → α → Prop) (h : ∀ i x, xs[i]? = some x → B i s = some (if decide (p i x) then .next s else .ret r)) :
  ctl (QW B xs.length 0 s) kr k = if (∀ i x, xs[i]? = some x → p i x) then k s else kr r := by
 have key : ∀ (n i : Nat), i + n = xs.length → QW B n i s = some (if (∀ j x, i ≤ j → xs[j]? = some x → p j x) then .next s else .ret r) := by
  intro n
  induction n with
  | zero => intro i hi; rw [QW, if_pos]; intro j x hj hx; have := (List.getElem?_eq_some_iff.1 hx).1; omega
  | succ n ih =>
   intro i hi
   obtain ⟨x, hx⟩ := Qy (xs := xs) (i := i) (by omega)
   rw [QW, h i x hx]
   by_cases hp : p i x
   ·rw [dT hp]
    simp only [if_true]
    rw [ih (i + 1) (by omega)]
    by_cases hall : ∀ j x, i + 1 ≤ j → xs[j]? = some x → p j x
    ·rw [if_pos hall, if_pos]
     intro j y hj hy
     by_cases e : j = i
     ·subst e; rw [hx] at hy; cases hy; exact hp
     ·exact hall j y (by omega) hy
    ·rw [if_neg hall, if_neg (fun q => hall fun j y hj hy => q j y (by omega) hy)]
   ·rw [dF hp, if_neg (c := ∀ j x, i ≤ j → xs[j]? = some x → p j x) (fun q => hp (q i x (Nat.le_refl _) hx))]
    rfl
 rw [key xs.length 0 (by omega)]
 by_cases hall : ∀ i x, xs[i]? = some x → p i x
 ·rw [if_pos hall, if_pos (fun j x _ hx => hall j x hx)]; rfl
 ·rw [if_neg hall, if_neg (fun q => hall fun j x hx => q j x (by omega) hx)]; rfl
def Con (o : GOp) (d : List GChange) (b : Int) (g : List Int) : Prop := ∀ x ∈ Qb5 o d b g, x ∉ Qap o d b g
def Qci (g : List Int) (c : GChange) : Prop := c.Add = true ∧ c.Atom ∈ g
def Qa6 (o : GOp) (g : List Int) (c d : GChange) : Prop := ∀ b ∈ -1 :: g, ¬ Con o [c, d] b g
def QhA (o : GOp) (g : List Int) (c : GChange) : Prop := ∀ y ∈ g, y ≠ c.Atom → Con o [c] y g → ∃ e ∈ o.Changes, Del y (Qb5 o [c] y g) (Qap o [c] y g) e
def Qa7 (o : GOp) (g : List Int) : Prop := ∀ c ∈ o.Changes, Qci g c → (∀ d ∈ o.Changes, Qci g d → d.Atom ≠ c.Atom → Qa6 o g c d) ∧ QhA o g c
structure OpS (o : GOp) : Prop where
 pp : o.Pre.Pos.length ≤ 5000
 pn : o.Pre.Neg.length ≤ 5000
 cp : ∀ c ∈ o.Changes, c.When.Pos.length ≤ 5000
 cn : ∀ c ∈ o.Changes, c.When.Neg.length ≤ 5000
 okp : OkC o.Pre
 okc : ∀ c ∈ o.Changes, OkC c.When
 nch : o.Changes.length ≤ 5000
open Classical in
theorem QgJ {o : GOp} {g : List Int} (ho : OpS o) (hg : g.length ≤ 5000) : KB o g = some (decide (Qa7 o g)) := by
 unfold KB
 have s2 : ∀ c ∈ o.Changes, ∀ d ∈ o.Changes, ∀ b, J6 o [c, d] b g = some (Qb5 o [c, d] b g, Qap o [c, d] b g, decide (Con o [c, d] b g)) := fun c hc d hd b => by
  have h1 := ho.cp c hc; have h2 := ho.cp d hd; have h3 := ho.cn c hc; have h4 := ho.cn d hd; have h5 := ho.pp; have h6 := ho.pn
  rw [QhE (by simp; omega) (by simp; omega) (by omega)]
  exact congrArg (fun z => some (_, _, z)) (decide_eq_decide.2 Iff.rfl)
 have s1 : ∀ c ∈ o.Changes, ∀ b, J6 o [c] b g = some (Qb5 o [c] b g, Qap o [c] b g, decide (Con o [c] b g)) := fun c hc b => by
  have h1 := ho.cp c hc; have h3 := ho.cn c hc; have h5 := ho.pp; have h6 := ho.pn
  rw [QhE (by simp; omega) (by simp; omega) (by omega)]
  exact congrArg (fun z => some (_, _, z)) (decide_eq_decide.2 Iff.rfl)
 rw [Ka (xs := o.Changes) (r := false) (fun c => Qci g c → (∀ d ∈ o.Changes, Qci g d → d.Atom ≠ c.Atom → Qa6 o g c d) ∧ QhA o g c)]
 ·by_cases h : Qa7 o g
  ·rw [dT h]; exact if_pos h
  ·rw [dF h]; exact if_neg h
 ·intro i c hc
  have hcm := List.mem_of_getElem? hc
  rw [Qq, hc, Option.bind_some]
  by_cases hA : Qci g c
  ·rw [if_neg (by simp [hA.1]), Qck, Option.bind_some, Option.bind_some, if_neg (by simp [hA.2])]
   rw [Ka (xs := o.Changes) (r := false) (fun d => Qci g d → d.Atom ≠ c.Atom → Qa6 o g c d)]
   ·by_cases h1 : ∀ d ∈ o.Changes, Qci g d → d.Atom ≠ c.Atom → Qa6 o g c d
    ·rw [if_pos h1, Ka (xs := g) (r := false) (fun y => y ≠ c.Atom → Con o [c] y g → ∃ e ∈ o.Changes, Del y (Qb5 o [c] y g) (Qap o [c] y g) e)]
     ·by_cases h2 : ∀ y ∈ g, y ≠ c.Atom → Con o [c] y g → ∃ e ∈ o.Changes, Del y (Qb5 o [c] y g) (Qap o [c] y g) e
      ·rw [if_pos h2, dT (fun _ => ⟨h1, h2⟩)]; rfl
      ·rw [if_neg h2, dF (fun q => h2 (q hA).2)]; rfl
     ·intro j y hy
      rw [Qq, hy, Option.bind_some]
      by_cases e : y = c.Atom
      ·rw [if_pos (decide_eq_true e), dT (fun q => absurd e q)]; rfl
      ·rw [if_neg (by simpa using e), s1 c hcm, Option.bind_some]
       simp only [un3]
       by_cases hC : Con o [c] y g
       ·rw [if_pos (dT hC), Qhx, Option.bind_some, Option.bind_some]
        by_cases hD : ∃ e ∈ o.Changes, Del y (Qb5 o [c] y g) (Qap o [c] y g) e
        ·rw [dT hD, dT (fun _ _ => hD)]; rfl
        ·rw [dF hD, dF (fun q => hD (q e hC))]; rfl
       ·rw [if_neg (by simpa using hC), Option.bind_some, dT (fun _ q => absurd q hC)]; rfl
    ·rw [if_neg h1, dF (fun q => h1 (q hA).1)]; rfl
   ·intro j d hd
    have hdm := List.mem_of_getElem? hd
    rw [Qq, hd, Option.bind_some]
    by_cases hB : Qci g d
    ·rw [if_neg (by simp [hB.1]), Qck, Option.bind_some, dT hB.2, if_neg (by simp), Option.bind_some]
     by_cases e : d.Atom = c.Atom
     ·rw [if_pos (decide_eq_true e), dT (fun _ q => absurd e q)]; rfl
     ·rw [if_neg (by simpa using e), Jq (by simp; omega), Option.bind_some]
      rw [Ka (xs := [-1] ++ g) (r := false) (fun b => ¬ Con o [c, d] b g)]
      ·by_cases hP : Qa6 o g c d
       ·rw [dT (fun _ _ => hP)]; exact if_pos hP
       ·rw [dF (fun q => hP (q hB e))]; exact if_neg hP
      ·intro k b hb
       rw [Qq, hb, Option.bind_some, s2 c hcm d hdm, Option.bind_some]
       simp only [un3]
       by_cases hC : Con o [c, d] b g
       ·rw [if_pos (dT hC), dF (fun q => q hC)]; rfl
       ·rw [if_neg (by simpa using hC), dT hC]; rfl
    ·rw [dT (fun q => absurd q hB)]
     by_cases hq : d.Add = true
     ·have hm : d.Atom ∉ g := fun q => hB ⟨hq, q⟩
      rw [if_neg (by simp [hq]), Qck, Option.bind_some, dF hm]; rfl
     ·rw [if_pos (by simpa using hq)]; rfl
  ·rw [dT (fun q => absurd q hA)]
   by_cases hq : c.Add = true
   ·have hm : c.Atom ∉ g := fun q => hA ⟨hq, q⟩
    rw [if_neg (by simp [hq]), Qck, Option.bind_some, dF hm]; rfl
   ·rw [if_pos (by simpa using hq)]; rfl
end Go.Pw
/- -/
set_option maxHeartbeats 4000000
namespace Go.Pw
theorem Qe7 {o : GOp} {d : List GChange} {b : Int} {g : List Int} (hb : b = -1 ∨ b ∈ g) (h0 : ∀ x ∈ g, 0 ≤ x) {x : Int} : x ∈ Qdr o d b ↔ x ∈ Qb5 o d b g := by
 unfold Qdr Qb5
 rw [List.mem_append, List.mem_append (t := g.filter _), List.mem_filter]
 refine or_congr Iff.rfl ?_
 rcases hb with hb | hb
 ·subst hb
  rw [if_neg (by omega)]
  constructor
  ·intro h; cases h
  ·rintro ⟨h1, h2⟩
   have := h0 x h1
   have := of_decide_eq_true h2
   omega
 ·rw [if_pos (h0 b hb), List.mem_singleton]
  constructor
  ·rintro rfl; exact ⟨hb, by simp⟩
  ·rintro ⟨_, h2⟩; exact of_decide_eq_true h2
theorem QhQ {o : GOp} {d : List GChange} {b : Int} {g : List Int} (hb : b = -1 ∨ b ∈ g) (h0 : ∀ x ∈ g, 0 ≤ x) : (∀ x ∈ Qdr o d b, x ∉ Qap o d b g) ↔ Con o d b g :=
 ⟨fun q x hx => q x ((Qe7 hb h0).2 hx), fun q x hx => q x ((Qe7 hb h0).1 hx)⟩
theorem QfF {y : Int} {P P' N : List Int} {c : GChange} (h : ∀ x, x ∈ P ↔ x ∈ P') : Del y P N c ↔ Del y P' N c :=
 ⟨fun ⟨a, b, d, e, f⟩ => ⟨a, b, d, fun x hx => (h x).1 (e x hx), f⟩, fun ⟨a, b, d, e, f⟩ => ⟨a, b, d, fun x hx => (h x).2 (e x hx), f⟩⟩
theorem Qjt {o : GOp} {c d : GChange} {b : Int} {g : List Int} (h : Con o [c, d] b g) : Con o [d, c] b g := by
 intro x hx hn
 refine h x ?_ ?_
 ·unfold Qb5 at hx ⊢
  simp only [List.mem_append, List.flatMap_cons, List.flatMap_nil, List.append_nil] at hx ⊢
  rcases hx with (h | h | h) | h <;> simp [h]
 ·unfold Qap at hn ⊢
  simp only [List.mem_append, List.flatMap_cons, List.flatMap_nil, List.append_nil] at hn ⊢
  rcases hn with (h | h | h) | h <;> simp [h]
theorem Qiq {o : GOp} {g : List Int} {c d : GChange} (h : Qa6 o g c d) : Qa6 o g d c := fun b hb q => h b hb (Qjt q)
theorem QdS {g : List Int} (hg : g.Pairwise (· < ·)) (hn : g.length ≤ 5000) (l : List GChange) : ∀ (xs pre acc : List GChange), l = pre ++ xs → acc.length + xs.length ≤ 5000 →
  forS (fun i100 => fun (adds100 : (List GChange)) => (Q9 l (i100 : Int)).bind fun x100 =>
 (Q4 g x100.Atom).bind <| QO fun (y100 : Int) (y101 : Bool) =>
 (if (y101 && x100.Add) then ((app 88 adds100 [x100]).bind fun l100 =>
 some l100)
 else (some adds100)).bind (fun (l101 : (List GChange)) => some l101)) xs.length pre.length acc = some (acc ++ xs.filter (fun c => decide (c.Atom ∈ g) && c.Add))
 | [], pre, acc, _, _ => by simp [forS]
 | x :: xs, pre, acc, e, hl => by
  rw [List.length_cons] at hl
  have hx : l[pre.length]? = some x := by rw [e, List.getElem?_append_right (Nat.le_refl _)]; simp
  obtain ⟨i, hi⟩ := QkA (t := x.Atom) hg (by omega)
  rw [List.length_cons]
  by_cases h : (decide (x.Atom ∈ g) && x.Add) = true
  ·refine Qby (acc ++ [x]) ?_ ?_
   ·simp only [Qq, hx, Option.bind_some]
    rw [hi, Option.bind_some]
    simp only [QO]
    rw [if_pos h, Jq (by simp; omega)]; rfl
   ·have := QdS hg hn l xs (pre ++ [x]) (acc ++ [x]) (by simp [e]) (by simp; omega)
    rw [List.length_append, List.length_singleton] at this
    rw [this, List.filter_cons_of_pos (p := fun (c : GChange) => decide (c.Atom ∈ g) && c.Add) h]
    simp
  ·refine Qby acc ?_ ?_
   ·simp only [Qq, hx, Option.bind_some]
    rw [hi, Option.bind_some]
    simp only [QO]
    rw [if_neg h]; rfl
   ·have := QdS hg hn l xs (pre ++ [x]) acc (by simp [e]) (by omega)
    rw [List.length_append, List.length_singleton] at this
    rw [this, List.filter_cons_of_neg (p := fun (c : GChange) => decide (c.Atom ∈ g) && c.Add) h]
theorem Qjz {o : GOp} {g : List Int} {c : GChange} : c ∈ o.Changes.filter (fun c => decide (c.Atom ∈ g) && c.Add) ↔ c ∈ o.Changes ∧ Qci g c := by
 rw [List.mem_filter, Bool.and_eq_true, decide_eq_true_iff]
 exact ⟨fun ⟨a, b, d⟩ => ⟨a, d, b⟩, fun ⟨a, d, b⟩ => ⟨a, b, d⟩⟩
theorem Qfk {o : GOp} {g : List Int} {l : List GChange} (hl : ∀ c, c ∈ l ↔ c ∈ o.Changes ∧ Qci g c) :
  (∀ (i : Nat) c, l[i]? = some c → (∀ d ∈ l.take i, c.Atom ≠ d.Atom → Qa6 o g c d) ∧ QhA o g c) ↔ Qa7 o g := by
 constructor
 ·intro h c hc hA
  obtain ⟨i, hi, hic⟩ := List.getElem_of_mem ((hl c).2 ⟨hc, hA⟩)
  have hci : l[i]? = some c := by rw [List.getElem?_eq_getElem hi, hic]
  refine ⟨fun d hd hB hne => ?_, (h i c hci).2⟩
  obtain ⟨j, hj, hjd⟩ := List.getElem_of_mem ((hl d).2 ⟨hd, hB⟩)
  have hdj : l[j]? = some d := by rw [List.getElem?_eq_getElem hj, hjd]
  rcases Nat.lt_trichotomy i j with q | q | q
  ·refine Qiq ((h j d hdj).1 c ?_ hne)
   rw [List.mem_take_iff_getElem]
   exact ⟨i, by omega, hic⟩
  ·subst q; rw [hci] at hdj; cases hdj; exact absurd rfl hne
  ·refine (h i c hci).1 d ?_ (fun e => hne e.symm)
   rw [List.mem_take_iff_getElem]
   exact ⟨j, by omega, hjd⟩
 ·intro h i c hc
  have hm := (hl c).1 (List.mem_of_getElem? hc)
  refine ⟨fun d hd hne => ?_, (h c hm.1 hm.2).2⟩
  have hdm := (hl d).1 (List.mem_of_mem_take hd)
  exact (h c hm.1 hm.2).1 d hdm.1 hdm.2 (fun e => hne e.symm)
open Classical in
theorem QeU {o : GOp} {g : List Int} (ho : OpS o) (hp : g.Pairwise (· < ·)) (h0 : ∀ x ∈ g, 0 ≤ x) (hi : ∀ x ∈ g, KY x) (hg : g.length ≤ 5000) : JJ o g = some (decide (Qa7 o g)) := by
 have hm1 : KY (-1) := by unfold KY; decide
 have s2 : ∀ c ∈ o.Changes, ∀ d ∈ o.Changes, ∀ b, b = -1 ∨ b ∈ g → ∃ l, QM o [c, d] b g = some (decide (Con o [c, d] b g), l) := fun c hc d hd b hb => by
  have h1 := ho.cp c hc; have h2 := ho.cp d hd; have h3 := ho.cn c hc; have h4 := ho.cn d hd; have h5 := ho.pp; have h6 := ho.pn
  obtain ⟨mp, mn, e, _, _⟩ := QhF (o := o) (d := [c, d]) (b := b) (g := g) ho.okp (fun x hx => by
   rcases List.mem_cons.1 hx with rfl | hx
   ·exact ho.okc _ hc
   ·rw [List.mem_singleton] at hx; subst hx; exact ho.okc _ hd) (hb.elim (fun e => e ▸ hm1) (hi b)) hi (by simp; omega) (by simp; omega) (by omega)
  refine ⟨⟨mp, mn⟩, ?_⟩
  rw [e, decide_eq_decide.2 (QhQ hb h0)]
 have s1 : ∀ c ∈ o.Changes, ∀ b ∈ g, ∃ mp mn, QM o [c] b g = some (decide (Con o [c] b g), ⟨mp, mn⟩) ∧ Keys mp (Qdr o [c] b) ∧ Keys mn (Qap o [c] b g) := fun c hc b hb => by
  have h1 := ho.cp c hc; have h3 := ho.cn c hc; have h5 := ho.pp; have h6 := ho.pn
  obtain ⟨mp, mn, e, k1, k2⟩ := QhF (o := o) (d := [c]) (b := b) (g := g) ho.okp (fun x hx => by
   rw [List.mem_singleton] at hx; subst hx; exact ho.okc _ hc) (hi b hb) hi (by simp; omega) (by simp; omega) (by omega)
  refine ⟨mp, mn, ?_, k1, k2⟩
  rw [e, decide_eq_decide.2 (QhQ (.inr hb) h0)]
 have hadd := QdS hp hg o.Changes o.Changes [] [] rfl (by have := ho.nch; simp; omega)
 simp only [List.length_nil, List.nil_append] at hadd
 have hmem : ∀ c, c ∈ o.Changes.filter (fun c => decide (c.Atom ∈ g) && c.Add) ↔ c ∈ o.Changes ∧ Qci g c := fun c => Qjz
 generalize o.Changes.filter (fun c => decide (c.Atom ∈ g) && c.Add) = A at hadd hmem
 unfold JJ
 refine Qw A hadd ?_
 rw [Qg4 (xs := A) (r := false) (s := (A, A)) (fun i c => (∀ d ∈ A.take i, c.Atom ≠ d.Atom → Qa6 o g c d) ∧ QhA o g c)]
 ·by_cases h : Qa7 o g
  ·rw [dT h]; exact if_pos ((Qfk hmem).2 h)
  ·rw [dF h]; exact if_neg (fun q => h ((Qfk hmem).1 q))
 ·intro i c hc
  have hcm := ((hmem c).1 (List.mem_of_getElem? hc)).1
  have hlen := (List.getElem?_eq_some_iff.1 hc).1
  simp only [QO]
  rw [Qq, hc, Option.bind_some]
  have hcut : cut A 0 (i : Int) = some (A.take i) := by
   unfold cut
   rw [if_pos ⟨by omega, by omega, by omega⟩]
   simp
  rw [hcut, Option.bind_some]
  rw [Ka (xs := A.take i) (r := false) (fun d => c.Atom ≠ d.Atom → Qa6 o g c d)]
  ·by_cases h1 : ∀ d ∈ A.take i, c.Atom ≠ d.Atom → Qa6 o g c d
   ·rw [if_pos h1, Ka (xs := g) (r := false) (fun y => y ≠ c.Atom → Con o [c] y g → ∃ e ∈ o.Changes, Del y (Qb5 o [c] y g) (Qap o [c] y g) e)]
    ·by_cases h2 : ∀ y ∈ g, y ≠ c.Atom → Con o [c] y g → ∃ e ∈ o.Changes, Del y (Qb5 o [c] y g) (Qap o [c] y g) e
     ·rw [if_pos h2, dT ⟨h1, h2⟩]; rfl
     ·rw [if_neg h2, dF (fun q => h2 q.2)]; rfl
    ·intro j y hy
     have hym := List.mem_of_getElem? hy
     rw [Qq, hy, Option.bind_some]
     by_cases e : y = c.Atom
     ·rw [if_pos (decide_eq_true e), dT (fun q => absurd e q)]; rfl
     ·obtain ⟨mp, mn, e1, k1, k2⟩ := s1 c hcm y hym
      rw [if_neg (by simpa using e), e1, Option.bind_some]
      simp only [QO]
      by_cases hC : Con o [c] y g
      ·rw [if_pos (dT hC), Qhw k1 k2 ho.okc, Option.bind_some, Option.bind_some]
       have hd : (∃ e ∈ o.Changes, Del y (Qdr o [c] y) (Qap o [c] y g) e) ↔ ∃ e ∈ o.Changes, Del y (Qb5 o [c] y g) (Qap o [c] y g) e :=
        ⟨fun ⟨e, he, hD⟩ => ⟨e, he, (QfF (fun x => Qe7 (.inr hym) h0)).1 hD⟩, fun ⟨e, he, hD⟩ => ⟨e, he, (QfF (fun x => Qe7 (.inr hym) h0)).2 hD⟩⟩
       by_cases hD : ∃ e ∈ o.Changes, Del y (Qb5 o [c] y g) (Qap o [c] y g) e
       ·rw [dT (hd.2 hD), dT (fun _ _ => hD)]; rfl
       ·rw [dF (fun q => hD (hd.1 q)), dF (fun q => hD (q e hC))]; rfl
      ·rw [if_neg (by simpa using hC), Option.bind_some, dT (fun _ q => absurd q hC)]; rfl
   ·rw [if_neg h1, dF (fun q => h1 q.1)]; rfl
  ·intro j d hd
   have hdm := ((hmem d).1 (List.mem_of_mem_take (List.mem_of_getElem? hd))).1
   rw [Qq, hd, Option.bind_some]
   by_cases e : c.Atom = d.Atom
   ·rw [if_pos (decide_eq_true e), dT (fun q => absurd e q)]; rfl
   ·rw [if_neg (by simpa using e), Jq (by simp; omega), Option.bind_some]
    rw [Ka (xs := [-1] ++ g) (r := false) (fun b => ¬ Con o [c, d] b g)]
    ·by_cases hP : Qa6 o g c d
     ·rw [dT (fun _ => hP)]; exact if_pos hP
     ·rw [dF (fun q => hP (q e))]; exact if_neg hP
    ·intro k b hb
     have hbm : b = -1 ∨ b ∈ g := by
      have := List.mem_of_getElem? hb
      rw [List.mem_append, List.mem_singleton] at this
      exact this
     obtain ⟨l, e1⟩ := s2 c hcm d hdm b hbm
     rw [Qq, hb, Option.bind_some, e1, Option.bind_some]
     simp only [QO]
     by_cases hC : Con o [c, d] b g
     ·rw [if_pos (dT hC), dF (fun q => q hC)]; rfl
     ·rw [if_neg (by simpa using hC), dT hC]; rfl
end Go.Pw
/- -/
set_option maxHeartbeats 4000000
namespace Go.Pw
def cnt (T g : List Int) : Nat → Nat
 | 0 => 0
 | j + 1 => cnt T g j + (if g.getD j 0 ∈ T ∧ g.getD j 0 ∉ g.take j then 1 else 0)
theorem Qhi (T g : List Int) : ∀ j, cnt T g j ≤ j
 | 0 => Nat.le_refl _
 | j + 1 => by have := Qhi T g j; unfold cnt; split <;> omega
theorem Qii {α : Type} {g : List α} {j : Nat} {x : α} (hx : g[j]? = some x) : g.take (j + 1) = g.take j ++ [x] := by
 rw [List.take_add_one, hx]; rfl
theorem QhK {g : List Int} {j : Nat} {x : Int} (hx : g[j]? = some x) : g.getD j 0 = x := by
 rw [List.getD_eq_getElem?_getD, hx]; rfl
theorem Qgy (T : List Int) (x : Int) : ∀ (n i : Nat), i + n = T.length → ∃ r, QW (R := Int) (fun i100 => fun (_ : Unit) => (Q9 T (i100 : Int)).bind fun x100 =>
  if decide (x = x100) then (some (Ctl.ret (i100 : Int)))
  else (some (Ctl.next ()))) n i () = some r ∧ ((∃ k : Int, r = .ret k ∧ 0 ≤ k ∧ x ∈ T.drop i) ∨ (r = .next () ∧ x ∉ T.drop i))
 | 0, i, h => ⟨_, rfl, .inr ⟨rfl, by rw [List.drop_of_length_le (by omega)]; simp⟩⟩
 | n + 1, i, h => by
  have hi : i < T.length := by omega
  rw [QW, Qq, List.getElem?_eq_getElem hi, Option.bind_some, List.drop_eq_getElem_cons hi]
  by_cases hx : x = T[i]
  ·rw [if_pos (by simpa using hx)]
   exact ⟨_, Z, .inl ⟨_, Z, by omega, by rw [hx]; exact List.mem_cons_self ..⟩⟩
  ·rw [if_neg (by simpa using hx)]
   obtain ⟨r, h1, h2⟩ := Qgy T x n (i + 1) (by omega)
   refine ⟨r, h1, ?_⟩
   rcases h2 with ⟨k, h3, h4, h5⟩ | ⟨h3, h4⟩
   ·exact .inl ⟨k, h3, h4, List.mem_cons_of_mem _ h5⟩
   ·exact .inr ⟨h3, by rw [List.mem_cons]; exact fun e => e.elim hx h4⟩
theorem QgN (T : List Int) (x : Int) : JP T x = some (decide (x ∈ T)) := by
 unfold JP KU
 obtain ⟨r, h1, h2⟩ := Qgy T x T.length 0 (by omega)
 rw [h1]
 rw [List.drop_zero] at h2
 rcases h2 with ⟨k, rfl, h4, h5⟩ | ⟨rfl, h4⟩
 ·show some (decide ((0 : Int) ≤ k)) = _
  simp [h4, h5]
 ·show some (decide ((0 : Int) ≤ -1)) = _
  simp [h4]
theorem Qjm {T V g : List Int} (hg : ∀ x ∈ g, KY x) (hl : g.length ≤ 1000) : Ku ⟨T, V⟩ g = some (decide (cnt T g g.length ≤ 1)) := by
 unfold Ku
 apply Ok.eq
 refine Ok.bind (Jg (fun j (l : Q0) => (∀ a, (Ki l a).isSome = true ↔ a ∈ g.take j ∧ a ∈ T) ∧ l.length = cnt T g j) ⟨fun a => by simp [Ki], Z⟩ ?_ ?_)
 ·rintro j l hj ⟨h1, h2⟩
  obtain ⟨x, hx⟩ : ∃ x, g[j]? = some x := ⟨g[j], List.getElem?_eq_getElem hj⟩
  have hc := Qhi T g j
  have hd := QhK hx
  have ht := Qii hx
  have hmem : x ∈ g := List.mem_of_getElem? hx
  rw [Qq, hx, Option.bind_some, QgN, Option.bind_some]
  by_cases hT : x ∈ T
  ·rw [if_pos (by simpa using hT)]
   unfold JN
   rw [if_pos ⟨hg x hmem, by unfold maxLen; omega⟩]
   refine Ok.ret ⟨fun a => ?_, ?_⟩
   ·rw [QaU, ht, List.mem_append, List.mem_singleton]
    by_cases e : x = a
    ·subst e; simp [hT]
    ·rw [if_neg e, h1]
     have e2 : ¬ a = x := fun q => e q.symm
     simp [e2]
   ·rw [Qa2, h2, cnt, hd]
    have h3 := h1 x
    by_cases hs : x ∈ g.take j
    ·rw [if_pos (h3.2 ⟨hs, hT⟩), if_neg (fun q => q.2 hs)]; rfl
    ·rw [if_neg (fun q => hs (h3.1 q).1), if_pos ⟨hT, hs⟩]
  ·rw [if_neg (by simpa using hT)]
   refine Ok.ret ⟨fun a => ?_, ?_⟩
   ·rw [h1, ht, List.mem_append, List.mem_singleton]
    by_cases e : a = x
    ·subst e; simp [hT]
    ·simp [e]
   ·rw [h2, cnt, hd, if_neg (fun q => hT q.1)]; rfl
 ·rintro l ⟨_, h2⟩
  refine Ok.ret ?_
  rw [h2]
  congr 1
  exact propext ⟨fun h => by omega, fun h => by omega⟩
theorem Asc.len_le {l : List Int} {n : Nat} (h : Asc l (n : Int)) : l.length ≤ n := by
 have key : ∀ (i : Nat) (x : Int), l[i]? = some x → (i : Int) ≤ x := by
  intro i
  induction i with
  | zero => intro x hx; exact (h 0 x hx).1
  | succ i ih =>
   intro x hx
   obtain ⟨y, hy⟩ := Qy (xs := l) (i := i) (by have := (List.getElem?_eq_some_iff.1 hx).1; omega)
   have h1 := (h (i + 1) x hx).2.2 y (by omega) (by simpa using hy)
   have h2 := ih y hy
   omega
 by_cases h0 : l.length = 0
 ·omega
 ·obtain ⟨x, hx⟩ := Qy (xs := l) (i := l.length - 1) (by omega)
  have h1 := key _ _ hx
  have h2 := (h _ x hx).2.1
  omega
theorem Asc.rng {l : List Int} {n : Int} (h : Asc l n) {x : Int} (hx : x ∈ l) : 0 ≤ x ∧ x < n := by
 obtain ⟨i, hi, rfl⟩ := List.getElem_of_mem hx
 have := h i _ (List.getElem?_eq_getElem hi)
 exact ⟨this.1, this.2.1⟩
theorem Asc.pw {l : List Int} {n : Int} (h : Asc l n) : l.Pairwise (· < ·) := by
 have key : ∀ (d i : Nat) (x y : Int), l[i]? = some x → l[i + d + 1]? = some y → x < y := by
  intro d
  induction d with
  | zero => intro i x y hx hy; exact (h (i + 1) y hy).2.2 x (by omega) hx
  | succ d ih =>
   intro i x y hx hy
   obtain ⟨z, hz⟩ := Qy (xs := l) (i := i + d + 1) (by have := (List.getElem?_eq_some_iff.1 hy).1; omega)
   have h1 := ih i x z hx hz
   have h2 := (h (i + (d + 1) + 1) y hy).2.2 z (by omega) hz
   omega
 refine List.pairwise_iff_getElem.2 fun i j hi hj hij => ?_
 obtain ⟨d, rfl⟩ : ∃ d, j = i + d + 1 := ⟨j - i - 1, by omega⟩
 exact key d i _ _ (List.getElem?_eq_getElem hi) (List.getElem?_eq_getElem hj)
theorem Asc.ok {l : List Int} {n : Nat} (h : Asc l (n : Int)) (hn : n ≤ 4096) : ∀ x ∈ l, KY x := fun x hx => by
 have := h.rng hx
 unfold KY
 omega
theorem QiK {na nf : Int} {o : GOp} (hna : na ≤ 4096) (h : GOpOK na nf o) : OpS o := by
 have key : ∀ {l : List Int}, Asc l na → l.length ≤ 5000 ∧ ∀ x ∈ l, KY x := fun {l} hl => by
  by_cases h0 : 0 ≤ na
  ·obtain ⟨n, rfl⟩ : ∃ n : Nat, na = (n : Int) := ⟨na.toNat, by omega⟩
   exact ⟨by have := hl.len_le; omega, hl.ok (by omega)⟩
  ·have : l = [] := by
    cases l with
    | nil => rfl
    | cons x l => have := hl.rng (List.mem_cons_self ..); omega
   subst this
   exact ⟨by simp, fun x hx => by cases hx⟩
 exact ⟨(key h.pre.p).1, (key h.pre.n).1, fun c hc => (key (h.chg c hc).w.p).1, fun c hc => (key (h.chg c hc).w.n).1, ⟨(key h.pre.p).2, (key h.pre.n).2⟩, fun c hc => ⟨(key (h.chg c hc).w.p).2, (key (h.chg c hc).w.n).2⟩, by have := h.nc; omega⟩
def Qeq (g : Ground) (l : List Int) : Prop := Asc l (g.Atoms.length : Int) ∧ cnt g.Init l l.length ≤ 1 ∧ ∀ o ∈ g.Ops, Qa7 o l
open Classical in
theorem QgS {g : Ground} {l : List Int} (hv : ValidG g) (hl : l.length ≤ 1000) : JE g l = some (decide (Qeq g l)) := by
 have hna := hv.a
 unfold JE
 rw [Qg4 (xs := l) (r := false) (s := ()) (fun i _ => QaQ l (g.Atoms.length : Int) i)]
 ·by_cases ha : Asc l (g.Atoms.length : Int)
  ·rw [if_pos (fun i x hx => ha i), Qjm (ha.ok hna) hl, Option.bind_some]
   by_cases hc : cnt g.Init l l.length ≤ 1
   ·rw [if_neg (by simpa using hc)]
    rw [Ka (xs := g.Ops) (r := false) (fun o => Qa7 o l)]
    ·by_cases hk : ∀ o ∈ g.Ops, Qa7 o l
     ·rw [if_pos hk, dT (show Qeq g l from ⟨ha, hc, hk⟩)]
     ·rw [if_neg hk, dF (fun q : Qeq g l => hk q.2.2)]
    ·intro i o ho
     rw [Qq, ho, Option.bind_some, QeU (QiK (by omega) (hv.op o (List.mem_of_getElem? ho))) ha.pw (fun x hx => (ha.rng hx).1) (ha.ok hna) (by omega), Option.bind_some]
     by_cases hk : Qa7 o l
     ·rw [dT hk]; rfl
     ·rw [dF hk]; rfl
   ·rw [if_pos (by simpa using hc), dF (fun q : Qeq g l => hc q.2.1)]
  ·rw [if_neg, dF (fun q : Qeq g l => ha q.1)]
   intro q
   exact ha fun i x hx => q i x hx x hx
 ·intro i x hx
  rw [Qq, hx, Option.bind_some, Qdy (by omega) hx, Option.bind_some]
  by_cases h : QaQ l (g.Atoms.length : Int) i
  ·rw [dT h]; rfl
  ·rw [dF h]; rfl
end Go.Pw
/- -/
set_option maxHeartbeats 4000000
namespace Go.Pw
open Classical in
theorem Qba {g : Ground} {l : List Int} (hv : ValidG g) (hl : l.length ≤ 100) : JQ g l = some (decide (Qeq g l)) := by
 have hna := hv.a
 unfold JQ
 apply Ok.eq
 by_cases ha : Asc l (g.Atoms.length : Int)
 ·refine Ok.ctl (fun j (s : Int) => s = (cnt g.Init l j : Int)) (fun _ => False) Z ?_ (fun _ h => h.elim) ?_
  ·rintro j s hj rfl
   obtain ⟨x, hx⟩ := Qy hj
   have hc := Qhi g.Init l j
   have hd := QhK hx
   have hnot : x ∉ l.take j := fun q => by
    obtain ⟨i, hi, e⟩ := List.mem_take_iff_getElem.1 q
    have := List.pairwise_iff_getElem.1 ha.pw i j (by omega) hj (by omega)
    have e2 : l[j] = x := by rw [List.getElem?_eq_getElem hj] at hx; exact Zu hx
    omega
   rw [Qq, hx, Option.bind_some, Qdy (by omega) hx, Option.bind_some, dT (ha j), Qck]
   simp only [Bool.not_true, Bool.false_eq_true, if_false, Option.bind_some]
   by_cases hT : x ∈ g.Init
   ·rw [if_pos (dT hT), Option.bind_some, J1 (by omega) (by omega)]
    refine Ok.ret ?_
    show (cnt g.Init l j : Int) + 1 = (cnt g.Init l (j + 1) : Int)
    rw [cnt, hd, if_pos ⟨hT, hnot⟩]; simp
   ·rw [if_neg (by simpa using hT), Option.bind_some]
    refine Ok.ret ?_
    show (cnt g.Init l j : Int) = (cnt g.Init l (j + 1) : Int)
    rw [cnt, hd, if_neg (fun q => hT q.1)]; rfl
  ·rintro s rfl
   by_cases hc : cnt g.Init l l.length ≤ 1
   ·rw [if_neg (by simp; omega)]
    rw [Ka (xs := g.Ops) (r := false) (fun o => Qa7 o l)]
    ·by_cases hk : ∀ o ∈ g.Ops, Qa7 o l
     ·rw [if_pos hk, dT (show Qeq g l from ⟨ha, hc, hk⟩)]; exact Ok.ret rfl
     ·rw [if_neg hk, dF (fun q : Qeq g l => hk q.2.2)]; exact Ok.ret rfl
    ·intro i o ho
     rw [Qq, ho, Option.bind_some, QgJ (QiK (by omega) (hv.op o (List.mem_of_getElem? ho))) (by omega), Option.bind_some]
     by_cases hk : Qa7 o l
     ·rw [dT hk]; rfl
     ·rw [dF hk]; rfl
   ·rw [if_pos (by simp; omega), dF (fun q : Qeq g l => hc q.2.1)]
    exact Ok.ret Z
 ·rw [dF (fun q : Qeq g l => ha q.1)]
  refine Ok.ctl (fun j (s : Int) => ∀ i, i < j → QaQ l (g.Atoms.length : Int) i) (fun r => r = false) (fun i hi => absurd hi (Nat.not_lt_zero i)) ?_ (fun r hr => by subst hr; exact Ok.ret Z) ?_
  ·rintro j s hj hI
   obtain ⟨x, hx⟩ := Qy hj
   rw [Qq, hx, Option.bind_some, Qdy (by omega) hx, Option.bind_some]
   by_cases h : QaQ l (g.Atoms.length : Int) j
   ·rw [dT h, Qck]
    simp only [Bool.not_true, Bool.false_eq_true, if_false, Option.bind_some]
    have hI' : ∀ i, i < j + 1 → QaQ l (g.Atoms.length : Int) i := fun i hi => by
     by_cases e : i = j
     ·rw [e]; exact h
     ·exact hI i (by omega)
    by_cases hT : x ∈ g.Init
    ·rw [if_pos (dT hT), Option.bind_some]
     exact Ok.ret hI'
    ·rw [if_neg (by simpa using hT), Option.bind_some]
     exact Ok.ret hI'
   ·rw [dF h]
    exact Ok.ret Z
  ·intro s hI
   refine absurd (fun i x hx => hI i (List.getElem?_eq_some_iff.1 hx).1 x hx) ha
end Go.Pw
