/- -/
import Derived.Test.YtpjojkomdndamaaGreatDoorLA
import Derived.Test.YtpjojkomdndamaaGreatDoorL11
import Derived.Test.YtpjojkomdndamaaGreatDoorMxC
import Derived.Test.YtpjojkomdndamaaGreatDoorLB
set_option linter.unusedSimpArgs false
set_option linter.unusedVariables false
namespace Go.Pw
/-! ### loops -/
theorem Qi5 {S : Type} {B : Nat → S → Option S} {n : Nat} (Inv : Nat → S → Prop) (h : ∀ j s, j < n → Inv j s → ∃ s', B j s = some s' ∧ Inv (j + 1) s') :
  ∀ (k i : Nat) (s : S), i + k = n → Inv i s → ∃ s', forS B k i s = some s' ∧ Inv n s'
 | 0, i, s, hn, hi => ⟨s, rfl, by rw [← hn]; exact hi⟩
 | k + 1, i, s, hn, hi => by
  obtain ⟨s', h1, h2⟩ := h i s (by omega) hi
  obtain ⟨t, h3, h4⟩ := Qi5 Inv h k (i + 1) s' (by omega) h2
  exact ⟨t, by simp only [forS, h1, Option.bind_some, h3], h4⟩
theorem QkE {S : Type} {B : Nat → S → Option S} {n : Nat} {s : S} (Inv : Nat → S → Prop) (h0 : Inv 0 s) (h : ∀ j s, j < n → Inv j s → ∃ s', B j s = some s' ∧ Inv (j + 1) s') :
  ∃ s', forS B n 0 s = some s' ∧ Inv n s' := Qi5 Inv h n 0 s (by omega) h0
def Qle {S R : Type} (Inv : S → Prop) (Rp : R → Prop) : Ctl S R → Prop
 | .next s => Inv s
 | .brk _ => False
 | .ret r => Rp r
theorem Qi6 {S R : Type} {B : Nat → S → Option (Ctl S R)} {n : Nat} (Inv : Nat → S → Prop) (Rp : R → Prop) (h : ∀ j s, j < n → Inv j s → ∃ c, B j s = some c ∧ Qle (Inv (j + 1)) Rp c) :
  ∀ (k i : Nat) (s : S), i + k = n → Inv i s → ∃ c, JS B k i s = some c ∧ Qle (Inv n) Rp c
 | 0, i, s, hn, hi => ⟨.next s, rfl, by rw [← hn]; exact hi⟩
 | k + 1, i, s, hn, hi => by
  obtain ⟨c, h1, h2⟩ := h i s (by omega) hi
  cases c with
  | next s' =>
   obtain ⟨t, h3, h4⟩ := Qi6 Inv Rp h k (i + 1) s' (by omega) h2
   exact ⟨t, by simp only [JS, h1, h3], h4⟩
  | brk s' => exact h2.elim
  | ret r => exact ⟨.ret r, by simp only [JS, h1], h2⟩
theorem QkF {S R : Type} {B : Nat → S → Option (Ctl S R)} {n : Nat} {s : S} (Inv : Nat → S → Prop) (Rp : R → Prop) (h0 : Inv 0 s) (h : ∀ j s, j < n → Inv j s → ∃ c, B j s = some c ∧ Qle (Inv (j + 1)) Rp c) :
  ∃ c, JS B n 0 s = some c ∧ Qle (Inv n) Rp c := Qi6 Inv Rp h n 0 s (by omega) h0
/-! ### lists and matrices -/
theorem Q6 {α : Type} {xs : List α} {i : Nat} : Jc xs (i : Int) = xs[i]? := by simp [Jc]
theorem JB {α : Type} {xs : List α} {i : Nat} {y : α} (h : i < xs.length) : Kv xs (i : Int) y = some (xs.set i y) := by simp [Kv, h]
/-! ### a small logic for what may fail -/
def Ok {α : Type} (x : Option α) (P : α → Prop) : Prop := ∃ r, x = some r ∧ P r
section
variable {α β S R : Type} {P P' : α → Prop} {x y : Option α}
theorem Ok.ret {a : α} (h : P a) : Ok (some a) P := ⟨a, rfl, h⟩
theorem Ok.bind {Q : β → Prop} {f : α → Option β} (h : Ok x fun a => Ok (f a) Q) : Ok (x.bind f) Q := by
 obtain ⟨a, e, r, e2, h2⟩ := h
 exact ⟨r, by rw [e]; exact e2, h2⟩
theorem Ok.step {Q : β → Prop} {f : α → Option β} {a : α} (e : x = some a) (h : Ok (f a) Q) : Ok (x.bind f) Q := Ok.bind ⟨a, e, h⟩
theorem Ok.mono (h : Ok x P) (k : ∀ a, P a → P' a) : Ok x P' := let ⟨a, e, h⟩ := h; ⟨a, e, k a h⟩
theorem Ok.must {Q : β → Prop} {b : Bool} {f : Unit → Option β} (hb : b = true) (h : Ok (f ()) Q) : Ok ((Go.Pw.must b).bind f) Q := Ok.step (by simp [Go.Pw.must, hb]) h
theorem J5 {B : Nat → S → Option S} {n : Nat} {s : S} {Q : S → Prop} (Inv : Nat → S → Prop) (h0 : Inv 0 s) (h : ∀ j s, j < n → Inv j s → Ok (B j s) (Inv (j + 1))) (k : ∀ s, Inv n s → Q s) : Ok (forS B n 0 s) Q :=
 let ⟨s', h1, h2⟩ := QkE Inv h0 h
 ⟨s', h1, k s' h2⟩
theorem Ok.ctl {B : Nat → S → Option (Ctl S R)} {n : Nat} {s : S} {Q : β → Prop} {kr : R → Option β} {ks : S → Option β} (Inv : Nat → S → Prop) (Rp : R → Prop) (h0 : Inv 0 s)
  (h : ∀ j s, j < n → Inv j s → Ok (B j s) (Qle (Inv (j + 1)) Rp)) (hr : ∀ r, Rp r → Ok (kr r) Q) (hn : ∀ s, Inv n s → Ok (ks s) Q) : Ok (ctl (JS B n 0 s) kr ks) Q := by
 obtain ⟨c, h1, h2⟩ := QkF Inv Rp h0 h
 unfold Go.Pw.ctl
 rw [h1]
 cases c with
 | next s => exact hn s h2
 | brk s => exact h2.elim
 | ret r => exact hr r h2
end
theorem QdK {R : Type} {B : Nat → Unit → Option (Ctl Unit R)} {r : R} {p : Nat → Bool} : ∀ (k i : Nat), (∀ j, i ≤ j → j < i + k → B j () = some (if p j then .next () else .ret r)) → JS B k i () = some (if (List.range' i k).all p then .next () else .ret r)
 | 0, i, _ => by simp [JS]
 | k + 1, i, h => by
  have h0 := h i (Nat.le_refl _) (by omega)
  simp only [JS, h0, List.range'_succ, List.all_cons]
  cases hp : p i with
  | true => simp only [if_true, Bool.true_and]; exact QdK k (i + 1) fun j h1 h2 => h j (by omega) (by omega)
  | false => simp
theorem QlS {R : Type} {B : Nat → Unit → Option (Ctl Unit R)} {r : R} {p : Nat → Bool} {n : Nat} (h : ∀ j, j < n → B j () = some (if p j then .next () else .ret r)) : JS B n 0 () = some (if (List.range n).all p then .next () else .ret r) := by
 rw [QdK n 0 (fun j _ hj => h j (by omega)), List.range_eq_range']
theorem QcD {R β : Type} {B : Nat → Unit → Option (Ctl Unit R)} {r : R} {p : Nat → Bool} {n : Nat} {kr : R → Option β} {k : Unit → Option β} (h : ∀ j, j < n → B j () = some (if p j then .next () else .ret r)) : ctl (JS B n 0 ()) kr k = if (List.range n).all p then k () else kr r := by
 rw [QlS h]
 unfold ctl
 split <;> rfl
theorem Qkm {S R : Type} {B : S → Option (Ctl S R)} (Inv : S → Prop) (Bp : S → Prop) (Rp : R → Prop) (μ : S → Nat) (h : ∀ s, Inv s → ∃ c, B s = some c ∧ (∀ s', c = .next s' → Inv s' ∧ μ s' < μ s) ∧ (∀ s', c = .brk s' → Bp s') ∧ (∀ r, c = .ret r → Rp r)) :
  ∀ (m : Nat) (s : S), μ s ≤ m → Inv s → ∃ c, Kw B s = some c ∧ (∀ s', c ≠ .next s') ∧ (∀ s', c = .brk s' → Bp s') ∧ (∀ r, c = .ret r → Rp r) := by
 intro m
 induction m with
 | zero =>
  intro s hm hi
  obtain ⟨c, h1, h2, h3, h4⟩ := h s hi
  have hn : ∀ s', c ≠ .next s' := fun s' e => by have := (h2 s' e).2; omega
  exact ⟨c, Qfc h1 hn, hn, h3, h4⟩
 | succ m ih =>
  intro s hm hi
  obtain ⟨c, h1, h2, h3, h4⟩ := h s hi
  by_cases hn : ∃ s', c = .next s'
  ·obtain ⟨s', rfl⟩ := hn
   obtain ⟨hi', hlt⟩ := h2 s' rfl
   rw [QiD h1]
   exact ih s' (by omega) hi'
  ·have hn' : ∀ s', c ≠ .next s' := fun s' e => hn ⟨s', e⟩
   exact ⟨c, Qfc h1 hn', hn', h3, h4⟩
theorem YZ {S R β : Type} {B : S → Option (Ctl S R)} {s : S} {Q : β → Prop} {kr : R → Option β} {k : S → Option β} (Inv : S → Prop) (Bp : S → Prop) (Rp : R → Prop) (μ : S → Nat) (h0 : Inv s)
  (h : ∀ s, Inv s → ∃ c, B s = some c ∧ (∀ s', c = .next s' → Inv s' ∧ μ s' < μ s) ∧ (∀ s', c = .brk s' → Bp s') ∧ (∀ r, c = .ret r → Rp r))
  (hr : ∀ r, Rp r → Ok (kr r) Q) (hb : ∀ s, Bp s → Ok (k s) Q) : Ok (Go.Pw.ctl (Kw B s) kr k) Q := by
 obtain ⟨c, h1, h2, h3, h4⟩ := Qkm Inv Bp Rp μ h (μ s) s (Nat.le_refl _) h0
 unfold Go.Pw.ctl
 rw [h1]
 cases c with
 | next s' => exact absurd rfl (h2 s')
 | brk s' => exact hb s' (h3 s' rfl)
 | ret r => exact hr r (h4 r rfl)
theorem QbW {α : Type} {x : Option α} {a : α} (h : Ok x fun r => r = a) : x = some a := let ⟨r, h1, h2⟩ := h; by rw [h1, h2]
theorem Qnh {α : Type} {x : Option α} {a : α} {P : α → Prop} (h : x = some a) (k : P a) : Ok x P := ⟨a, h, k⟩
theorem JM {α : Type} {b : Nat} {xs ys : List α} (h : (xs.length + ys.length) * b ≤ 140737488355328) : app b xs ys = some (xs ++ ys) := by unfold app; rw [if_pos h]
theorem QaK {α : Type} {b : Nat} {z : α} {n : Nat} (h : b * n ≤ 281474976710656) (hn : n ≤ 9223372036854775807) : mk b z (n : Int) = some (List.replicate n z) := by
 unfold mk; rw [if_pos ⟨by omega, by simpa using h, by omega⟩]; simp
theorem Jo {n : Int} (h0 : -9223372036854775808 ≤ n) (h1 : n ≤ 9223372036854775807) : IntKind.i64.wrap n = n := Qip h0 h1
end Go.Pw
/- -/
set_option maxHeartbeats 4000000
namespace Go.Pw
def EdLt (a b : Edge) : Prop := a.From < b.From ∨ a.From = b.From ∧ (a.Label < b.Label ∨ a.Label = b.Label ∧ a.To < b.To)
structure VSys (x : System) : Prop where
 s1 : 1 ≤ x.States
 s2 : x.States ≤ 4096
 i0 : 0 ≤ x.Init
 i1 : x.Init < x.States
 g : (x.Goals.length : Int) = x.States
 c : x.Costs.length ≤ 4096
 e : x.Edges.length ≤ 65536
 cost : ∀ c ∈ x.Costs, 0 ≤ c ∧ c ≤ 1048576
 edge : ∀ d ∈ x.Edges, 0 ≤ d.From ∧ d.From < x.States ∧ 0 ≤ d.To ∧ d.To < x.States ∧ 0 ≤ d.Label ∧ d.Label < (x.Costs.length : Int)
 ord : ∀ (i : Nat) (a b : Edge), x.Edges[i]? = some a → x.Edges[i + 1]? = some b → EdLt a b
open Classical in
noncomputable def QkX (x : System) : Bool := decide (VSys x)
theorem Qcs {x : System} : QkX x = true ↔ VSys x := by unfold QkX; simp
open Classical in
noncomputable def Qaj (x : System) (i : Nat) : Bool := decide (∀ d, x.Edges[i]? = some d → 0 ≤ d.From ∧ d.From < x.States ∧ 0 ≤ d.To ∧ d.To < x.States ∧ 0 ≤ d.Label ∧ d.Label < (x.Costs.length : Int) ∧ ∀ a, 0 < i → x.Edges[i - 1]? = some a → EdLt a d)
open Classical in
noncomputable def QeH (x : System) (i : Nat) : Bool := decide (∀ c, x.Costs[i]? = some c → 0 ≤ c ∧ c ≤ 1048576)
theorem Qmy (x : System) (h : ¬ (x.States < 1 ∨ 4096 < x.States ∨ x.Init < 0 ∨ x.States ≤ x.Init ∨ ¬ (x.Goals.length : Int) = x.States ∨ 4096 < (x.Costs.length : Int) ∨ 65536 < (x.Edges.length : Int))) :
  QkX x = ((List.range x.Costs.length).all (QeH x) && (List.range x.Edges.length).all (Qaj x)) := by
 rw [Bool.eq_iff_iff, Qcs, Bool.and_eq_true, List.all_eq_true, List.all_eq_true]
 constructor
 ·intro hv
  constructor
  ·intro i hi
   simp only [QeH, decide_eq_true_eq]
   intro c hc
   exact hv.cost c (List.mem_of_getElem? hc)
  ·intro i hi
   simp only [Qaj, decide_eq_true_eq]
   intro d hd
   obtain ⟨h1, h2, h3, h4, h5, h6⟩ := hv.edge d (List.mem_of_getElem? hd)
   refine ⟨h1, h2, h3, h4, h5, h6, fun a h0 ha => ?_⟩
   exact hv.ord (i - 1) a d ha (by rw [show i - 1 + 1 = i by omega]; exact hd)
 ·rintro ⟨h1, h2⟩
  refine ⟨by omega, by omega, by omega, by omega, by omega, by omega, by omega, ?_, ?_, ?_⟩
  ·intro c hc
   obtain ⟨i, hi⟩ := List.mem_iff_getElem?.1 hc
   have hlt := (List.getElem?_eq_some_iff.1 hi).1
   have := h1 i (by simpa using hlt)
   simp only [QeH, decide_eq_true_eq] at this
   exact this c hi
  ·intro d hd
   obtain ⟨i, hi⟩ := List.mem_iff_getElem?.1 hd
   have hlt := (List.getElem?_eq_some_iff.1 hi).1
   have := h2 i (by simpa using hlt)
   simp only [Qaj, decide_eq_true_eq] at this
   obtain ⟨a, b, c, d', e, f, _⟩ := this d hi
   exact ⟨a, b, c, d', e, f⟩
  ·intro i a b ha hb
   have hlt := (List.getElem?_eq_some_iff.1 hb).1
   have := h2 (i + 1) (by simpa using hlt)
   simp only [Qaj, decide_eq_true_eq] at this
   exact (this b hb).2.2.2.2.2.2 a (by omega) (by simpa using ha)
theorem QcE (a b : Edge) : Qbs a b < 0 ↔ EdLt a b := Qaz a b
theorem QH {α : Type} {xs : List α} {i : Nat} (h : i < xs.length) : ∃ y, xs[i]? = some y := ⟨xs[i], by simp [h]⟩
theorem QnU (x : System) {R : Type} (r : R) (j : Nat) (hj : j < x.Costs.length) :
  ((Jc x.Costs (j : Int)).bind fun c => if ((decide (c < 0)) || decide (1048576 < c)) then (some (Ctl.ret r)) else (some (Ctl.next ()))) = some (if QeH x j then .next () else .ret r) := by
 obtain ⟨c, hc⟩ := QH hj
 rw [Q6, hc]
 simp only [Option.bind_some, QeH, hc, Option.some.injEq, forall_eq']
 by_cases h : 0 ≤ c ∧ c ≤ 1048576
 ·have h1 : ¬ c < 0 := by omega
  have h2 : ¬ 1048576 < c := by omega
  simp [h, h1, h2]
 ·have : c < 0 ∨ 1048576 < c := by omega
  simp [h, this]
theorem QmC (x : System) : ((decide (x.States < 1)) || ((decide (4096 < x.States)) || ((decide (x.Init < 0)) || ((decide (x.States ≤ x.Init)) || ((!decide ((x.Goals.length : Int) = x.States)) || ((decide (4096 < (x.Costs.length : Int))) || decide (65536 < (x.Edges.length : Int)))))))) =
  decide (x.States < 1 ∨ 4096 < x.States ∨ x.Init < 0 ∨ x.States ≤ x.Init ∨ ¬ (x.Goals.length : Int) = x.States ∨ 4096 < (x.Costs.length : Int) ∨ 65536 < (x.Edges.length : Int)) := by
 rw [Bool.eq_iff_iff]; simp
theorem QnS (x : System) (j : Nat) (hj : j < x.Edges.length) (hl : x.Edges.length ≤ 65536) (f : Edge → Edge → Option Bool) (hf : ∀ a b, f a b = some (!(open Classical in decide (EdLt a b)))) :
  ((Jc x.Edges (j : Int)).bind fun d =>
  (if decide (d.From < 0) then (some true)
  else (if decide (x.States ≤ d.From) then (some true)
  else (if decide (d.To < 0) then (some true)
  else (if decide (x.States ≤ d.To) then (some true)
  else (if decide (d.Label < 0) then (some true)
  else (if decide ((x.Costs.length : Int) ≤ d.Label) then (some true)
  else (if decide (0 < (j : Int)) then ((Jc x.Edges (IntKind.i64.wrap ((j : Int) - 1))).bind fun a => f a d)
  else (some false)))))))).bind (fun (z : Bool) => if z then (some (Ctl.ret false)) else (some (Ctl.next ())))) = some (if Qaj x j then .next () else .ret false) := by
 obtain ⟨d, hd⟩ := QH hj
 rw [Q6, hd]
 have hno : ¬ (0 ≤ d.From ∧ d.From < x.States ∧ 0 ≤ d.To ∧ d.To < x.States ∧ 0 ≤ d.Label ∧ d.Label < (x.Costs.length : Int)) → Qaj x j = false := by
  intro hn
  cases hb : Qaj x j with
  | false => rfl
  | true =>
   simp only [Qaj, decide_eq_true_eq] at hb
   obtain ⟨a1, a2, a3, a4, a5, a6, _⟩ := hb d hd
   exact absurd ⟨a1, a2, a3, a4, a5, a6⟩ hn
 simp only [Option.bind_some]
 by_cases h1 : d.From < 0
 ·rw [hno (by omega)]; simp [h1]
 by_cases h2 : x.States ≤ d.From
 ·rw [hno (by omega)]; simp [h1, h2]
 by_cases h3 : d.To < 0
 ·rw [hno (by omega)]; simp [h1, h2, h3]
 by_cases h4 : x.States ≤ d.To
 ·rw [hno (by omega)]; simp [h1, h2, h3, h4]
 by_cases h5 : d.Label < 0
 ·rw [hno (by omega)]; simp [h1, h2, h3, h4, h5]
 by_cases h6 : (x.Costs.length : Int) ≤ d.Label
 ·rw [hno (by omega)]; simp [h1, h2, h3, h4, h5, h6]
 by_cases h7 : 0 < j
 ·obtain ⟨a, ha⟩ := QH (show j - 1 < x.Edges.length by omega)
  have hw : IntKind.i64.wrap ((j : Int) - 1) = ((j - 1 : Nat) : Int) := by rw [Jo (by omega) (by omega)]; omega
  have h7' : (0 : Int) < (j : Int) := by omega
  have he : Qaj x j = true ↔ EdLt a d := by
   simp only [Qaj, decide_eq_true_eq]
   constructor
   ·intro hh; exact (hh d hd).2.2.2.2.2.2 a h7 ha
   ·intro hlt d' hd'
    rw [hd] at hd'; cases hd'
    refine ⟨by omega, by omega, by omega, by omega, by omega, by omega, fun a' _ ha' => ?_⟩
    rw [ha] at ha'; cases ha'; exact hlt
  rw [hw, Q6, ha]
  simp only [Option.bind_some, hf, h1, h2, h3, h4, h5, h6, h7', decide_true, decide_false, if_true, Bool.false_eq_true, if_false]
  by_cases hlt : EdLt a d
  ·rw [he.2 hlt]; simp [hlt]
  ·have : Qaj x j = false := by
    cases hb : Qaj x j with
    | false => rfl
    | true => exact absurd (he.1 hb) hlt
   rw [this]; simp [hlt]
 ·have h7' : ¬ (0 : Int) < (j : Int) := by omega
  have he : Qaj x j = true := by
   simp only [Qaj, decide_eq_true_eq]
   intro d' hd'
   rw [hd] at hd'; cases hd'
   exact ⟨by omega, by omega, by omega, by omega, by omega, by omega, fun a' h0 _ => absurd h0 h7⟩
  rw [he]
  simp only [h1, h2, h3, h4, h5, h6, h7', decide_false, Bool.false_eq_true, if_false, if_true, Option.bind_some]
open Classical in
theorem tV (x : System) : Ke x = some (QkX x) := by
 unfold Ke
 rw [QmC]
 by_cases h : x.States < 1 ∨ 4096 < x.States ∨ x.Init < 0 ∨ x.States ≤ x.Init ∨ ¬ (x.Goals.length : Int) = x.States ∨ 4096 < (x.Costs.length : Int) ∨ 65536 < (x.Edges.length : Int)
 ·rw [if_pos (by simpa using h)]
  have : ¬ VSys x := fun hv => by have := hv.s1; have := hv.s2; have := hv.i0; have := hv.i1; have := hv.g; have := hv.c; have := hv.e; omega
  unfold QkX; simp [this]
 ·rw [if_neg (by simpa using h), Qmy x h, QcD (fun j hj => QnU x false j hj)]
  have hl : x.Edges.length ≤ 65536 := by omega
  rw [QcD (fun j hj => QnS x j hj hl (fun a b => (K8 a b).bind fun y => some (decide (0 ≤ y))) (fun a b => by
   rw [QeP]
   simp only [Option.bind_some, Option.some.injEq]
   have := QcE a b
   by_cases hlt : EdLt a b
   ·have h2 : ¬ 0 ≤ Qbs a b := by have := this.2 hlt; omega
    simp [hlt, h2]
   ·have h2 : 0 ≤ Qbs a b := by have h3 : ¬ Qbs a b < 0 := fun h => hlt (this.1 h); omega
    simp [hlt, h2]))]
  cases (List.range x.Costs.length).all (QeH x) <;> cases (List.range x.Edges.length).all (Qaj x) <;> rfl
end Go.Pw
/- -/
namespace Go.Pw
open Classical
/-! ### classes by first occurrence -/
abbrev Rel := Nat → Nat → Prop
structure Eqv (n : Nat) (R : Rel) : Prop where
 refl : ∀ i, i < n → R i i
 symm : ∀ i j, i < n → j < n → R i j → R j i
 trans : ∀ i j k, i < n → j < n → k < n → R i j → R j k → R i k
def Yg (R : Rel) (i : Nat) : Prop := ∀ j, j < i → ¬ R j i
noncomputable def rnk (R : Rel) : Nat → Nat
 | 0 => 0
 | i + 1 => rnk R i + if Yg R i then 1 else 0
theorem Qct (R : Rel) (i : Nat) : rnk R (i + 1) = rnk R i + if Yg R i then 1 else 0 := rfl
theorem rnk_le (R : Rel) (i : Nat) : rnk R i ≤ i := by
 induction i with
 | zero => exact Nat.le_refl _
 | succ i ih => rw [Qct]; split <;> omega
theorem Qdd (R : Rel) {i j : Nat} (h : i ≤ j) : rnk R i ≤ rnk R j := by
 induction h with
 | refl => exact Nat.le_refl _
 | step _ ih => rw [Qct]; omega
theorem Qjg {R : Rel} {i j : Nat} (h : i < j) (hi : Yg R i) : rnk R i < rnk R j := by
 have h1 : rnk R (i + 1) = rnk R i + 1 := by rw [Qct]; simp [hi]
 have h2 : rnk R (i + 1) ≤ rnk R j := Qdd R (Nat.succ_le_of_lt h)
 omega
theorem Qji {n : Nat} {R : Rel} (h : Eqv n R) (i : Nat) (hi : i < n) : ∃ r, r ≤ i ∧ R r i ∧ Yg R r := by
 induction i using Nat.strongRecOn with
 | ind i ih =>
  by_cases hr : Yg R i
  ·exact ⟨i, Nat.le_refl _, h.refl i hi, hr⟩
  ·have : ∃ j, j < i ∧ R j i := by
    apply Classical.byContradiction
    intro hn
    exact hr fun j hj hR => hn ⟨j, hj, hR⟩
   obtain ⟨j, hj, hR⟩ := this
   obtain ⟨r, h1, h2, h3⟩ := ih j hj (by omega)
   exact ⟨r, by omega, h.trans r j i (by omega) (by omega) hi h2 hR, h3⟩
theorem QfQ {n : Nat} {R : Rel} (h : Eqv n R) {i r s : Nat} (hi : i < n) (h1 : r < n) (h2 : s < n) (hr : R r i) (hs : R s i) (pr : Yg R r) (ps : Yg R s) : r = s := by
 have hrs : R r s := h.trans r i s h1 hi h2 hr (h.symm s i h2 hi hs)
 rcases Nat.lt_trichotomy r s with hlt | e | hlt
 ·exact absurd hrs (ps r hlt)
 ·exact e
 ·exact absurd (h.symm r s h1 h2 hrs) (pr s hlt)
def Qda (R : Rel) (i : Nat) (k : Nat) : Prop := ∃ r, r ≤ i ∧ R r i ∧ Yg R r ∧ k = rnk R r
theorem Qeu {n : Nat} {R : Rel} (h : Eqv n R) {i k l : Nat} (hi : i < n) (hk : Qda R i k) (hl : Qda R i l) : k = l := by
 obtain ⟨r, a1, a2, a3, rfl⟩ := hk
 obtain ⟨s, b1, b2, b3, rfl⟩ := hl
 rw [QfQ h hi (by omega) (by omega) a2 b2 a3 b3]
theorem QmK {n : Nat} {R : Rel} (h : Eqv n R) {i j k l : Nat} (hi : i < n) (hj : j < n) (hk : Qda R i k) (hl : Qda R j l) : k = l ↔ R i j := by
 obtain ⟨r, a1, a2, a3, rfl⟩ := hk
 obtain ⟨s, b1, b2, b3, rfl⟩ := hl
 constructor
 ·intro e
  have : r = s := by
   rcases Nat.lt_trichotomy r s with hlt | e' | hlt
   ·have := Qjg hlt a3; omega
   ·exact e'
   ·have := Qjg hlt b3; omega
  subst this
  exact h.trans i r j hi (by omega) hj (h.symm r i (by omega) hi a2) b2
 ·intro hR
  have : R r j := h.trans r i j (by omega) hi hj a2 hR
  rw [QfQ h hj (by omega) (by omega) this b2 a3 b3]
theorem Qlv {n : Nat} {R : Rel} {i k : Nat} (hi : i < n) (hk : Qda R i k) : k < rnk R n := by
 obtain ⟨r, a1, a2, a3, rfl⟩ := hk
 exact Qjg (by omega) a3
theorem Qmd {n : Nat} {R : Rel} (h : Eqv n R) {i : Nat} (hi : i < n) : (Yg R i ∧ Qda R i (rnk R i)) ∨ (¬ Yg R i ∧ ∃ j, j < i ∧ R j i ∧ Yg R j ∧ Qda R i (rnk R j) ∧ Qda R j (rnk R j)) := by
 obtain ⟨r, h1, h2, h3⟩ := Qji h i hi
 by_cases hr : Yg R i
 ·exact .inl ⟨hr, i, Nat.le_refl _, h.refl i hi, hr, rfl⟩
 ·refine .inr ⟨hr, r, ?_, h2, h3, ⟨r, h1, h2, h3, rfl⟩, ⟨r, Nat.le_refl _, h.refl r (by omega), h3, rfl⟩⟩
  rcases Nat.lt_or_ge r i with hlt | hge
  ·exact hlt
  ·have : r = i := by omega
   subst this; exact absurd h3 hr
def ClsL (R : Rel) (n : Nat) (c : List Int) : Prop := c.length = n ∧ ∀ i, i < n → ∃ k : Nat, c[i]? = some (k : Int) ∧ Qda R i k
theorem ClsL.uniq {n : Nat} {R : Rel} (h : Eqv n R) {c d : List Int} (hc : ClsL R n c) (hd : ClsL R n d) : c = d := by
 apply List.ext_getElem?
 intro i
 by_cases hi : i < n
 ·obtain ⟨k, a1, a2⟩ := hc.2 i hi
  obtain ⟨l, b1, b2⟩ := hd.2 i hi
  rw [a1, b1, Qeu h hi a2 b2]
 ·rw [List.getElem?_eq_none (by have := hc.1; omega), List.getElem?_eq_none (by have := hd.1; omega)]
theorem Qfi {n : Nat} {R S : Rel} (e : ∀ i j, i < n → j < n → (R i j ↔ S i j)) {i : Nat} (hi : i < n) : Yg R i ↔ Yg S i := by
 unfold Yg
 constructor
 ·intro h j hj hS; exact h j hj ((e j i (by omega) hi).2 hS)
 ·intro h j hj hS; exact h j hj ((e j i (by omega) hi).1 hS)
theorem Qb8 {n : Nat} {R S : Rel} (e : ∀ i j, i < n → j < n → (R i j ↔ S i j)) {i : Nat} (hi : i ≤ n) : rnk R i = rnk S i := by
 induction i with
 | zero => rfl
 | succ i ih =>
  unfold rnk
  rw [ih (by omega)]
  have := Qfi e (i := i) (by omega)
  by_cases hr : Yg R i
  ·simp [hr, this.1 hr]
  ·have h2 : ¬ Yg S i := fun h => hr (this.2 h)
   simp [hr, h2]
theorem ClsL.congr {n : Nat} {R S : Rel} (e : ∀ i j, i < n → j < n → (R i j ↔ S i j)) {c : List Int} (hc : ClsL R n c) : ClsL S n c := by
 refine ⟨hc.1, fun i hi => ?_⟩
 obtain ⟨k, a1, r, a2, a3, a4, rfl⟩ := hc.2 i hi
 exact ⟨_, a1, r, a2, (e r i (by omega) hi).1 a3, (Qfi e (by omega)).1 a4, Qb8 e (by omega)⟩
theorem ClsL.iff {n : Nat} {R : Rel} (h : Eqv n R) {c : List Int} (hc : ClsL R n c) {i j : Nat} (hi : i < n) (hj : j < n) : c[i]? = c[j]? ↔ R i j := by
 obtain ⟨k, a1, a2⟩ := hc.2 i hi
 obtain ⟨l, b1, b2⟩ := hc.2 j hj
 rw [a1, b1, ← QmK h hi hj a2 b2]
 simp
 omega
/-! ### finer relations -/
theorem Qhb {n : Nat} {R S : Rel} (hR : Eqv n R) (hS : Eqv n S) (sub : ∀ i j, i < n → j < n → S i j → R i j) : ∀ i, i ≤ n → rnk R i ≤ rnk S i := by
 intro i hi
 induction i with
 | zero => exact Nat.le_refl _
 | succ i ih =>
  unfold rnk
  have := ih (by omega)
  by_cases hr : Yg R i
  ·have : Yg S i := fun j hj hSj => hr j hj (sub j i (by omega) (by omega) hSj)
   simp [hr, this]; omega
  ·simp [hr]; omega
theorem Ql7 {n : Nat} {R S : Rel} (hR : Eqv n R) (hS : Eqv n S) (sub : ∀ i j, i < n → j < n → S i j → R i j) (e : rnk R n = rnk S n) : ∀ i j, i < n → j < n → (R i j ↔ S i j) := by
 have key : ∀ m, m ≤ n → rnk R m = rnk S m := by
  intro m hm
  have h1 := Qhb hR hS sub m hm
  have h2 : ∀ d, m + d ≤ n → rnk R (m + d) - rnk R m ≤ rnk S (m + d) - rnk S m := by
   intro d
   induction d with
   | zero => intro _; simp
   | succ d ih =>
    intro hd
    have := ih (by omega)
    have m1 := Qdd R (show m ≤ m + d by omega)
    have m2 := Qdd S (show m ≤ m + d by omega)
    rw [show m + (d + 1) = (m + d) + 1 by omega]
    have e1 : rnk R (m + d + 1) = rnk R (m + d) + if Yg R (m + d) then 1 else 0 := rfl
    have e2 : rnk S (m + d + 1) = rnk S (m + d) + if Yg S (m + d) then 1 else 0 := rfl
    by_cases hr : Yg R (m + d)
    ·have : Yg S (m + d) := fun j hj hSj => hr j hj (sub j _ (by omega) (by omega) hSj)
     rw [e1, e2]; simp only [hr, this, if_true]; omega
    ·rw [e1, e2]; simp only [hr, if_false]; split <;> omega
  have h3 := h2 (n - m) (by omega)
  rw [show m + (n - m) = n by omega] at h3
  have m1 := Qdd R hm
  have m2 := Qdd S hm
  omega
 have reps : ∀ i, i < n → Yg S i → Yg R i := by
  intro i hi hS'
  have a := key i (by omega)
  have b := key (i + 1) (by omega)
  unfold rnk at b
  by_cases hr : Yg R i
  ·exact hr
  ·simp only [hr, hS', if_true, if_false] at b; omega
 intro i j hi hj
 refine ⟨fun h => ?_, sub i j hi hj⟩
 obtain ⟨r, a1, a2, a3⟩ := Qji hS i hi
 obtain ⟨s, b1, b2, b3⟩ := Qji hS j hj
 have hr := reps r (by omega) a3
 have hs := reps s (by omega) b3
 have h1 : R r j := hR.trans r i j (by omega) hi hj (sub r i (by omega) hi a2) h
 have := QfQ hR hj (by omega) (by omega) h1 (sub s j (by omega) hj b2) hr hs
 subst this
 exact hS.trans i r j hi (by omega) hj (hS.symm r i (by omega) hi a2) b2
/-! ### stable relations -/
structure TS where
 n : Nat
 goal : Nat → Bool
 edge : Nat → Nat → Nat → Prop
 rng : ∀ i l t, edge i l t → i < n ∧ t < n
def Qht (x : TS) (R : Rel) (i j : Nat) : Prop := ∀ l t, x.edge i l t → ∃ u, x.edge j l u ∧ R t u
def sig (x : TS) (R : Rel) : Rel := fun i j => Qht x R i j ∧ Qht x R j i
theorem Qf4 {x : TS} {R : Rel} (h : Eqv x.n R) : Eqv x.n (sig x R) := by
 have hr : ∀ i, Qht x R i i := fun i l t e => ⟨t, e, h.refl t (x.rng _ _ _ e).2⟩
 have ht : ∀ i j k, Qht x R i j → Qht x R j k → Qht x R i k := by
  intro i j k h1 h2 l t e
  obtain ⟨u, e1, r1⟩ := h1 l t e
  obtain ⟨v, e2, r2⟩ := h2 l u e1
  exact ⟨v, e2, h.trans t u v (x.rng _ _ _ e).2 (x.rng _ _ _ e1).2 (x.rng _ _ _ e2).2 r1 r2⟩
 exact ⟨fun i _ => ⟨hr i, hr i⟩, fun i j _ _ h => ⟨h.2, h.1⟩, fun i j k _ _ _ h1 h2 => ⟨ht i j k h1.1 h2.1, ht k j i h2.2 h1.2⟩⟩
def Rel.and (R S : Rel) : Rel := fun i j => R i j ∧ S i j
theorem Eqv.and {n : Nat} {R S : Rel} (h : Eqv n R) (k : Eqv n S) : Eqv n (R.and S) :=
 ⟨fun i hi => ⟨h.refl i hi, k.refl i hi⟩, fun i j hi hj p => ⟨h.symm i j hi hj p.1, k.symm i j hi hj p.2⟩, fun i j l hi hj hl p q => ⟨h.trans i j l hi hj hl p.1 q.1, k.trans i j l hi hj hl p.2 q.2⟩⟩
def Qil (x : TS) : Rel := fun i j => x.goal i = x.goal j
theorem QkA (x : TS) : Eqv x.n (Qil x) := ⟨fun _ _ => rfl, fun _ _ _ _ h => h.symm, fun _ _ _ _ _ _ h k => h.trans k⟩
def QgC (n : Nat) (R S : Rel) : Prop := ∀ i j, i < n → j < n → R i j → S i j
structure Stable (x : TS) (R : Rel) : Prop where
 eqv : Eqv x.n R
 goal : QgC x.n R (Qil x)
 sig : QgC x.n R (sig x R)
theorem Qhj {x : TS} {R S : Rel} (h : QgC x.n R S) {i j : Nat} (k : Qht x R i j) : Qht x S i j := by
 intro l t e
 obtain ⟨u, e1, r1⟩ := k l t e
 exact ⟨u, e1, h t u (x.rng _ _ _ e).2 (x.rng _ _ _ e1).2 r1⟩
theorem Qit {x : TS} {R S : Rel} (h : QgC x.n R S) : ∀ i j, sig x R i j → sig x S i j := fun i j k => ⟨Qhj h k.1, Qhj h k.2⟩
theorem Stable.keep {x : TS} {S R : Rel} (h : Stable x S) (k : QgC x.n S R) : QgC x.n S (R.and (Go.Pw.sig x R)) := fun i j hi hj hS => ⟨k i j hi hj hS, Qit k i j (h.sig i j hi hj hS)⟩
theorem Stable.uniq {x : TS} {R S : Rel} (hR : Stable x R) (hS : Stable x S) (cR : ∀ T, Stable x T → QgC x.n T R) (cS : ∀ T, Stable x T → QgC x.n T S) : ∀ i j, i < x.n → j < x.n → (R i j ↔ S i j) :=
 fun i j hi hj => ⟨cS R hR i j hi hj, cR S hS i j hi hj⟩
end Go.Pw
/- -/
set_option maxHeartbeats 4000000
namespace Go.Pw
theorem Ka {α : Type} {xs : List α} {i : Nat} (h : i < xs.length) : ∃ y, xs[i]? = some y := ⟨xs[i], by simp [h]⟩
noncomputable def Qet {α : Type} (eq : α → α → Bool) (z : α) (s : List α) : Option (Nat × (List α)) :=
 if decide ((s.length : Int) < 2) then (some ((s).length, s))
 else (ctl (Kw (R := (Nat × (List α))) (fun (k : Int) => if decide (k < (s.length : Int)) then ((Jc s k).bind fun x =>
 (Jc s (IntKind.i64.wrap (k - 1))).bind fun y =>
 if eq x y then ((QaG s k (s.length : Int)).bind fun n =>
 ctl (Kw (R := (Nat × (List α))) (un3 fun (k9 : Int) (k2 : Int) (l : (List α)) => if decide (k2 < (n : Int)) then ((Qcf l k n k2).bind fun a =>
 (Qcf l k n (IntKind.i64.wrap (k2 - 1))).bind fun b =>
 (if !(eq a b) then ((Qcf l k n k2).bind fun c =>
 (Jc l k9).bind fun d =>
 (Kv l k9 c).bind fun l' =>
 some (IntKind.i64.wrap (k9 + 1), l'))
 else (some (k9, l))).bind (J2 fun (k9 : Int) (l : (List α)) => some (Ctl.next (k9, IntKind.i64.wrap (k2 + 1), l))))
 else (some (Ctl.brk (k9, k2, l)))) (k, 1, s)) (fun r => some (Ctl.ret r)) (un3 fun (k9 : Int) (k2 : Int) (l : (List α)) => (QaG l k9 (l.length : Int)).bind fun n1 =>
 (QaG ((l).take (k9).toNat ++ List.replicate n1 z ++ (l).drop ((k9).toNat + n1)) 0 k9).bind fun n2 =>
 some (Ctl.ret (n2, (l).take (k9).toNat ++ List.replicate n1 z ++ (l).drop ((k9).toNat + n1)))))
 else (some (Ctl.next (IntKind.i64.wrap (k + 1)))))
 else (some (Ctl.brk k))) 1) (fun r => some r) (fun (k : Int) => some ((s).length, s)))
open Classical in
noncomputable def dd {α : Type} : Option α → List α → List α
 | _, [] => []
 | p, x :: r => if p = some x then dd (some x) r else x :: dd (some x) r
def QdR {α : Type} (p : Option α) (l : List α) : Option α := match l.getLast? with | some x => some x | none => p
open Classical in
theorem Qka {α : Type} (x : α) : ∀ (l : List α) (p : Option α), dd p (l ++ [x]) = dd p l ++ (if QdR p l = some x then [] else [x])
 | [], p => by by_cases h : p = some x <;> simp [dd, QdR, h]
 | y :: l, p => by
  have ih := Qka x l (some y)
  have e : QdR p (y :: l) = QdR (some y) l := by cases l <;> simp [QdR, List.getLast?_cons]
  rw [e]
  simp only [List.cons_append, dd]
  by_cases h : p = some y
  ·rw [if_pos h, if_pos h, ih]
  ·rw [if_neg h, if_neg h, ih]; rfl
theorem Qh3 {α : Type} : ∀ (l : List α) (p : Option α), (dd p l).length ≤ l.length
 | [], p => by simp [dd]
 | y :: l, p => by
  have ih := Qh3 l (some y)
  simp only [dd]
  split <;> simp <;> omega
theorem Qlt {α : Type} : ∀ (l : List α) (p : Option α), (dd p l).Sublist l
 | [], p => by simp [dd]
 | y :: l, p => by
  have ih := Qlt l (some y)
  simp only [dd]
  split
  ·exact ih.cons _
  ·exact ih.cons_cons _
theorem Qlu {α : Type} {x : α} : ∀ (l : List α) (p : Option α), x ∈ l → x ∈ dd p l ∨ p = some x
 | [], p, h => by simp at h
 | y :: l, p, h => by
  simp only [dd]
  rcases List.mem_cons.1 h with rfl | h
  ·by_cases hp : p = some x
   ·exact .inr hp
   ·rw [if_neg hp]; exact .inl (by simp)
  ·rcases Qlu l (some y) h with h1 | h1
   ·left; split
    ·exact h1
    ·exact List.mem_cons_of_mem _ h1
   ·cases h1
    by_cases hp : p = some x
    ·exact .inr hp
    ·rw [if_neg hp]; exact .inl (by simp)
theorem Qjk {α : Type} {x : α} (l : List α) : x ∈ dd none l ↔ x ∈ l := ⟨fun h => (Qlt l none).subset h, fun h => (Qlu l none h).resolve_right (by simp)⟩
theorem Qd5 {α : Type} {le lt : α → α → Prop} (h : ∀ a b, le a b → a ≠ b → lt a b) (tr : ∀ a b c, le a b → lt b c → lt a c) (tr2 : ∀ a b c, le a b → le b c → le a c) : ∀ (l : List α) (p : Option α), l.Pairwise le → (∀ q, p = some q → ∀ x ∈ l, le q x) → (dd p l).Pairwise lt ∧ ∀ q, p = some q → ∀ x ∈ dd p l, lt q x
 | [], p, _, _ => by simp [dd]
 | y :: l, p, hs, hp => by
  obtain ⟨h1, h2⟩ := List.pairwise_cons.1 hs
  obtain ⟨i1, i2⟩ := Qd5 h tr tr2 l (some y) h2 fun q hq x hx => by cases hq; exact h1 x hx
  simp only [dd]
  by_cases e : p = some y
  ·rw [if_pos e]
   exact ⟨i1, fun q hq x hx => by rw [e] at hq; cases hq; exact i2 y rfl x hx⟩
  ·rw [if_neg e]
   refine ⟨List.pairwise_cons.2 ⟨i2 y rfl, i1⟩, fun q hq x hx => ?_⟩
   have hqy : le q y := hp q hq y (by simp)
   rcases List.mem_cons.1 hx with rfl | hx
   ·exact h q x hqy fun e2 => e (by rw [hq, e2])
   ·exact tr q y x hqy (i2 y rfl x hx)
theorem QiM {α : Type} {s : List α} {i : Nat} (h0 : 0 < i) (h : i ≤ s.length) : QdR none (s.take i) = s[i - 1]? := by
 unfold QdR
 rw [List.getLast?_take, if_neg (by omega)]
 obtain ⟨y, hy⟩ := Ka (show i - 1 < s.length by omega)
 rw [hy]
 simp
open Classical in
theorem QjZ {α : Type} {s : List α} {i : Nat} {x y : α} (h0 : 0 < i) (hx : s[i]? = some x) (hy : s[i - 1]? = some y) : dd none (s.take (i + 1)) = dd none (s.take i) ++ (if x = y then [] else [x]) := by
 have hi : i < s.length := (List.getElem?_eq_some_iff.1 hx).1
 rw [List.take_add_one, hx, Option.toList_some, Qka, QiM h0 (by omega), hy]
 by_cases e : x = y
 ·subst e; simp
 ·rw [if_neg (fun h => e (Zu h).symm), if_neg e]
theorem QdZ {α : Type} {eq : α → α → Bool} (heq : ∀ a b, eq a b = true ↔ a = b) (z : α) (s : List α) (hl : s.length ≤ 4000000000) :
  Ok (Qet eq z s) fun r => r.1 ≤ s.length ∧ r.2.length = s.length ∧ r.2.take r.1 = dd none s := by
 unfold Qet
 by_cases h2 : (s.length : Int) < 2
 ·rw [if_pos (by simpa using h2)]
  refine Ok.ret ⟨Nat.le_refl _, rfl, ?_⟩
  match s, h2 with
  | [], _ => rfl
  | [x], _ => simp [dd]
  | _ :: _ :: _, h2 => simp at h2; omega
 ·rw [if_neg (by simpa using h2)]
  have hlen : 2 ≤ s.length := by omega
  refine YZ (fun k : Int => ∃ n : Nat, k = (n : Int) ∧ 1 ≤ n ∧ n ≤ s.length ∧ dd none (s.take n) = s.take n) (fun _ => dd none s = s) (fun r => r.1 ≤ s.length ∧ r.2.length = s.length ∧ r.2.take r.1 = dd none s) (fun k => s.length - k.toNat) ⟨1, rfl, Nat.le_refl _, by omega, ?_⟩ ?_ (fun r h => Ok.ret h) (fun k h => Ok.ret ⟨Nat.le_refl _, rfl, by rw [List.take_length, h]⟩)
  ·match s, hlen with
   | x :: _, _ => simp [dd]
  ·rintro k ⟨n, rfl, hn1, hn2, hd⟩
   by_cases hlt : (n : Int) < (s.length : Int)
   ·simp only [hlt, decide_true, if_true]
    obtain ⟨x, hx⟩ := Ka (show n < s.length by omega)
    obtain ⟨y, hy⟩ := Ka (show n - 1 < s.length by omega)
    have hw : IntKind.i64.wrap ((n : Int) - 1) = ((n - 1 : Nat) : Int) := by rw [Jo (by omega) (by omega)]; omega
    have hw2 : IntKind.i64.wrap ((n : Int) + 1) = ((n + 1 : Nat) : Int) := by rw [Jo (by omega) (by omega)]; omega
    simp only [hw, hw2, Q6, hx, hy, Option.bind_some]
    have hstep := QjZ (by omega) hx hy
    by_cases he : eq x y = true
    ·have hxy := (heq x y).1 he
     simp only [he, if_true]
     rw [if_pos hxy, List.append_nil] at hstep
     have hv : QaG s (n : Int) (s.length : Int) = some (s.length - n) := by
      unfold QaG; rw [if_pos (by omega)]; congr 1; omega
     rw [hv]
     simp only [Option.bind_some]
     refine (YZ (fun t : Int × Int × List α => ∃ a b : Nat, t.1 = (a : Int) ∧ t.2.1 = (b : Int) ∧ 1 ≤ b ∧ b ≤ s.length - n ∧ a ≤ n + b - 1 ∧ t.2.2.length = s.length ∧ (dd none (s.take (n + b))).length = a ∧ t.2.2.take a = dd none (s.take (n + b)) ∧ ∀ j, n + b - 1 ≤ j → t.2.2[j]? = s[j]?)
      (fun t => ∃ a : Nat, t.1 = (a : Int) ∧ a ≤ s.length ∧ t.2.2.length = s.length ∧ t.2.2.take a = dd none s) (fun _ => False) (fun t => s.length - t.2.1.toNat) ⟨n, 1, rfl, rfl, Nat.le_refl _, by omega, by omega, rfl, ?_, ?_, fun j _ => rfl⟩ ?_ (fun _ h => h.elim) ?_).mono fun c hc => hc
     ·rw [hstep, hd]; simp; omega
     ·rw [hstep, hd]
     ·rintro ⟨a', b', l⟩ ⟨a, b, e1, e2, hb1, hb2, ha, hll, hdl, ht, hge⟩
      simp only at e1 e2 hll ht hge
      subst e1 e2
      simp only [un3]
      by_cases hbn : (b : Int) < ((s.length - n : Nat) : Int)
      ·simp only [hbn, decide_true, if_true]
       obtain ⟨u, hu⟩ := Ka (show n + b < s.length by omega)
       obtain ⟨v, hv⟩ := Ka (show n + b - 1 < s.length by omega)
       have hw3 : IntKind.i64.wrap ((b : Int) - 1) = ((b - 1 : Nat) : Int) := by rw [Jo (by omega) (by omega)]; omega
       have hw4 : IntKind.i64.wrap ((b : Int) + 1) = ((b + 1 : Nat) : Int) := by rw [Jo (by omega) (by omega)]; omega
       have hw5 : IntKind.i64.wrap ((a : Int) + 1) = ((a + 1 : Nat) : Int) := by rw [Jo (by omega) (by omega)]; omega
       have i1 : Qcf l (n : Int) (s.length - n) (b : Int) = some u := by
        unfold Qcf; rw [if_pos (by omega), show (n : Int) + (b : Int) = ((n + b : Nat) : Int) by omega, Q6, hge _ (by omega), hu]
       have i2 : Qcf l (n : Int) (s.length - n) ((b - 1 : Nat) : Int) = some v := by
        unfold Qcf; rw [if_pos (by omega), show (n : Int) + ((b - 1 : Nat) : Int) = ((n + b - 1 : Nat) : Int) by omega, Q6, hge _ (by omega), hv]
       have hst := QjZ (s := s) (i := n + b) (by omega) hu hv
       simp only [hw3, hw4, hw5, i1, i2, Option.bind_some]
       by_cases huv : eq u v = true
       ·have := (heq u v).1 huv
        rw [if_pos this, List.append_nil] at hst
        simp only [huv, Bool.not_true, Bool.false_eq_true, if_false, Option.bind_some, J2]
        refine ⟨_, rfl, fun s' e => ?_, fun s' e => (by cases e), fun r e => (by cases e)⟩
        cases e
        refine ⟨⟨a, b + 1, rfl, rfl, by omega, by omega, by omega, hll, ?_, ?_, fun j hj => hge j (by omega)⟩, ?_⟩
        ·rw [← Nat.add_assoc, hst]; exact hdl
        ·rw [← Nat.add_assoc, hst]; exact ht
        ·simp only; omega
       ·have hne : u ≠ v := fun e => huv ((heq u v).2 e)
        have huv' : eq u v = false := by simpa using huv
        rw [if_neg hne] at hst
        obtain ⟨d, hdd⟩ := Ka (show a < l.length by omega)
        simp only [huv', Bool.not_false, if_true, Option.bind_some, J2, Q6, hdd]
        rw [JB (by omega)]
        simp only [Option.bind_some]
        refine ⟨_, rfl, fun s' e => ?_, fun s' e => (by cases e), fun r e => (by cases e)⟩
        cases e
        refine ⟨⟨a + 1, b + 1, rfl, rfl, by omega, by omega, by omega, by simp [hll], ?_, ?_, fun j hj => ?_⟩, ?_⟩
        ·rw [← Nat.add_assoc, hst, List.length_append, hdl]; rfl
        ·rw [← Nat.add_assoc, hst, ← ht, List.take_add_one, List.getElem?_set_self (by omega), List.take_set_of_le (by omega)]
         rfl
        ·rw [List.getElem?_set_ne (by omega)]; exact hge j (by omega)
        ·simp only; omega
      ·have hbe : n + b = s.length := by omega
       simp only [hbn, decide_false, Bool.false_eq_true, if_false]
       refine ⟨_, rfl, fun s' e => (by cases e), fun s' e => ?_, fun r e => (by cases e)⟩
       cases e
       refine ⟨a, rfl, by omega, hll, ?_⟩
       rw [hbe, List.take_length] at ht
       exact ht
     ·rintro ⟨a', b', l⟩ ⟨a, e1, ha, hll, ht⟩
      simp only at e1 hll ht
      subst e1
      simp only [un3]
      have hv1 : QaG l (a : Int) (l.length : Int) = some (l.length - a) := by
       unfold QaG; rw [if_pos (by omega)]; congr 1; omega
      have hll2 : (l.take ((a : Int)).toNat ++ List.replicate (l.length - a) z ++ l.drop (((a : Int)).toNat + (l.length - a))).length = s.length := by simp; omega
      have hv2 : QaG (l.take ((a : Int)).toNat ++ List.replicate (l.length - a) z ++ l.drop (((a : Int)).toNat + (l.length - a))) 0 (a : Int) = some a := by
       unfold QaG; rw [hll2, if_pos (by omega)]; congr 1
      rw [hv1]
      simp only [Option.bind_some]
      rw [hv2]
      simp only [Option.bind_some]
      refine ⟨_, rfl, fun s' e => (by cases e), fun s' e => (by cases e), fun r e => ?_⟩
      cases e
      refine ⟨ha, hll2, ?_⟩
      rw [List.append_assoc, List.take_append_of_le_length (by simp; omega), List.take_take, ← ht]
      simp
    ·have hne : x ≠ y := fun e => he ((heq x y).2 e)
     have he' : eq x y = false := by simpa using he
     simp only [he', Bool.false_eq_true, if_false]
     rw [if_neg hne, hd] at hstep
     refine ⟨_, rfl, fun s' e => ?_, fun s' e => (by cases e), fun r e => (by cases e)⟩
     cases e
     refine ⟨⟨n + 1, rfl, by omega, by omega, ?_⟩, by omega⟩
     rw [hstep, List.take_add_one, hx]
     rfl
   ·have : n = s.length := by omega
    subst this
    simp only [hlt, decide_false, Bool.false_eq_true, if_false]
    refine ⟨_, rfl, fun s' e => (by cases e), fun s' e => ?_, fun r e => (by cases e)⟩
    rw [List.take_length] at hd
    exact hd
end Go.Pw
/- -/
set_option maxHeartbeats 4000000
namespace Go.Pw
open Classical in
theorem QlX {α β : Type} (t : α → α → Bool) (ht : ∀ x y, t x y = true ↔ x ≠ y) (xs ys : List α) (hl : xs.length = ys.length) {kr : Bool → Option β} {k : Unit → Option β} :
  ctl (JS (R := Bool) (fun i => fun (_ : Unit) => (Jc xs (i : Int)).bind fun x => (Jc ys (i : Int)).bind fun y => if t x y then some (Ctl.ret false) else some (Ctl.next ())) xs.length 0 ()) kr k = if xs = ys then k () else kr false := by
 rw [QcD (p := fun i => decide (xs[i]? = ys[i]?)) (r := false)]
 ·by_cases h : xs = ys
  ·subst h; simp
  ·rw [if_neg h, if_neg]
   intro hall
   apply h
   apply List.ext_getElem?
   intro i
   by_cases hi : i < xs.length
   ·have := List.all_eq_true.1 hall i (by simpa using hi)
    simpa using this
   ·rw [List.getElem?_eq_none (by omega), List.getElem?_eq_none (by omega)]
 ·intro i hi
  obtain ⟨x, hx⟩ := Ka hi
  obtain ⟨y, hy⟩ := Ka (show i < ys.length by omega)
  simp only [Q6, hx, hy, Option.bind_some, Option.some.injEq]
  by_cases e : x = y
  ·have : t x y = false := by
    cases ht' : t x y with
    | false => rfl
    | true => exact absurd e ((ht x y).1 ht')
   subst e
   simp [this]
  ·simp [(ht x y).2 e, e]
theorem QlN (xs ys : List Int) : (if !decide ((xs.length : Int) = (ys.length : Int)) then (some false)
 else (ctl (JS (R := (Bool)) (fun i => fun (_ : Unit) => (Jc xs (i : Int)).bind fun x => (Jc ys (i : Int)).bind fun y =>
 if !decide (x = y) then (some (Ctl.ret false)) else (some (Ctl.next ()))) (xs.length) 0 ()) (fun r => some r) (fun (_ : Unit) => some true))) = some (decide (xs = ys)) := by
 by_cases h : xs.length = ys.length
 ·rw [if_neg (by simp [h]), QlX (fun x y => !decide (x = y)) (by simp) xs ys h]
  by_cases e : xs = ys <;> simp [e]
 ·rw [if_pos (by simp; omega)]
  have : xs ≠ ys := fun e => h (by rw [e])
  simp [this]
def eqL {α : Type} (l : List α) : Rel := fun i j => l[i]? = l[j]?
theorem Y6 {α : Type} (l : List α) (n : Nat) : Eqv n (eqL l) := ⟨fun _ _ => rfl, fun _ _ _ _ h => Eq.symm h, fun _ _ _ _ _ _ h k => Eq.trans h k⟩
theorem ClsL.eqL {n : Nat} {R : Rel} (h : Eqv n R) {c : List Int} (hc : ClsL R n c) : (∀ i j, i < n → j < n → (R i j ↔ Go.Pw.eqL c i j)) ∧ ClsL (Go.Pw.eqL c) n c := by
 have e : ∀ i j, i < n → j < n → (R i j ↔ Go.Pw.eqL c i j) := fun i j hi hj => (hc.iff h hi hj).symm
 exact ⟨e, hc.congr e⟩
def Ql0 (X : TS) (R : Rel) : Prop := ∀ T, Stable X T → QgC X.n T R
def IsBis (X : TS) (c : List Int) : Prop := Stable X (eqL c) ∧ Ql0 X (eqL c) ∧ ClsL (eqL c) X.n c
theorem IsBis.uniq {X : TS} {c d : List Int} (hc : IsBis X c) (hd : IsBis X d) : c = d :=
 hc.2.2.uniq (Y6 c _) (hd.2.2.congr (Stable.uniq hd.1 hc.1 hd.2.1 hc.2.1))
structure BisI (X : TS) (c : List Int) : Prop where
 goal : QgC X.n (eqL c) (Qil X)
 coarse : Ql0 X (eqL c)
 cls : ClsL (eqL c) X.n c
theorem BisI.next {X : TS} {c d : List Int} (h : BisI X c) (hd : ClsL ((eqL c).and (sig X (eqL c))) X.n d) : BisI X d := by
 have hE : Eqv X.n ((eqL c).and (sig X (eqL c))) := (Y6 c _).and (Qf4 (Y6 c _))
 obtain ⟨e, h2⟩ := hd.eqL hE
 refine ⟨fun i j hi hj k => h.goal i j hi hj ((e i j hi hj).2 k).1, fun T hT i j hi hj k => ?_, h2⟩
 exact (e i j hi hj).1 (hT.keep (h.coarse T hT) i j hi hj k)
theorem QiW {X : TS} {c d : List Int} (hd : ClsL ((eqL c).and (sig X (eqL c))) X.n d) : rnk (eqL c) X.n ≤ rnk (eqL d) X.n := by
 have hE : Eqv X.n ((eqL c).and (sig X (eqL c))) := (Y6 c _).and (Qf4 (Y6 c _))
 obtain ⟨e, h2⟩ := hd.eqL hE
 rw [← Qb8 e (Nat.le_refl _)]
 exact Qhb (Y6 c _) hE (fun i j hi hj k => k.1) _ (Nat.le_refl _)
theorem BisI.stop {X : TS} {c d : List Int} (h : BisI X c) (hd : ClsL ((eqL c).and (sig X (eqL c))) X.n d) (e : rnk (eqL c) X.n = rnk (eqL d) X.n) : IsBis X d := by
 have hE : Eqv X.n ((eqL c).and (sig X (eqL c))) := (Y6 c _).and (Qf4 (Y6 c _))
 have hn := h.next hd
 obtain ⟨e1, h2⟩ := hd.eqL hE
 have e2 := Ql7 (Y6 c X.n) hE (fun i j hi hj k => k.1) (by rw [e, Qb8 e1 (Nat.le_refl _)])
 refine ⟨⟨Y6 d _, hn.goal, fun i j hi hj k => ?_⟩, hn.coarse, hn.cls⟩
 have k2 := (e1 i j hi hj).2 k
 exact Qit (fun i j hi hj q => (e1 i j hi hj).1 ((e2 i j hi hj).1 q)) i j k2.2
theorem QmZ (R : Rel) (n : Nat) : rnk R n ≤ n := rnk_le R n
end Go.Pw
/- -/
set_option maxHeartbeats 4000000
namespace Go.Pw
theorem Qh5 {a b : ByteArray} (h : a.data.toList = b.data.toList) : a = b := by
 obtain ⟨⟨a⟩⟩ := a
 obtain ⟨⟨b⟩⟩ := b
 simp at h
 rw [h]
structure NumI (l : List ByteArray) (i : Nat) (out : List Int) (m : Qcg) : Prop where
 len : out.length = i
 cls : ∀ j, j < i → ∃ k : Nat, out[j]? = some (k : Int) ∧ Qda (eqL l) j k
 ml : m.length = rnk (eqL l) i
 hit : ∀ j k s, j < i → Qda (eqL l) j k → l[j]? = some s → Qcn m s = some (k : Int)
 miss : ∀ s, (∀ j, j < i → l[j]? ≠ some s) → Qcn m s = none
theorem Qfg (l : List ByteArray) (hl : l.length ≤ 100000) (hs : ∀ s ∈ l, s.size ≤ 100000000) :
  Ok (Ks l) fun r => ClsL (eqL l) l.length r.1 ∧ r.2 = (rnk (eqL l) l.length : Int) := by
 unfold Ks
 refine Ok.bind (J5 (fun i (s : List Int × Qcg) => NumI l i s.1 s.2) ⟨Z, fun j h => absurd h (Nat.not_lt_zero _), Z, fun j k s h => absurd h (Nat.not_lt_zero _), fun s _ => rfl⟩ ?_ ?_)
 ·rintro i ⟨out, m⟩ hi hI
  obtain ⟨x, hx⟩ := QH hi
  have hxs := hs x (List.mem_of_getElem? hx)
  have hE := Y6 l l.length
  have hml : m.length ≤ 100000 := by
   have := rnk_le (eqL l) i
   rw [hI.ml]; omega
  simp only [J2, Q6, hx, Option.bind_some]
  have hg : QfH m x = some ((Qcn m x).getD 0, (Qcn m x).isSome) := by unfold QfH; rw [if_pos (by simp only [maxLen]; omega)]
  rw [hg]
  simp only [Option.bind_some]
  have hlen := hI.len
  rcases Qmd hE hi with ⟨hr, hc⟩ | ⟨hr, j, hj, hR, hjr, hci, hcj⟩
  ·have hmiss : Qcn m x = none := hI.miss x fun j hj e => hr j hj (by unfold eqL; rw [e, hx])
   have hp : QfG m x (m.length : Int) = some (QgA m x (m.length : Int)) := by unfold QfG; rw [if_pos (by simp only [maxLen]; omega)]
   simp only [hmiss, Option.isSome_none, Bool.not_false, if_true, hp, Option.bind_some, J2]
   refine Ok.step (JM (by simp only [List.length_singleton]; simp only at hlen; omega)) (Ok.ret ⟨?_, ?_, ?_, ?_, ?_⟩)
   ·simp only [List.length_append, List.length_singleton]; simp only at hlen; omega
   ·intro q hq
    simp only at hlen ⊢
    by_cases e : q = i
    ·subst e
     exact ⟨rnk (eqL l) q, by rw [List.getElem?_append_right (by omega), hlen, Nat.sub_self, hI.ml]; rfl, hc⟩
    ·obtain ⟨k, h1, h2⟩ := hI.cls q (by omega)
     exact ⟨k, by rw [List.getElem?_append_left (by omega)]; exact h1, h2⟩
   ·rw [Qfh, hmiss, Qct]
    simp [hr, hI.ml]
   ·intro q k s hq hcq hqs
    rw [Qeq]
    by_cases e : q = i
    ·subst e
     rw [hx] at hqs; cases hqs
     rw [if_pos rfl, hI.ml, Qeu hE hi hcq hc]
    ·have hqi : q < i := by omega
     have hne : ¬ x.data.toList = s.data.toList := fun e2 => hr q hqi (by unfold eqL; rw [hqs, hx, Qh5 e2])
     rw [if_neg hne]
     exact hI.hit q k s hqi hcq hqs
   ·intro s hall
    rw [Qeq]
    have hne : ¬ x.data.toList = s.data.toList := fun e2 => hall i (by omega) (by rw [hx, Qh5 e2])
    rw [if_neg hne]
    exact hI.miss s fun q hq => hall q (by omega)
  ·obtain ⟨y, hy⟩ := QH (show j < l.length by omega)
   have hxy : y = x := by have : l[j]? = l[i]? := hR; rw [hy, hx] at this; exact Zu this
   subst hxy
   have hhit := hI.hit j _ y hj hcj hy
   simp only [hhit, Option.isSome_some, Bool.not_true, Bool.false_eq_true, if_false, Option.bind_some, J2, Option.getD_some]
   refine Ok.step (JM (by simp only [List.length_singleton]; simp only at hlen; omega)) (Ok.ret ⟨?_, ?_, ?_, ?_, ?_⟩)
   ·simp only [List.length_append, List.length_singleton]; simp only at hlen; omega
   ·intro q hq
    simp only at hlen ⊢
    by_cases e : q = i
    ·subst e
     exact ⟨rnk (eqL l) j, by rw [List.getElem?_append_right (by omega), hlen, Nat.sub_self]; rfl, hci⟩
    ·obtain ⟨k, h1, h2⟩ := hI.cls q (by omega)
     exact ⟨k, by rw [List.getElem?_append_left (by omega)]; exact h1, h2⟩
   ·rw [Qct]
    simp [hr, hI.ml]
   ·intro q k s hq hcq hqs
    by_cases e : q = i
    ·subst e
     rw [hx] at hqs; cases hqs
     rw [hhit, Qeu hE hi hcq hci]
    ·exact hI.hit q k s (by omega) hcq hqs
   ·intro s hall
    exact hI.miss s fun q hq => hall q (by omega)
 ·rintro ⟨out, m⟩ hI
  simp only [J2]
  exact Ok.ret ⟨⟨hI.len, hI.cls⟩, by rw [hI.ml]⟩
end Go.Pw
/- -/
set_option maxHeartbeats 4000000
set_option maxRecDepth 100000
namespace Go.Pw
def Qb3 (n : Nat) : List UInt8 := if n < 10 then [UInt8.ofNat (48 + n)] else [UInt8.ofNat (48 + n / 10), UInt8.ofNat (48 + n % 10)]
def Qij (n : Nat) : ByteArray := ⟨(Qb3 n).toArray⟩
theorem QlL : ∀ k : Fin 100, (KO (k.val : Int)).map (fun b => b.data.toList) = some (Qb3 k.val) := by decide +kernel
theorem QhG {n : Nat} (h : n < 100) : KO (n : Int) = some (Qij n) := by
 have := QlL ⟨n, h⟩
 simp only at this
 obtain ⟨b, h1, h2⟩ := Option.map_eq_some_iff.1 this
 rw [h1]
 congr 1
 exact Qh5 (by rw [h2]; simp [Qij])
def QnK : List UInt8 → Nat
 | [a] => a.toNat - 48
 | [a, b] => (a.toNat - 48) * 10 + (b.toNat - 48)
 | _ => 0
theorem Qdf : ∀ k : Fin 100, QnK (Qb3 k.val) = k.val ∧ (Qb3 k.val).all (fun b => decide (48 ≤ b.toNat) && decide (b.toNat ≤ 57)) = true ∧ 1 ≤ (Qb3 k.val).length ∧ (Qb3 k.val).length ≤ 2 := by decide +kernel
def QdG (b : UInt8) : Prop := 48 ≤ b.toNat ∧ b.toNat ≤ 57
theorem Qcv {n : Nat} (h : n < 100) : ∀ b ∈ Qb3 n, QdG b := by
 intro b hb
 have := List.all_eq_true.1 (Qdf ⟨n, h⟩).2.1 b hb
 simpa [QdG] using this
theorem QmH {n : Nat} (h : n < 100) : Qb3 n ≠ [] := by
 intro e
 have := (Qdf ⟨n, h⟩).2.2.1
 simp only [e] at this
 simp at this
theorem QbE {n : Nat} (h : n < 100) : (Qb3 n).length ≤ 2 := (Qdf ⟨n, h⟩).2.2.2
theorem QfW {n m : Nat} (hn : n < 100) (hm : m < 100) (e : Qb3 n = Qb3 m) : n = m := by
 have h1 := (Qdf ⟨n, hn⟩).1
 have h2 := (Qdf ⟨m, hm⟩).1
 simp only at h1 h2
 rw [← h1, ← h2, e]
theorem Qd4 : ∀ {a b r q : List UInt8}, (∀ x ∈ a, QdG x) → (∀ x ∈ b, QdG x) → (∀ x, r.head? = some x → ¬ QdG x) → (∀ x, q.head? = some x → ¬ QdG x) → a ++ r = b ++ q → a = b ∧ r = q
 | [], [], _, _, _, _, _, _, e => ⟨rfl, e⟩
 | [], y :: b, r, q, _, hb, hr, _, e => by
  simp only [List.nil_append] at e
  exact absurd (hb y (by simp)) (hr y (by rw [e]; rfl))
 | x :: a, [], r, q, ha, _, _, hq, e => by
  simp only [List.nil_append] at e
  exact absurd (ha x (by simp)) (hq x (by rw [← e]; rfl))
 | x :: a, y :: b, r, q, ha, hb, hr, hq, e => by
  simp only [List.cons_append, List.cons.injEq] at e
  obtain ⟨h1, h2⟩ := Qd4 (fun z hz => ha z (by simp [hz])) (fun z hz => hb z (by simp [hz])) hr hq e.2
  exact ⟨by rw [e.1, h1], h2⟩
def YW : List (Nat × Nat) → List UInt8
 | [] => []
 | p :: ps => (32 :: Qb3 p.1) ++ (58 :: Qb3 p.2) ++ YW ps
theorem QcI (ps : List (Nat × Nat)) : ∀ x, (YW ps).head? = some x → ¬ QdG x := by
 intro x h
 cases ps with
 | nil => simp [YW] at h
 | cons p ps => simp [YW] at h; subst h; simp [QdG]
theorem QhO (ps qs : List (Nat × Nat)) : YW (ps ++ qs) = YW ps ++ YW qs := by
 induction ps with
 | nil => rfl
 | cons p ps ih => simp [YW, ih]
theorem Qhg (ps : List (Nat × Nat)) (h : ∀ p ∈ ps, p.1 < 100 ∧ p.2 < 100) : (YW ps).length ≤ ps.length * 6 := by
 induction ps with
 | nil => simp [YW]
 | cons p ps ih =>
  have h1 := QbE (h p (by simp)).1
  have h2 := QbE (h p (by simp)).2
  have := ih fun q hq => h q (by simp [hq])
  simp only [YW, List.length_append, List.length_cons]
  omega
theorem Qhh : ∀ {ps qs : List (Nat × Nat)}, (∀ p ∈ ps, p.1 < 100 ∧ p.2 < 100) → (∀ p ∈ qs, p.1 < 100 ∧ p.2 < 100) → YW ps = YW qs → ps = qs
 | [], [], _, _, _ => rfl
 | [], q :: qs, _, _, e => by simp [YW] at e
 | p :: ps, [], _, _, e => by simp [YW] at e
 | p :: ps, q :: qs, hp, hq, e => by
  obtain ⟨p1, p2⟩ := hp p (by simp)
  obtain ⟨q1, q2⟩ := hq q (by simp)
  simp only [YW, List.cons_append, List.append_assoc, List.cons.injEq, true_and] at e
  have nd : ∀ (l : List UInt8) x, (58 :: l).head? = some x → ¬ QdG x := by intro l x h; simp at h; subst h; simp [QdG]
  obtain ⟨h1, h2⟩ := Qd4 (Qcv p1) (Qcv q1) (nd _) (nd _) e
  simp only [List.cons.injEq, true_and] at h2
  obtain ⟨h3, h4⟩ := Qd4 (Qcv p2) (Qcv q2) (QcI ps) (QcI qs) h2
  have e1 := QfW p1 q1 h1
  have e2 := QfW p2 q2 h3
  rw [Qhh (fun r hr => hp r (by simp [hr])) (fun r hr => hq r (by simp [hr])) h4, show p = q from Prod.ext e1 e2]
def Qc8 (c : Nat) (ps : List (Nat × Nat)) : List UInt8 := Qb3 c ++ YW ps
theorem Qju {c d : Nat} {ps qs : List (Nat × Nat)} (hc : c < 100) (hd : d < 100) (hp : ∀ p ∈ ps, p.1 < 100 ∧ p.2 < 100) (hq : ∀ p ∈ qs, p.1 < 100 ∧ p.2 < 100) (e : Qc8 c ps = Qc8 d qs) : c = d ∧ ps = qs := by
 obtain ⟨h1, h2⟩ := Qd4 (Qcv hc) (Qcv hd) (QcI ps) (QcI qs) e
 exact ⟨QfW hc hd h1, Qhh hp hq h2⟩
/-! ### bytes -/
theorem QjB (l : List UInt8) : JW ⟨l.toArray⟩ = l.map fun b => (b.toNat : Int) := by simp [JW]
theorem Qko (l : List UInt8) : u8s (l.map fun b => (b.toNat : Int)) = l := by
 simp only [u8s, List.map_map]
 conv => rhs; rw [← List.map_id l]
 apply List.map_congr_left
 intro b _
 simp
theorem QiF {l : List UInt8} (h : l ≠ []) : QfC (l.map fun b => (b.toNat : Int)) = some ⟨l.toArray⟩ := by
 unfold QfC
 rw [if_pos, Qko]
 refine ⟨by simpa using h, List.all_eq_true.2 ?_⟩
 intro n hn
 obtain ⟨b, _, rfl⟩ := List.mem_map.1 hn
 have := b.toNat_lt
 simp; omega
theorem Qgv {l q : List UInt8} (h : l.length + q.length ≤ 140737488355328) : Qjb (l.map fun b => (b.toNat : Int)) ⟨q.toArray⟩ = some ((l ++ q).map fun b => (b.toNat : Int)) := by
 unfold Qjb
 rw [if_pos (by rw [List.length_map]; exact h), QjB, List.map_append]
theorem QeR {l q : List UInt8} (h : l.length + q.length ≤ 100000) : cat ⟨l.toArray⟩ ⟨q.toArray⟩ = some ⟨(l ++ q).toArray⟩ := by
 unfold cat
 rw [if_pos (by show l.length + q.length ≤ _; omega)]
 exact congrArg some (Qh5 (by simp))
end Go.Pw
/- -/
set_option maxHeartbeats 4000000
set_option maxRecDepth 100000
namespace Go.Pw
/-! ### pairs -/
def PrLt (a b : Arr2_int) : Prop := a.a0 < b.a0 ∨ a.a0 = b.a0 ∧ a.a1 < b.a1
def Qmu (a b : Arr2_int) : Prop := ¬ PrLt b a
theorem QiU (a : Arr2_int) : ¬ PrLt a a := by unfold PrLt; omega
theorem Qmk (a b : Arr2_int) : PrLt a b ∨ a = b ∨ PrLt b a := by
 obtain ⟨a1, a2⟩ := a
 obtain ⟨b1, b2⟩ := b
 simp only [PrLt, Arr2_int.mk.injEq]
 omega
theorem Qga {α : Type} {lt : α → α → Prop} (ir : ∀ a, ¬ lt a a) (tr : ∀ a b c, lt a b → lt b c → lt a c) : ∀ {l k : List α}, l.Pairwise lt → k.Pairwise lt → (∀ e, e ∈ l ↔ e ∈ k) → l = k
 | [], [], _, _, _ => rfl
 | [], b :: k, _, _, h => absurd ((h b).2 (by simp)) (by simp)
 | a :: l, [], _, _, h => absurd ((h a).1 (by simp)) (by simp)
 | a :: l, b :: k, hl, hk, h => by
  obtain ⟨h1, h2⟩ := List.pairwise_cons.1 hl
  obtain ⟨k1, k2⟩ := List.pairwise_cons.1 hk
  have hab : a = b := by
   rcases List.mem_cons.1 ((h a).1 (by simp)) with e | e
   ·exact e
   ·rcases List.mem_cons.1 ((h b).2 (by simp)) with e' | e'
    ·exact e'.symm
    ·exact absurd (tr _ _ _ (h1 b e') (k1 a e)) (ir a)
  subst hab
  congr 1
  refine Qga ir tr h2 k2 fun e => ?_
  constructor
  ·intro he
   rcases List.mem_cons.1 ((h e).1 (by simp [he])) with e1 | e1
   ·subst e1; exact absurd (h1 e he) (ir e)
   ·exact e1
  ·intro he
   rcases List.mem_cons.1 ((h e).2 (by simp [he])) with e1 | e1
   ·subst e1; exact absurd (k1 e he) (ir e)
   ·exact e1
noncomputable def Qic (l : List Arr2_int) : List Arr2_int := l.mergeSort fun x y => !decide (QfB y x < 0)
theorem QhN {l : List Arr2_int} (h : l.length < 4611686018427387904) : Qbf l = some (Qic l) := by unfold Qbf; rw [if_pos h]; rfl
theorem Qm0 (l : List Arr2_int) : (Qic l).Pairwise Qmu := by
 have hp : (l.mergeSort fun x y => !decide (QfB y x < 0)).Pairwise (fun x y => (!decide (QfB y x < 0)) = true) := by
  apply List.pairwise_mergeSort
  ·intro a b c h1 h2
   simp only [Bool.not_eq_true', decide_eq_false_iff_not, QbF] at *
   omega
  ·intro a b
   simp only [Bool.or_eq_true, Bool.not_eq_true', decide_eq_false_iff_not, QbF]
   omega
 refine hp.imp ?_
 intro a b h
 simp only [Bool.not_eq_true', decide_eq_false_iff_not, QbF] at h
 exact h
theorem QlJ {l : List Arr2_int} {e : Arr2_int} : e ∈ Qic l ↔ e ∈ l := (List.mergeSort_perm l _).mem_iff
theorem Qen (l : List Arr2_int) : (Qic l).length = l.length := List.length_mergeSort l
theorem QiO (s : List Arr2_int) : J7 s = Qet (fun a b => eqs [a.a0, a.a1] [b.a0, b.a1]) ⟨0, 0⟩ s := rfl
theorem QlV (a b : Arr2_int) : eqs [a.a0, a.a1] [b.a0, b.a1] = true ↔ a = b := by
 obtain ⟨a1, a2⟩ := a
 obtain ⟨b1, b2⟩ := b
 simp [eqs]
noncomputable def Qcp (l : List Arr2_int) : List Arr2_int := dd none (Qic l)
theorem Qc0 {l : List Arr2_int} {e : Arr2_int} : e ∈ Qcp l ↔ e ∈ l := by unfold Qcp; rw [Qjk, QlJ]
theorem Qi2 (l : List Arr2_int) : (Qcp l).Pairwise PrLt :=
 (Qd5 (le := Qmu) (lt := PrLt) (fun a b h ne => (Qmk a b).resolve_right fun h2 => h2.elim ne h) (fun a b c h1 h2 => by unfold Qmu PrLt at *; omega) (fun a b c h1 h2 => by unfold Qmu PrLt at *; omega) (Qic l) none (Qm0 l) (by simp)).1
theorem Qk4 {l k : List Arr2_int} (h : ∀ e, e ∈ l ↔ e ∈ k) : Qcp l = Qcp k :=
 Qga QiU (fun a b c h1 h2 => by unfold PrLt at *; omega) (Qi2 l) (Qi2 k) fun e => by rw [Qc0, Qc0, h]
theorem Qk3 {l k : List Arr2_int} : Qcp l = Qcp k ↔ ∀ e, e ∈ l ↔ e ∈ k := ⟨fun h e => by rw [← Qc0, h, Qc0], Qk4⟩
/-! ### a system as its goals and edges -/
def Qcq (x : System) (i l t : Nat) : Prop := (⟨(i : Int), (l : Int), (t : Int)⟩ : Edge) ∈ x.Edges
def QaI (x : System) (hv : VSys x) : TS where
 n := x.States.toNat
 goal := fun i => x.Goals[i]?.getD false
 edge := Qcq x
 rng := fun i l t h => by have := hv.edge _ h; simp only at this; omega
theorem Qbc {x : System} (hv : VSys x) {d : Edge} (hd : d ∈ x.Edges) : ∃ i l t : Nat, d = ⟨(i : Int), (l : Int), (t : Int)⟩ ∧ i < x.States.toNat ∧ t < x.States.toNat ∧ l < x.Costs.length := by
 obtain ⟨h1, h2, h3, h4, h5, h6⟩ := hv.edge d hd
 refine ⟨d.From.toNat, d.Label.toNat, d.To.toNat, ?_, by omega, by omega, by omega⟩
 obtain ⟨f, l, t⟩ := d
 simp only [Edge.mk.injEq] at *
 omega
def ClsOf (cls : List Int) (n b : Nat) : Prop := cls.length = n ∧ ∀ c ∈ cls, ∃ k : Nat, c = (k : Int) ∧ k < b
def cN (cls : List Int) (i : Nat) : Nat := (cls[i]?.getD 0).toNat
theorem ClsOf.get {cls : List Int} {n b i : Nat} (h : ClsOf cls n b) (hi : i < n) : cls[i]? = some (cN cls i : Int) ∧ cN cls i < b := by
 obtain ⟨y, hy⟩ := Ka (show i < cls.length by rw [h.1]; exact hi)
 obtain ⟨k, rfl, hk⟩ := h.2 y (List.mem_of_getElem? hy)
 unfold cN
 rw [hy]
 exact ⟨Z, hk⟩
theorem QgW {cls : List Int} {n b i j : Nat} (h : ClsOf cls n b) (hi : i < n) (hj : j < n) : cN cls i = cN cls j ↔ eqL cls i j := by
 unfold eqL
 rw [(h.get hi).1, (h.get hj).1]
 simp
 omega
def Qmr (cls : List Int) (d : Edge) : Arr2_int := ⟨d.Label, (cN cls d.To.toNat : Int)⟩
def rwP (x : System) (cls : List Int) (i m : Nat) : List Arr2_int := ((x.Edges.take m).filter fun d => decide (d.From = (i : Int))).map (Qmr cls)
theorem QhA (x : System) (cls : List Int) (i m : Nat) : (rwP x cls i m).length ≤ x.Edges.length := by
 unfold rwP
 rw [List.length_map]
 refine Nat.le_trans (List.length_filter_le _ _) ?_
 simp; omega
theorem Qek {x : System} (hv : VSys x) {cls : List Int} {i : Nat} {e : Arr2_int} : e ∈ rwP x cls i x.Edges.length ↔ ∃ l t : Nat, Qcq x i l t ∧ e = ⟨(l : Int), (cN cls t : Int)⟩ := by
 unfold rwP
 rw [List.take_length]
 simp only [List.mem_map, List.mem_filter, decide_eq_true_eq]
 constructor
 ·rintro ⟨d, ⟨hd, hf⟩, rfl⟩
  obtain ⟨i', l, t, rfl, _, _, _⟩ := Qbc hv hd
  have hii : i' = i := by simp only at hf; omega
  subst hii
  exact ⟨l, t, hd, by simp [Qmr]⟩
 ·rintro ⟨l, t, h, rfl⟩
  exact ⟨_, ⟨h, Z⟩, by simp [Qmr]⟩
noncomputable def KL (x : System) (cls : List Int) (i : Nat) : List (Nat × Nat) := (Qcp (rwP x cls i x.Edges.length)).map fun p => (p.a0.toNat, p.a1.toNat)
theorem Qd1 {x : System} (hv : VSys x) {cls : List Int} {n b : Nat} (hc : ClsOf cls n b) (hn : n = x.States.toNat) {i : Nat} {e : Arr2_int} (h : e ∈ Qcp (rwP x cls i x.Edges.length)) : ∃ l c : Nat, e = ⟨(l : Int), (c : Int)⟩ ∧ l < x.Costs.length ∧ c < b := by
 rw [Qc0, Qek hv] at h
 obtain ⟨l, t, he, rfl⟩ := h
 obtain ⟨_, _, _, e1, _, ht, hl⟩ := Qbc hv he
 simp only [Edge.mk.injEq] at e1
 exact ⟨l, _, Z, by omega, (hc.get (by rw [hn]; omega)).2⟩
theorem Qgj {α β : Type} {f : α → β} : ∀ {l k : List α}, (∀ a ∈ l, ∀ b ∈ k, f a = f b → a = b) → l.map f = k.map f → l = k
 | [], [], _, _ => rfl
 | [], b :: k, _, h => by simp at h
 | a :: l, [], _, h => by simp at h
 | a :: l, b :: k, hi, h => by
  simp only [List.map_cons, List.cons.injEq] at h
  rw [hi a (by simp) b (by simp) h.1, Qgj (fun c hc d hd => hi c (by simp [hc]) d (by simp [hd])) h.2]
theorem Qgg {x : System} (hv : VSys x) {cls : List Int} {b : Nat} (hc : ClsOf cls x.States.toNat b) {i j : Nat} : KL x cls i = KL x cls j ↔ ∀ e, e ∈ rwP x cls i x.Edges.length ↔ e ∈ rwP x cls j x.Edges.length := by
 rw [← Qk3]
 constructor
 ·intro h
  refine Qgj ?_ h
  intro a ha c hc' e
  obtain ⟨l, k, rfl, _, _⟩ := Qd1 hv hc rfl ha
  obtain ⟨l', k', rfl, _, _⟩ := Qd1 hv hc rfl hc'
  simp at e
  simp [e]
 ·intro h
  unfold KL
  rw [h]
theorem Qiu {x : System} (hv : VSys x) {cls : List Int} {b : Nat} (hc : ClsOf cls x.States.toNat b) {i j : Nat} : (∀ e, e ∈ rwP x cls i x.Edges.length ↔ e ∈ rwP x cls j x.Edges.length) ↔ sig (QaI x hv) (eqL cls) i j := by
 have key : ∀ i j, (∀ e, e ∈ rwP x cls i x.Edges.length → e ∈ rwP x cls j x.Edges.length) ↔ Qht (QaI x hv) (eqL cls) i j := by
  intro i j
  constructor
  ·intro h l t he
   have h1 := h ⟨(l : Int), (cN cls t : Int)⟩ ((Qek hv).2 ⟨l, t, he, rfl⟩)
   obtain ⟨l', u, he', e⟩ := (Qek hv).1 h1
   simp only [Arr2_int.mk.injEq] at e
   obtain ⟨e1, e2⟩ := e
   have : l' = l := by omega
   subst this
   refine ⟨u, he', (QgW hc ((QaI x hv).rng _ _ _ he).2 ((QaI x hv).rng _ _ _ he').2).1 (by omega)⟩
  ·intro h e he
   obtain ⟨l, t, h1, rfl⟩ := (Qek hv).1 he
   obtain ⟨u, h2, h3⟩ := h l t h1
   refine (Qek hv).2 ⟨l, u, h2, ?_⟩
   rw [(QgW hc ((QaI x hv).rng _ _ _ h1).2 ((QaI x hv).rng _ _ _ h2).2).2 h3]
 unfold sig
 rw [← key i j, ← key j i]
 exact ⟨fun h => ⟨fun e he => (h e).1 he, fun e he => (h e).2 he⟩, fun h e => ⟨h.1 e, h.2 e⟩⟩
theorem Qkw {x : System} (hv : VSys x) (hs : x.States ≤ 100) (hl : x.Costs.length ≤ 100) {cls : List Int} (hc : ClsOf cls x.States.toNat 100) :
  Ok (Yb x cls) fun r => ClsL ((eqL cls).and (sig (QaI x hv) (eqL cls))) x.States.toNat r.1 ∧ r.2 = (rnk ((eqL cls).and (sig (QaI x hv) (eqL cls))) x.States.toNat : Int) := by
 unfold Yb
 have s1 := hv.s1
 have he := hv.e
 obtain ⟨n, hn⟩ : ∃ n : Nat, x.States = (n : Int) := ⟨x.States.toNat, by omega⟩
 have hnt : x.States.toNat = n := by omega
 rw [hnt] at hc ⊢
 have hn100 : n ≤ 100 := by omega
 rw [hn]
 refine Ok.step (QaK (by omega) (by omega)) (Ok.bind ?_)
 refine J5 (fun m (L : List (List Arr2_int)) => L.length = n ∧ ∀ i, i < n → L[i]? = some (rwP x cls i m)) ⟨by simp, fun i hi => by simp [hi, rwP]⟩ ?_ ?_
 ·rintro m L hm ⟨hL, hrow⟩
  obtain ⟨d, hd⟩ := Ka hm
  obtain ⟨i, l, t, rfl, hi, ht, hlc⟩ := Qbc hv (List.mem_of_getElem? hd)
  rw [hnt] at hi ht
  have hct := (hc.get ht).1
  simp only [Q6, hd, Option.bind_some, hrow i hi, hct]
  refine Ok.step (JM (by have := QhA x cls i m; simp; omega)) (Ok.step (JB (by omega)) (Ok.ret ⟨by simp [hL], fun j hj => ?_⟩))
  unfold rwP
  rw [List.take_add_one, hd]
  by_cases e : j = i
  ·subst e
   rw [List.getElem?_set_self (by omega)]
   simp [List.filter_append, Qmr]
  ·rw [List.getElem?_set_ne (Ne.symm e), hrow j hj]
   have : ¬ ((i : Int) = (j : Int)) := by omega
   simp [List.filter_append, this, rwP]
 ·rintro L ⟨hL, hrow⟩
  refine Ok.step (QaK (by omega) (by omega)) (Ok.bind ?_)
  refine J5 (fun m (t : List ByteArray × List (List Arr2_int)) => t.1.length = n ∧ t.2.length = n ∧ (∀ j, j < m → t.1[j]? = some ⟨(Qc8 (cN cls j) (KL x cls j)).toArray⟩) ∧ ∀ j, m ≤ j → j < n → t.2[j]? = some (rwP x cls j x.Edges.length)) ⟨by simp, hL, fun j h => absurd h (Nat.not_lt_zero _), fun j _ hj => hrow j hj⟩ ?_ ?_
  ·rintro m ⟨T, M⟩ hm ⟨hT, hM, hdone, hleft⟩
   simp only at hT hM hdone hleft
   have hmn : m < n := by omega
   simp only [J2, Q6, hleft m (Nat.le_refl _) hmn, Option.bind_some]
   have hrl := QhA x cls m x.Edges.length
   rw [QhN (by omega)]
   simp only [Option.bind_some]
   rw [JB (by omega)]
   have hcm := (hc.get hmn).1
   have hcb := (hc.get hmn).2
   simp only [Option.bind_some, hcm, QhG hcb]
   have ha0 := Qgv (l := []) (q := Qb3 (cN cls m)) (by have := QbE hcb; simp; omega)
   simp only [List.map_nil, List.nil_append] at ha0
   have e0 : Qij (cN cls m) = ⟨(Qb3 (cN cls m)).toArray⟩ := rfl
   rw [e0, ha0]
   simp only [Option.bind_some]
   rw [List.getElem?_set_self (by omega)]
   simp only [Option.bind_some, QiO]
   refine Ok.bind ((QdZ QlV ⟨0, 0⟩ (Qic (rwP x cls m x.Edges.length)) (by rw [Qen]; omega)).mono ?_)
   rintro ⟨k, R⟩ ⟨hk, hR, htk⟩
   simp only at hk hR htk
   simp only [J2]
   rw [JB (by simp; omega)]
   simp only [Option.bind_some]
   rw [Qen] at hk
   refine Ok.must (by simp; omega) ?_
   have hnorm : R.take k = Qcp (rwP x cls m x.Edges.length) := htk
   have hnlen : (Qcp (rwP x cls m x.Edges.length)).length = k := by rw [← hnorm, List.length_take]; rw [Qen] at hR; omega
   have hget : ∀ j, j < k → ∃ l c : Nat, R[j]? = some ⟨(l : Int), (c : Int)⟩ ∧ (KL x cls m)[j]? = some (l, c) ∧ l < 100 ∧ c < 100 := by
    intro j hj
    obtain ⟨y, hy⟩ := Ka (show j < (Qcp (rwP x cls m x.Edges.length)).length by omega)
    obtain ⟨l, c, rfl, h1, h2⟩ := Qd1 hv hc hnt.symm (List.mem_of_getElem? hy)
    refine ⟨l, c, ?_, ?_, by omega, h2⟩
    ·rw [← hnorm, List.getElem?_take_of_lt hj] at hy; exact hy
    ·unfold KL; rw [List.getElem?_map, hy]; rfl
   refine Ok.bind (J5 (fun j (b : List Int) => b = (Qb3 (cN cls m) ++ YW ((KL x cls m).take j)).map fun c => (c.toNat : Int)) (by simp [YW]) ?_ ?_)
   ·rintro j b hj rfl
    have hjk : j < k := by omega
    obtain ⟨l, c, h1, h2, h3, h4⟩ := hget j hjk
    rw [List.getElem?_set_self (by simp; omega)]
    have hv2 : Qcf R 0 k (j : Int) = some ⟨(l : Int), (c : Int)⟩ := by unfold Qcf; rw [if_pos (by omega), show (0 : Int) + (j : Int) = (j : Int) by omega, Q6, h1]
    simp only [Option.bind_some, hv2, QhG h3, QhG h4]
    have d1 := QbE h3
    have d2 := QbE h4
    have d0 := QbE hcb
    have e1 : Qij l = ⟨(Qb3 l).toArray⟩ := rfl
    have e2 : Qij c = ⟨(Qb3 c).toArray⟩ := rfl
    have c1 := QeR (l := [32]) (q := Qb3 l) (by simp; omega)
    have c2 := QeR (l := [32] ++ Qb3 l) (q := [58]) (by simp; omega)
    have c3 := QeR (l := [32] ++ Qb3 l ++ [58]) (q := Qb3 c) (by simp; omega)
    rw [e1, e2]
    rw [show (⟨#[32]⟩ : ByteArray) = ⟨([32] : List UInt8).toArray⟩ from rfl, show (⟨#[58]⟩ : ByteArray) = ⟨([58] : List UInt8).toArray⟩ from rfl, c1]
    simp only [Option.bind_some]
    rw [c2]
    simp only [Option.bind_some]
    rw [c3]
    simp only [Option.bind_some]
    have hpl := Qhg ((KL x cls m).take j) (fun p hp => by
     have hp := List.mem_of_mem_take hp
     obtain ⟨q, hq⟩ := List.mem_iff_getElem?.1 hp
     have hqk : q < k := by
      have := (List.getElem?_eq_some_iff.1 hq).1
      unfold KL at this
      rw [List.length_map, hnlen] at this
      exact this
     obtain ⟨l', c', _, h6, h7, h8⟩ := hget q hqk
     rw [h6] at hq; cases hq
     exact ⟨h7, h8⟩)
    rw [List.length_take] at hpl
    refine Ok.step (Qgv (by simp; omega)) (Ok.ret ?_)
    rw [List.take_add_one, h2]
    simp only [Option.toList_some, QhO, YW, List.append_nil]
    simp
   ·rintro b rfl
    have hfull : (KL x cls m).take ((k : Int).toNat) = KL x cls m := by
     refine List.take_of_length_le ?_
     unfold KL
     rw [List.length_map, hnlen]; omega
    rw [hfull, show Qb3 (cN cls m) ++ YW (KL x cls m) = Qc8 (cN cls m) (KL x cls m) from rfl]
    rw [QiF (l := Qc8 (cN cls m) (KL x cls m)) (fun e => QmH hcb (List.append_eq_nil_iff.1 e).1)]
    simp only [Option.bind_some]
    obtain ⟨y, hy⟩ := Ka (show m < T.length by omega)
    rw [hy]
    simp only [Option.bind_some]
    refine Ok.step (JB (by omega)) (Ok.ret ⟨by simp [hT], by simp [hM], fun j hj => ?_, fun j h1 h2 => ?_⟩)
    ·by_cases e : j = m
     ·subst e; simp only; rw [List.getElem?_set_self (by omega)]
     ·simp only; rw [List.getElem?_set_ne (Ne.symm e)]; exact hdone j (by omega)
    ·simp only
     rw [List.getElem?_set_ne (by omega), List.getElem?_set_ne (by omega)]
     exact hleft j (by omega) h2
  ·rintro ⟨T, M⟩ ⟨hT, hM, hdone, _⟩
   simp only at hT hM hdone
   rw [hL] at hdone
   simp only [J2]
   have hpb : ∀ j, j < n → ∀ p ∈ KL x cls j, p.1 < 100 ∧ p.2 < 100 := by
    intro j hj p hp
    unfold KL at hp
    obtain ⟨q, hq, rfl⟩ := List.mem_map.1 hp
    obtain ⟨l, c, rfl, h1, h2⟩ := Qd1 hv hc hnt.symm hq
    simp; omega
   have hsz : ∀ s ∈ T, s.size ≤ 100000000 := by
    intro s hs'
    obtain ⟨j, hj⟩ := List.mem_iff_getElem?.1 hs'
    have hjn : j < n := by have := (List.getElem?_eq_some_iff.1 hj).1; omega
    rw [hdone j hjn] at hj
    cases hj
    have h1 := Qhg (KL x cls j) (hpb j hjn)
    have h2 : (KL x cls j).length ≤ 65536 := by
     unfold KL
     rw [List.length_map]
     have h3 := Qh3 (Qic (rwP x cls j x.Edges.length)) none
     have h4 := QhA x cls j x.Edges.length
     rw [Qen] at h3
     unfold Qcp
     omega
    have h3 := QbE (hc.get hjn).2
    show (Qc8 (cN cls j) (KL x cls j)).length ≤ _
    unfold Qc8
    rw [List.length_append]
    omega
   refine Ok.bind ((Qfg T (by omega) hsz).mono ?_)
   rintro ⟨out, k⟩ ⟨h1, h2⟩
   simp only at h1 h2
   rw [hT] at h1 h2
   have hiff : ∀ i j, i < n → j < n → (eqL T i j ↔ (eqL cls).and (sig (QaI x hv) (eqL cls)) i j) := by
    intro i j hi hj
    unfold eqL
    rw [hdone i hi, hdone j hj]
    have hc' : ClsOf cls x.States.toNat 100 := by rw [hnt]; exact hc
    constructor
    ·intro e
     simp only [Option.some.injEq, ByteArray.mk.injEq] at e
     have e' : Qc8 (cN cls i) (KL x cls i) = Qc8 (cN cls j) (KL x cls j) := by simpa using e
     obtain ⟨e1, e2⟩ := Qju (hc.get hi).2 (hc.get hj).2 (hpb i hi) (hpb j hj) e'
     exact ⟨(QgW hc hi hj).1 e1, (Qiu hv hc').1 ((Qgg hv hc').1 e2)⟩
    ·rintro ⟨e1, e2⟩
     rw [(QgW hc hi hj).2 e1, (Qgg hv hc').2 ((Qiu hv hc').2 e2)]
   refine Ok.ret ⟨h1.congr hiff, ?_⟩
   rw [h2, Qb8 hiff (Nat.le_refl _)]
end Go.Pw
/- -/
set_option maxHeartbeats 4000000
set_option maxRecDepth 100000
namespace Go.Pw
theorem Qnp (b : Bool) : Jw b = if b then (⟨#[116, 114, 117, 101]⟩ : ByteArray) else (⟨#[102, 97, 108, 115, 101]⟩) := by
 have h := QaD b
 unfold K6 at h
 have h2 := YF b
 unfold Kc at h2
 rw [← Zu h]
 cases b
 ·simpa using (Zu h2).symm
 ·simpa using (Zu h2).symm
theorem QlT {a b : Bool} (h : Jw a = Jw b) : a = b := by
 rw [Qnp, Qnp] at h
 cases a <;> cases b <;> simp at h <;> rfl
theorem QkG (b : Bool) : (Jw b).size ≤ 5 := by rw [Qnp]; cases b <;> decide
theorem ClsL.clsOf {R : Rel} {n b : Nat} {c : List Int} (h : ClsL R n c) (hn : n ≤ b) : ClsOf c n b := by
 refine ⟨h.1, fun y hy => ?_⟩
 obtain ⟨i, hi⟩ := List.mem_iff_getElem?.1 hy
 have hin : i < n := by have := (List.getElem?_eq_some_iff.1 hi).1; rw [h.1] at this; exact this
 obtain ⟨k, h1, h2⟩ := h.2 i hin
 rw [hi] at h1; cases h1
 have := Qlv hin h2
 have := QmZ R n
 exact ⟨k, Z, by omega⟩
theorem QiA {x : System} (hv : VSys x) (hs : x.States ≤ 100) (hl : x.Costs.length ≤ 100) : Ok (JY x) fun r => r.2 = none ∧ IsBis (QaI x hv) r.1 := by
 unfold JY
 have s1 := hv.s1
 have hg := hv.g
 simp only [tV, Qcs.2 hv, Option.bind_some, Bool.not_true, Bool.false_eq_true, if_false]
 obtain ⟨n, hn⟩ : ∃ n : Nat, x.States = (n : Int) := ⟨x.States.toNat, by omega⟩
 have hnt : x.States.toNat = n := by omega
 have hXn : (QaI x hv).n = n := hnt
 have hmk : mk 16 (⟨#[]⟩ : ByteArray) x.States = some (List.replicate n ⟨#[]⟩) := by rw [hn]; exact QaK (by omega) (by omega)
 refine Ok.step hmk (Ok.bind ?_)
 refine J5 (fun m (T : List ByteArray) => T.length = n ∧ ∀ j, j < m → T[j]? = some (Jw (x.Goals[j]?.getD false))) ⟨by simp, fun j h => absurd h (Nat.not_lt_zero _)⟩ ?_ ?_
 ·rintro m T hm ⟨hT, hd⟩
  obtain ⟨g, hgm⟩ := Ka hm
  obtain ⟨y, hy⟩ := Ka (show m < T.length by omega)
  simp only [Q6, hgm, hy, Option.bind_some]
  refine Ok.step (JB (by omega)) (Ok.ret ⟨by simp [hT], fun j hj => ?_⟩)
  by_cases e : j = m
  ·subst e; rw [List.getElem?_set_self (by omega), hgm]; rfl
  ·rw [List.getElem?_set_ne (Ne.symm e)]; exact hd j (by omega)
 ·rintro T ⟨hT, hd⟩
  have hgl : x.Goals.length = n := by omega
  rw [hgl] at hd
  have hsz : ∀ s ∈ T, s.size ≤ 100000000 := by
   intro s hs'
   obtain ⟨j, hj⟩ := List.mem_iff_getElem?.1 hs'
   have hjn : j < n := by have := (List.getElem?_eq_some_iff.1 hj).1; omega
   rw [hd j hjn] at hj; cases hj
   have := QkG (x.Goals[j]?.getD false)
   omega
  refine Ok.bind ((Qfg T (by omega) hsz).mono ?_)
  rintro ⟨c, k⟩ ⟨h1, h2⟩
  simp only at h1 h2
  rw [hT] at h1 h2
  have hgoal : ∀ i j, i < n → j < n → (eqL T i j ↔ Qil (QaI x hv) i j) := by
   intro i j hi hj
   unfold eqL Qil
   rw [hd i hi, hd j hj]
   exact ⟨fun e => QlT (Zu e), fun e => by rw [show x.Goals[i]?.getD false = x.Goals[j]?.getD false from e]⟩
  obtain ⟨e1, e2⟩ := (h1.congr hgoal).eqL (by have := QkA (QaI x hv); rw [hXn] at this; exact this)
  have hI : BisI (QaI x hv) c := by
   refine ⟨?_, ?_, by rw [hXn]; exact e2⟩
   ·rw [hXn]; exact fun i j hi hj q => (e1 i j hi hj).2 q
   ·intro S hS
    have := hS.goal
    rw [hXn] at this ⊢
    exact fun i j hi hj q => (e1 i j hi hj).1 (this i j hi hj q)
  have hk : k = (rnk (eqL c) n : Int) := by
   rw [h2, Qb8 (fun i j hi hj => (hgoal i j hi hj).trans (e1 i j hi hj)) (Nat.le_refl _)]
  simp only [J2]
  refine YZ (fun s : List Int × Int => BisI (QaI x hv) s.1 ∧ s.2 = (rnk (eqL s.1) n : Int)) (fun _ => False) (fun r => r.2 = none ∧ IsBis (QaI x hv) r.1) (fun s => n - s.2.toNat) ⟨hI, hk⟩ ?_ (fun r h => Ok.ret h) (fun _ h => h.elim)
  rintro ⟨c, k⟩ ⟨hI, hk⟩
  simp only at hI hk
  subst hk
  have hcl := hI.cls
  rw [hXn] at hcl
  simp only
  refine (Ok.bind ((Qkw hv hs hl (by rw [hnt]; exact hcl.clsOf (by omega))).mono ?_)).mono fun c hc => hc
  rintro ⟨d, k⟩ ⟨h3, h4⟩
  simp only at h3 h4
  rw [hnt] at h4
  have h3' : ClsL ((eqL c).and (sig (QaI x hv) (eqL c))) (QaI x hv).n d := h3
  have hE : Eqv (QaI x hv).n ((eqL c).and (sig (QaI x hv) (eqL c))) := (Y6 c _).and (Qf4 (Y6 c _))
  obtain ⟨e3, e4⟩ := h3'.eqL hE
  rw [hXn] at e3
  rw [Qb8 e3 (Nat.le_refl _)] at h4
  have hle := QiW h3'
  rw [hXn] at hle
  have hle2 := QmZ (eqL d) n
  simp only [J2]
  subst h4
  by_cases hkk : ((rnk (eqL d) n : Nat) : Int) = ((rnk (eqL c) n : Nat) : Int)
  ·rw [if_pos (by simpa using hkk)]
   refine ⟨_, Z, fun s' e => (by cases e), fun s' e => (by cases e), fun r e => ?_⟩
   cases e
   have hst : rnk (eqL c) (QaI x hv).n = rnk (eqL d) (QaI x hv).n := by rw [hXn]; omega
   exact ⟨Z, hI.stop h3' hst⟩
  ·rw [if_neg (by simpa using hkk)]
   refine ⟨_, Z, fun s' e => ?_, fun s' e => (by cases e), fun r e => (by cases e)⟩
   cases e
   exact ⟨⟨hI.next h3', Z⟩, by simp only; omega⟩
end Go.Pw
/- -/
set_option maxHeartbeats 4000000
set_option maxRecDepth 100000
namespace Go.Pw
/-! ### classes and their number -/
structure KOK (c : List Int) (n K : Nat) : Prop where
 len : c.length = n
 rng : ∀ i, i < n → ∃ k : Nat, k < K ∧ c[i]? = some (k : Int)
 onto : ∀ b, b < K → ∃ i, i < n ∧ c[i]? = some (b : Int)
 le : K ≤ n
theorem Qiv (R : Rel) : ∀ n b, b < rnk R n → ∃ r, r < n ∧ Yg R r ∧ rnk R r = b
 | 0, b, h => by simp [rnk] at h
 | n + 1, b, h => by
  by_cases hb : b < rnk R n
  ·obtain ⟨r, h1, h2, h3⟩ := Qiv R n b hb
   exact ⟨r, by omega, h2, h3⟩
  ·rw [Qct] at h
   by_cases hr : Yg R n
   ·simp only [hr, if_true] at h
    exact ⟨n, by omega, hr, by omega⟩
   ·simp only [hr, if_false] at h; omega
theorem ClsL.kok {R : Rel} {n : Nat} {c : List Int} (hE : Eqv n R) (h : ClsL R n c) : KOK c n (rnk R n) := by
 refine ⟨h.1, fun i hi => ?_, fun b hb => ?_, rnk_le R n⟩
 ·obtain ⟨k, h1, h2⟩ := h.2 i hi
  exact ⟨k, Qlv hi h2, h1⟩
 ·obtain ⟨r, h1, h2, h3⟩ := Qiv R n b hb
  obtain ⟨k, h4, h5⟩ := h.2 r h1
  have := Qeu hE h1 h5 ⟨r, Nat.le_refl _, hE.refl r h1, h2, rfl⟩
  exact ⟨r, h1, by rw [h4, this, h3]⟩
theorem Qls {c : List Int} {n K : Nat} (h : KOK c n K) (hn : 0 < n) (hn2 : n ≤ 4000000) : JD c = some ((K : Int) - 1) := by
 unfold JD
 have hl := h.len
 rw [if_neg (by simp; omega)]
 obtain ⟨k0, hk0, h0⟩ := h.rng 0 hn
 have hle := h.le
 simp only [Option.bind_some, show ((0 : Int)) = ((0 : Nat) : Int) from rfl, Q6, h0]
 have hfirst : ∀ (j : Nat) (k : Int), j < 1 → c[j]? = some k → k ≤ (k0 : Int) := by
  intro j k hj hk
  have : j = 0 := by omega
  subst this
  rw [h0] at hk
  cases hk
  omega
 refine QbW (YZ (fun s : Int × Int => ∃ i : Nat, s.2 = (i : Int) ∧ 1 ≤ i ∧ i ≤ n ∧ (∃ j, j < i ∧ c[j]? = some s.1) ∧ ∀ j k, j < i → c[j]? = some k → k ≤ s.1) (fun s => (∃ j, j < n ∧ c[j]? = some s.1) ∧ ∀ j k, j < n → c[j]? = some k → k ≤ s.1) (fun _ => False) (fun s => n - s.2.toNat)
  ⟨1, rfl, Nat.le_refl _, hn, ⟨0, by omega, h0⟩, hfirst⟩ ?_ (fun _ h => h.elim) ?_)
 ·rintro ⟨m, i'⟩ ⟨i, e, h1, h2, ⟨j0, hj0, hj1⟩, h4⟩
  simp only at e hj1 h4
  subst e
  simp only [J2]
  by_cases hlt : (i : Int) < (c.length : Int)
  ·obtain ⟨k, hk, hki⟩ := h.rng i (by omega)
   simp only [hlt, decide_true, if_true, Q6, hki, Option.bind_some]
   rw [Jo (by omega) (by omega)]
   refine ⟨_, Z, fun s' e => ?_, fun s' e => (by cases e), fun r e => (by cases e)⟩
   cases e
   refine ⟨⟨i + 1, by simp, by omega, by omega, ?_, ?_⟩, by simp only; omega⟩
   ·by_cases hm : m ≤ (k : Int)
    ·exact ⟨i, by omega, by rw [hki]; simp only; rw [Int.max_eq_right hm]⟩
    ·exact ⟨j0, by omega, by rw [hj1]; simp only; rw [Int.max_eq_left (by omega)]⟩
   ·intro j k' hj hk'
    simp only
    by_cases e : j = i
    ·subst e; rw [hki] at hk'; cases hk'; omega
    ·have := h4 j k' (by omega) hk'; omega
  ·simp only [hlt, decide_false, Bool.false_eq_true, if_false]
   refine ⟨_, Z, fun s' e => (by cases e), fun s' e => ?_, fun r e => (by cases e)⟩
   cases e
   have : i = n := by omega
   subst this
   exact ⟨⟨j0, hj0, hj1⟩, h4⟩
 ·rintro ⟨m, i⟩ ⟨⟨j, h1, h2⟩, h3⟩
  simp only at h2 h3
  simp only [J2]
  refine Ok.ret ?_
  obtain ⟨k, hk, hkj⟩ := h.rng j h1
  rw [hkj] at h2; cases h2
  obtain ⟨q, hq, hqq⟩ := h.onto (K - 1) (by omega)
  have := h3 q _ hq hqq
  omega
/-! ### goals of classes, the pair to be joined -/
open Classical in
noncomputable def QaM (x : System) (c : List Int) (b : Nat) : Bool := decide (∃ i : Nat, c[i]? = some (b : Int) ∧ x.Goals[i]? = some true)
theorem KV {x : System} {c : List Int} {b : Nat} : QaM x c b = true ↔ ∃ i : Nat, c[i]? = some (b : Int) ∧ x.Goals[i]? = some true := by unfold QaM; simp
def Qjq (g : Nat → Bool) (K i k : Nat) : Prop := i < k ∧ k < K ∧ g i = g k ∧ ∀ a b, a < b → b < K → g a = g b → b ≤ k ∧ (b = k → a ≤ i)
def PickOr (g : Nat → Bool) (K i k : Nat) : Prop := Qjq g K i k ∨ ((∀ a b, a < b → b < K → g a ≠ g b) ∧ i = 0 ∧ k = 1)
theorem PickOr.uniq {g : Nat → Bool} {K i k i' k' : Nat} (h : PickOr g K i k) (h' : PickOr g K i' k') : i = i' ∧ k = k' := by
 rcases h with ⟨a1, a2, a3, a4⟩ | ⟨a1, rfl, rfl⟩
 ·rcases h' with ⟨b1, b2, b3, b4⟩ | ⟨b1, rfl, rfl⟩
  ·have h1 := a4 i' k' b1 b2 b3
   have h2 := b4 i k a1 a2 a3
   have : k = k' := by omega
   subst this
   exact ⟨by have := h1.2 Z; have := h2.2 Z; omega, Z⟩
  ·exact absurd a3 (b1 i k a1 a2)
 ·rcases h' with ⟨b1, b2, b3, b4⟩ | ⟨b1, rfl, rfl⟩
  ·exact absurd b3 (a1 i' k' b1 b2)
  ·exact ⟨Z, Z⟩
theorem PickOr.lt {g : Nat → Bool} {K i k : Nat} (h : PickOr g K i k) (hK : 2 ≤ K) : i < k ∧ k < K := by
 rcases h with ⟨a1, a2, _⟩ | ⟨_, rfl, rfl⟩
 ·exact ⟨a1, a2⟩
 ·omega
theorem PickOr.same {g : Nat → Bool} {K i k : Nat} (h : PickOr g K i k) (hK : 3 ≤ K) : g i = g k := by
 rcases h with ⟨_, _, a3, _⟩ | ⟨h, rfl, rfl⟩
 ·exact a3
 ·have h1 := h 0 1 (by omega) (by omega)
  have h2 := h 0 2 (by omega) (by omega)
  have h3 := h 1 2 (by omega) (by omega)
  revert h1 h2 h3
  cases g 0 <;> cases g 1 <;> cases g 2 <;> simp
theorem QjS {goals : List Bool} {K : Nat} {g : Nat → Bool} (hl : goals.length = K) (hg : ∀ b, b < K → goals[b]? = some (g b)) (hK : 2 ≤ K) (hK2 : K ≤ 4000000) : Ok (Yz goals) fun r => ∃ i k : Nat, r = ((i : Int), (k : Int)) ∧ PickOr g K i k := by
 unfold Yz
 have hw0 : IntKind.i64.wrap ((goals.length : Int) - 1) = ((K - 1 : Nat) : Int) := by rw [Jo (by omega) (by omega)]; omega
 rw [hw0]
 refine YZ (fun k : Int => ∃ q : Nat, k = (q : Int) ∧ q < K ∧ ∀ a b, a < b → b < K → q < b → g a ≠ g b) (fun _ => ∀ a b, a < b → b < K → g a ≠ g b) (fun r => ∃ i k : Nat, r = ((i : Int), (k : Int)) ∧ Qjq g K i k) (fun k => k.toNat) ⟨K - 1, Z, by omega, fun a b _ hb h => by omega⟩ ?_ ?_ ?_
 ·rintro k ⟨q, rfl, hq, hno⟩
  by_cases h0 : (0 : Int) < (q : Int)
  ·simp only [h0, decide_true, if_true]
   have hw1 : IntKind.i64.wrap ((q : Int) - 1) = ((q - 1 : Nat) : Int) := by rw [Jo (by omega) (by omega)]; omega
   rw [hw1]
   refine (YZ (fun i : Int => ∃ p : Nat, i = (p : Int) - 1 ∧ p ≤ q ∧ ∀ a, p ≤ a → a < q → g a ≠ g q) (fun _ => ∀ a, a < q → g a ≠ g q) (fun r => ∃ i k : Nat, r = ((i : Int), (k : Int)) ∧ Qjq g K i k) (fun i => (i + 1).toNat) ⟨q, by omega, Nat.le_refl _, fun a h1 h2 => by omega⟩ ?_ ?_ ?_).mono fun c hc => hc
   ·rintro i ⟨p, rfl, hp, hno2⟩
    by_cases h1 : (0 : Int) ≤ (p : Int) - 1
    ·simp only [h1, decide_true, if_true]
     have e1 : (p : Int) - 1 = ((p - 1 : Nat) : Int) := by omega
     have e2 : IntKind.i64.wrap (((p - 1 : Nat) : Int) - 1) = ((p - 1 : Nat) : Int) - 1 := Jo (by omega) (by omega)
     rw [e1]
     simp only [Q6, hg (p - 1) (by omega), hg q hq, Option.bind_some, e2]
     by_cases e : g (p - 1) = g q
     ·simp only [e, beq_self_eq_true, if_true]
      refine ⟨_, Z, fun s' e => (by cases e), fun s' e => (by cases e), fun r e' => ?_⟩
      cases e'
      refine ⟨p - 1, q, Z, by omega, hq, e, fun a b hab hb hgab => ⟨?_, fun hbq => ?_⟩⟩
      ·rcases Nat.lt_or_ge q b with h | h
       ·exact absurd hgab (hno a b hab hb h)
       ·exact h
      ·subst hbq
       rcases Nat.lt_or_ge (p - 1) a with h | h
       ·exact absurd hgab (hno2 a (by omega) hab)
       ·exact h
     ·have hne : (g (p - 1) == g q) = false := by simpa using e
      simp only [hne, Bool.false_eq_true, if_false]
      refine ⟨_, Z, fun s' e' => ?_, fun s' e => (by cases e), fun r e => (by cases e)⟩
      cases e'
      refine ⟨⟨p - 1, Z, by omega, fun a h2 h3 => ?_⟩, by omega⟩
      by_cases ea : a = p - 1
      ·subst ea; exact e
      ·exact hno2 a (by omega) h3
    ·simp only [h1, decide_false, Bool.false_eq_true, if_false]
     refine ⟨_, Z, fun s' e => (by cases e), fun s' e => ?_, fun r e => (by cases e)⟩
     have : p = 0 := by omega
     subst this
     exact fun a ha => hno2 a (by omega) ha
   ·rintro r hr
    refine ⟨_, Z, fun s' e => (by cases e), fun s' e => (by cases e), fun r' e => ?_⟩
    cases e
    exact hr
   ·rintro _ hno2
    refine ⟨_, Z, fun s' e => ?_, fun s' e => (by cases e), fun r e => (by cases e)⟩
    cases e
    refine ⟨⟨q - 1, Z, by omega, fun a b hab hb hqb => ?_⟩, by omega⟩
    by_cases e : b = q
    ·subst e; exact hno2 a hab
    ·exact hno a b hab hb (by omega)
  ·simp only [h0, decide_false, Bool.false_eq_true, if_false]
   refine ⟨_, Z, fun s' e => (by cases e), fun s' e => ?_, fun r e => (by cases e)⟩
   exact fun a b hab hb => hno a b hab hb (by omega)
 ·rintro r ⟨i, k, rfl, h⟩
  exact Ok.ret ⟨i, k, Z, .inl h⟩
 ·rintro _ h
  exact Ok.ret ⟨0, 1, Z, .inr ⟨h, Z, Z⟩⟩
/-! ### joining -/
def QaL (i k : Nat) (v : Int) : Int := if v = (k : Int) then (i : Int) else if (k : Int) < v then v - 1 else v
noncomputable def pk (x : System) (c : List Int) (K : Nat) : Nat × Nat := Classical.epsilon fun p : Nat × Nat => PickOr (QaM x c) K p.1 p.2
theorem Qnc {x : System} {c : List Int} {K i k : Nat} (h : PickOr (QaM x c) K i k) : pk x c K = (i, k) := by
 have h1 : PickOr (QaM x c) K (pk x c K).1 (pk x c K).2 := Classical.epsilon_spec (p := fun p : Nat × Nat => PickOr (QaM x c) K p.1 p.2) ⟨(i, k), h⟩
 obtain ⟨e1, e2⟩ := h1.uniq h
 exact Prod.ext e1 e2
noncomputable def QjG (x : System) (c : List Int) (K : Nat) : List Int := c.map (QaL (pk x c K).1 (pk x c K).2)
noncomputable def itM (x : System) : Nat → List Int → Nat → List Int
 | 0, c, _ => c
 | j + 1, c, K => itM x j (QjG x c K) (K - 1)
theorem KOK.join {c : List Int} {n K i k : Nat} (h : KOK c n K) (hik : i < k) (hk : k < K) : KOK (c.map (QaL i k)) n (K - 1) := by
 refine ⟨by rw [List.length_map, h.len], fun q hq => ?_, fun b hb => ?_, by have := h.le; omega⟩
 ·obtain ⟨v, hv, hvq⟩ := h.rng q hq
  rw [List.getElem?_map, hvq]
  simp only [Option.map_some, QaL]
  by_cases e : (v : Int) = (k : Int)
  ·rw [if_pos e]; exact ⟨i, by omega, rfl⟩
  ·rw [if_neg e]
   by_cases h2 : (k : Int) < (v : Int)
   ·rw [if_pos h2]; exact ⟨v - 1, by omega, by congr 1; omega⟩
   ·rw [if_neg h2]; exact ⟨v, by omega, rfl⟩
 ·by_cases hbk : b < k
  ·obtain ⟨q, hq, hqb⟩ := h.onto b (by omega)
   refine ⟨q, hq, ?_⟩
   rw [List.getElem?_map, hqb]
   simp only [Option.map_some, QaL]
   rw [if_neg (by omega), if_neg (by omega)]
  ·obtain ⟨q, hq, hqb⟩ := h.onto (b + 1) (by omega)
   refine ⟨q, hq, ?_⟩
   rw [List.getElem?_map, hqb]
   simp only [Option.map_some, QaL]
   rw [if_neg (by omega), if_pos (by omega)]
   congr 1; omega
theorem Qj4 {x : System} {c : List Int} {n K i k : Nat} (h : KOK c n K) (hik : i < k) (hk : k < K) (hg : QaM x c i = QaM x c k) {b : Nat} (hb : b < K - 1) : QaM x (c.map (QaL i k)) b = if b < k then QaM x c b else QaM x c (b + 1) := by
 have key : ∀ q v : Nat, c[q]? = some (v : Int) → (c.map (QaL i k))[q]? = some (QaL i k (v : Int)) := fun q v hq => by rw [List.getElem?_map, hq]; rfl
 have back : ∀ q : Nat, (c.map (QaL i k))[q]? = some (b : Int) → ∃ v : Nat, c[q]? = some (v : Int) ∧ QaL i k (v : Int) = (b : Int) := by
  intro q hq
  have hqn : q < n := by have := (List.getElem?_eq_some_iff.1 hq).1; rw [List.length_map, h.len] at this; exact this
  obtain ⟨v, _, hv⟩ := h.rng q hqn
  rw [key q v hv] at hq
  exact ⟨v, hv, Zu hq⟩
 rw [Bool.eq_iff_iff]
 constructor
 ·intro h1
  obtain ⟨q, h2, h3⟩ := KV.1 h1
  obtain ⟨v, hv, e⟩ := back q h2
  unfold QaL at e
  by_cases e1 : (v : Int) = (k : Int)
  ·rw [if_pos e1] at e
   have hbi : b = i := by omega
   subst hbi
   rw [if_pos hik, hg]
   exact KV.2 ⟨q, by rw [hv, e1], h3⟩
  ·rw [if_neg e1] at e
   by_cases e2 : (k : Int) < (v : Int)
   ·rw [if_pos e2] at e
    rw [if_neg (by omega)]
    exact KV.2 ⟨q, by rw [hv]; congr 1; omega, h3⟩
   ·rw [if_neg e2] at e
    rw [if_pos (by omega)]
    exact KV.2 ⟨q, by rw [hv]; congr 1, h3⟩
 ·intro h1
  by_cases hbk : b < k
  ·rw [if_pos hbk] at h1
   obtain ⟨q, h2, h3⟩ := KV.1 h1
   refine KV.2 ⟨q, ?_, h3⟩
   rw [key q b h2]
   unfold QaL
   rw [if_neg (by omega), if_neg (by omega)]
  ·rw [if_neg hbk] at h1
   obtain ⟨q, h2, h3⟩ := KV.1 h1
   refine KV.2 ⟨q, ?_, h3⟩
   rw [key q (b + 1) h2]
   unfold QaL
   rw [if_neg (by omega), if_pos (by omega)]
   congr 1; omega
theorem QlM {x : System} {c : List Int} {K m i k : Nat} (h : m < K) (hp : PickOr (QaM x c) K i k) : itM x (K - m) c K = itM x (K - 1 - m) (c.map (QaL i k)) (K - 1) := by
 obtain ⟨d, hd⟩ : ∃ d, K - m = d + 1 := ⟨K - m - 1, by omega⟩
 have : K - 1 - m = d := by omega
 rw [hd, this]
 simp only [itM, QjG, Qnc hp]
theorem Qk6 {c : List Int} {n K : Nat} (h : KOK c n K) (hn : n ≤ 4000000) {B : Nat → List Int → Option (List Int)} {i k : Nat}
  (hB : ∀ m l v, m < n → l.length = n → l[m]? = some ((v : Nat) : Int) → v < K → Ok (B m l) fun l' => l' = l.set m (QaL i k (v : Int))) : forS B c.length 0 c = some (c.map (QaL i k)) := by
 refine QbW (J5 (fun m l => l.length = n ∧ (∀ j, j < m → l[j]? = (c.map (QaL i k))[j]?) ∧ ∀ j, m ≤ j → l[j]? = c[j]?) ⟨h.len, fun j h => absurd h (Nat.not_lt_zero _), fun j _ => rfl⟩ ?_ ?_)
 ·rintro m l hm ⟨h1, h2, h3⟩
  rw [h.len] at hm
  obtain ⟨v, hv, hvm⟩ := h.rng m hm
  refine (hB m l v hm h1 (by rw [h3 m (Nat.le_refl _)]; exact hvm) hv).mono ?_
  rintro l' rfl
  refine ⟨by simp [h1], fun j hj => ?_, fun j hj => by rw [List.getElem?_set_ne (by omega)]; exact h3 j (by omega)⟩
  by_cases e : j = m
  ·subst e
   rw [List.getElem?_set_self (by omega), List.getElem?_map, hvm]; rfl
  ·rw [List.getElem?_set_ne (Ne.symm e)]; exact h2 j (by omega)
 ·rintro l ⟨h1, h2, h3⟩
  apply List.ext_getElem?
  intro j
  by_cases hj : j < c.length
  ·exact h2 j hj
  ·rw [List.getElem?_eq_none (by rw [h1, ← h.len]; omega), List.getElem?_eq_none (by rw [List.length_map]; omega)]
theorem Qi3 (most : Int) : ∃ m : Nat, max 1 (min most 4096) = (m : Int) ∧ 1 ≤ m := ⟨(max 1 (min most 4096)).toNat, by omega, by omega⟩
theorem IsBis.kok {X : TS} {c : List Int} (h : IsBis X c) : KOK c X.n (rnk (eqL c) X.n) := h.2.2.kok (Y6 c _)
theorem QlI {x : System} (hv : VSys x) (hs : x.States ≤ 100) (hl : x.Costs.length ≤ 100) (most : Int) : Ok (YD x most) fun r => r.2 = none ∧ ∃ c0, IsBis (QaI x hv) c0 ∧ r.1 = itM x (rnk (eqL c0) x.States.toNat - (max 1 (min most 4096)).toNat) c0 (rnk (eqL c0) x.States.toNat) := by
 unfold YD
 refine Ok.bind ((QiA hv hs hl).mono ?_)
 rintro ⟨c, e⟩ ⟨h1, hb⟩
 simp only at h1 hb
 subst h1
 have s1 := hv.s1
 have hg := hv.g
 obtain ⟨m, hm, hm1⟩ := Qi3 most
 have hK := hb.kok
 have hXn : (QaI x hv).n = x.States.toNat := rfl
 rw [hXn] at hK
 generalize hKd : rnk (eqL c) x.States.toNat = K at hK
 have hle := hK.le
 have hK1 : 1 ≤ K := by obtain ⟨k, h, _⟩ := hK.rng 0 (by omega); omega
 simp only [J2, Option.isSome_none, Bool.false_eq_true, if_false]
 rw [Qls hK (by omega) (by omega)]
 simp only [Option.bind_some, hm]
 have hw : IntKind.i64.wrap ((K : Int) - 1 + 1) = (K : Int) := by rw [Jo (by omega) (by omega)]; omega
 rw [hw]
 refine Ok.step (QaK (by omega) (by omega)) (Ok.bind ?_)
 have hgc : ∀ i j k, i < x.States.toNat → j < x.States.toNat → c[i]? = some k → c[j]? = some k → x.Goals[i]?.getD false = x.Goals[j]?.getD false := fun i j k hi hj h1 h2 => hb.1.goal i j hi hj (show c[i]? = c[j]? by rw [h1, h2])
 refine J5 (fun q (g : List Bool) => g.length = K ∧ ∀ (i k : Nat), i < q → c[i]? = some (k : Int) → g[k]? = some (x.Goals[i]?.getD false)) ⟨by simp, fun i k h => absurd h (Nat.not_lt_zero _)⟩ ?_ ?_
 ·rintro q g hq ⟨h1, h2⟩
  rw [hK.len] at hq
  obtain ⟨k, hk, hkq⟩ := hK.rng q hq
  obtain ⟨y, hy⟩ := Ka (show q < x.Goals.length by omega)
  obtain ⟨z, hz⟩ := Ka (show k < g.length by omega)
  simp only [Q6, hkq, hy, hz, Option.bind_some]
  refine Ok.step (JB (by omega)) (Ok.ret ⟨by simp [h1], fun i k' hi hik => ?_⟩)
  by_cases ek : k' = k
  ·subst ek
   rw [List.getElem?_set_self (by omega)]
   by_cases ei : i = q
   ·subst ei; rw [hy]; rfl
   ·rw [hgc i q _ (by omega) hq hik hkq, hy]; rfl
  ·rw [List.getElem?_set_ne (Ne.symm ek)]
   by_cases ei : i = q
   ·subst ei; rw [hkq] at hik; simp at hik; omega
   ·exact h2 i k' (by omega) hik
 ·rintro g ⟨h1, h2⟩
  rw [hK.len] at h2
  have hg0 : ∀ b, b < K → g[b]? = some (QaM x c b) := by
   intro b hbK
   obtain ⟨i, hi, hib⟩ := hK.onto b hbK
   rw [h2 i b hi hib]
   congr 1
   rw [Bool.eq_iff_iff, KV]
   constructor
   ·intro h
    obtain ⟨y, hy⟩ := Ka (show i < x.Goals.length by omega)
    rw [hy] at h
    simp at h
    exact ⟨i, hib, by rw [hy, h]⟩
   ·rintro ⟨j, hj1, hj2⟩
    have hjn : j < x.States.toNat := by have := (List.getElem?_eq_some_iff.1 hj1).1; rw [hK.len] at this; exact this
    rw [hgc i j _ hi hjn hib hj1, hj2]; rfl
  rw [show ((m : Int)).toNat = m by omega]
  refine YZ (fun s : List Int × List Bool => ∃ L : Nat, s.2.length = L ∧ KOK s.1 x.States.toNat L ∧ 1 ≤ L ∧ (2 ≤ L → ∀ b, b < L → s.2[b]? = some (QaM x s.1 b)) ∧ itM x (L - m) s.1 L = itM x (K - m) c K) (fun s => s.1 = itM x (K - m) c K) (fun _ => False) (fun s => s.2.length) ⟨K, h1, hK, hK1, fun _ => hg0, Z⟩ ?_ (fun _ h => h.elim) ?_
  ·rintro ⟨l, g⟩ ⟨L, h1, h2, hL1, h3, h4⟩
   simp only at h1 h2 h3 h4
   have hLn := h2.le
   simp only [J2]
   by_cases hlt : (m : Int) < (g.length : Int)
   ·simp only [hlt, decide_true, if_true]
    refine Ok.bind ((QjS h1 (h3 (by omega)) (by omega) (by omega)).mono ?_)
    rintro ⟨i', k'⟩ ⟨i, k, e, hp⟩
    cases e
    obtain ⟨hik, hkL⟩ := hp.lt (by omega)
    simp only [J2]
    rw [Qk6 h2 (by omega) (i := i) (k := k) ?_]
    ·have hw2 : IntKind.i64.wrap ((k : Int) + 1) = ((k + 1 : Nat) : Int) := by rw [Jo (by omega) (by omega)]; omega
     simp only [Option.bind_some, hw2]
     have hdel : QfK g (k : Int) ((k + 1 : Nat) : Int) = some (g.take k ++ g.drop (k + 1)) := by
      unfold QfK; rw [if_pos (by omega)]; rfl
     rw [hdel]
     have hlen : (g.take k ++ g.drop (k + 1)).length = L - 1 := by simp; omega
     simp only [Option.bind_some]
     refine ⟨_, Z, fun s' e => ?_, fun s' e => (by cases e), fun r e => (by cases e)⟩
     cases e
     refine ⟨⟨L - 1, hlen, h2.join hik hkL, by omega, fun h b hbL => ?_, ?_⟩, by simp only; omega⟩
     ·rw [Qj4 h2 hik hkL (hp.same (by omega)) hbL]
      simp only
      by_cases hbk : b < k
      ·rw [if_pos hbk, List.getElem?_append_left (by simp; omega), List.getElem?_take_of_lt hbk]
       exact h3 (by omega) b (by omega)
      ·rw [if_neg hbk, List.getElem?_append_right (by simp; omega), List.getElem?_drop]
       have : k + 1 + (b - (g.take k).length) = b + 1 := by simp; omega
       rw [this]
       exact h3 (by omega) (b + 1) (by omega)
     ·rw [← h4, QlM (by omega) hp]
    ·intro q l' v hq hl' hv' hvL
     simp only [Q6, hv', Option.bind_some]
     unfold QaL
     by_cases e1 : (v : Int) = (k : Int)
     ·have n1 : ¬ (k : Int) < (v : Int) := by omega
      simp only [e1, decide_true, if_true]
      rw [JB (by omega)]
      simp only [Option.bind_some]
      rw [if_neg (by simp)]
      exact Ok.ret Z
     ·simp only [e1, decide_false, Bool.false_eq_true, if_false, Option.bind_some]
      by_cases e2 : (k : Int) < (v : Int)
      ·simp only [e2, decide_true, if_true, hv', Option.bind_some]
       rw [JB (by omega), Jo (by omega) (by omega)]
       exact Ok.ret Z
      ·simp only [e2, decide_false, Bool.false_eq_true, if_false, Option.bind_some]
       refine Ok.ret ?_
       apply List.ext_getElem?
       intro j
       by_cases ej : j = q
       ·subst ej; rw [List.getElem?_set_self (by omega), hv']
       ·rw [List.getElem?_set_ne (Ne.symm ej)]
   ·simp only [hlt, decide_false, Bool.false_eq_true, if_false]
    refine ⟨_, Z, fun s' e => (by cases e), fun s' e => ?_, fun r e => (by cases e)⟩
    cases e
    have : L - m = 0 := by omega
    rw [this] at h4
    exact h4
  ·rintro ⟨l, g⟩ h
   simp only at h
   simp only [J2]
   exact Ok.ret ⟨Z, c, hb, by rw [hKd]; exact h⟩
end Go.Pw
/- -/
set_option maxHeartbeats 4000000
namespace Go.Pw
theorem Qaq (a : Edge) : ¬ EdLt a a := by unfold EdLt; omega
theorem EdLt.trans {a b c : Edge} (h : EdLt a b) (k : EdLt b c) : EdLt a c := by unfold EdLt at *; omega
theorem Qcw (a b : Edge) : EdLt a b ∨ a = b ∨ EdLt b a := by
 obtain ⟨a1, a2, a3⟩ := a
 obtain ⟨b1, b2, b3⟩ := b
 simp only [EdLt, Edge.mk.injEq]
 omega
def Srt (l : List Edge) : Prop := l.Pairwise EdLt
theorem Srt.ext : ∀ {l k : List Edge}, Srt l → Srt k → (∀ e, e ∈ l ↔ e ∈ k) → l = k
 | [], [], _, _, _ => rfl
 | [], b :: k, _, _, h => absurd ((h b).2 (by simp)) (by simp)
 | a :: l, [], _, _, h => absurd ((h a).1 (by simp)) (by simp)
 | a :: l, b :: k, hl, hk, h => by
  obtain ⟨h1, h2⟩ := List.pairwise_cons.1 hl
  obtain ⟨k1, k2⟩ := List.pairwise_cons.1 hk
  have hab : a = b := by
   rcases List.mem_cons.1 ((h a).1 (by simp)) with e | e
   ·exact e
   ·rcases List.mem_cons.1 ((h b).2 (by simp)) with e' | e'
    ·exact e'.symm
    ·exact absurd ((k1 a e).trans (h1 b e')) (Qaq _)
  subst hab
  congr 1
  refine Srt.ext h2 k2 fun e => ?_
  have := h e
  simp only [List.mem_cons] at this
  constructor
  ·intro he
   rcases this.1 (.inr he) with e' | e'
   ·subst e'; exact absurd (h1 e he) (Qaq _)
   ·exact e'
  ·intro he
   rcases this.2 (.inr he) with e' | e'
   ·subst e'; exact absurd (k1 e he) (Qaq _)
   ·exact e'
theorem Srt.nodup {l : List Edge} (h : Srt l) : l.Nodup := by
 refine List.Pairwise.imp ?_ h
 intro a b hab e
 subst e
 exact Qaq _ hab
theorem Qks {l : List Edge} (hn : l.Nodup) (hlen : l.length < 4611686018427387904) : ∃ k, KJ l = some k ∧ Srt k ∧ ∀ e, e ∈ k ↔ e ∈ l := by
 unfold KJ
 rw [if_pos hlen]
 refine ⟨_, Z, ?_, fun e => (List.mergeSort_perm l _).mem_iff⟩
 have hp : (l.mergeSort fun x y => !decide (Qbs y x < 0)).Pairwise (fun x y => (!decide (Qbs y x < 0)) = true) := by
  apply List.pairwise_mergeSort
  ·intro a b c h1 h2
   simp only [Bool.not_eq_true', decide_eq_false_iff_not, QcE] at *
   intro h3
   rcases Qcw a b with h | h | h
   ·exact h2 (h3.trans h)
   ·subst h; exact h2 h3
   ·exact h1 h
  ·intro a b
   simp only [Bool.or_eq_true, Bool.not_eq_true', decide_eq_false_iff_not, QcE]
   by_cases h : EdLt b a
   ·exact .inr fun h' => Qaq _ (h.trans h')
   ·exact .inl h
 have hnd : (l.mergeSort fun x y => !decide (Qbs y x < 0)).Nodup := (List.mergeSort_perm l _).nodup_iff.2 hn
 refine (hp.and hnd).imp ?_
 rintro a b ⟨h1, h2⟩
 simp only [Bool.not_eq_true', decide_eq_false_iff_not, QcE] at h1
 rcases Qcw a b with h | h | h
 ·exact h
 ·exact absurd h h2
 ·exact absurd h h1
end Go.Pw
/- -/
set_option maxHeartbeats 4000000
namespace Go.Pw
theorem Qap {α β : Type} (xs : List α) (g : α → List β) {B : Nat → List β → Option (List β)} {s0 : List β} (h : ∀ i y s, xs[i]? = some y → s = s0 ++ (xs.take i).flatMap g → B i s = some (s ++ g y)) :
  forS B xs.length 0 s0 = some (s0 ++ xs.flatMap g) := by
 refine QbW (J5 (fun i s => s = s0 ++ (xs.take i).flatMap g) (by simp) ?_ (fun s hs => by rw [hs, List.take_length]))
 intro i s hi hs
 obtain ⟨y, hy⟩ := QH hi
 refine Qnh (h i y s hy hs) ?_
 rw [hs, List.append_assoc]
 congr 1
 rw [List.take_add_one, hy]
 simp [List.flatMap_append]
theorem Qgn {β : Type} (n : Nat) (g : Nat → List β) {B : Nat → List β → Option (List β)} {s0 : List β} (h : ∀ i s, i < n → s = s0 ++ (List.range i).flatMap g → B i s = some (s ++ g i)) :
  forS B n 0 s0 = some (s0 ++ (List.range n).flatMap g) := by
 refine QbW (J5 (fun i s => s = s0 ++ (List.range i).flatMap g) (by simp) ?_ (fun s hs => hs))
 intro i s hi hs
 refine Qnh (h i s hi hs) ?_
 rw [hs, List.append_assoc]
 congr 1
 rw [List.range_succ]
 simp [List.flatMap_append]
theorem QbZ {α β : Type} {g : α → List β} {M : Nat} : ∀ {xs : List α}, (∀ x ∈ xs, (g x).length ≤ M) → (xs.flatMap g).length ≤ xs.length * M
 | [], _ => by simp
 | x :: xs, h => by
  rw [List.flatMap_cons, List.length_append, List.length_cons, Nat.add_mul, Nat.one_mul]
  have h1 := h x (by simp)
  have h2 := QbZ (xs := xs) (g := g) (M := M) fun y hy => h y (by simp [hy])
  omega
theorem YY {α β : Type} {g : α → β} (xs : List α) : xs.flatMap (fun y => [g y]) = xs.map g := by
 induction xs with
 | nil => rfl
 | cons x xs ih => simp [ih]
def QfJ (a b : System) : List Bool := a.Goals.flatMap fun g => b.Goals.map fun h => g && h
theorem Qj3 (a b : System) (ha : a.Goals.length ≤ 4096) (hb : b.Goals.length ≤ 4096) (B : Nat → List Bool → Option (List Bool))
  (hB : ∀ i z, B i z = (forS (fun j => fun (l : List Bool) => ((Jc a.Goals (i : Int)).bind fun x => if x then ((Jc b.Goals (j : Int)).bind fun y => (app 1 l [y]).bind fun l' => some l') else ((app 1 l [false]).bind fun l' => some l')).bind (fun (l' : List Bool) => some l')) b.Goals.length 0 z).bind (fun (l : List Bool) => some l)) :
  forS B a.Goals.length 0 [] = some (QfJ a b) := by
 have := Qap a.Goals (fun g => b.Goals.map fun h => g && h) (B := B) (s0 := []) ?_
 ·simpa [QfJ] using this
 intro i g s hg hs
 have hi : i < a.Goals.length := (List.getElem?_eq_some_iff.1 hg).1
 have hsl : s.length ≤ 4096 * 4096 := by
  rw [hs, List.nil_append]
  refine Nat.le_trans (QbZ (M := b.Goals.length) (by simp)) ?_
  refine Nat.mul_le_mul ?_ hb
  simp; omega
 rw [hB, Qap b.Goals (fun h => [g && h]) (s0 := s) ?_]
 ·simp [YY]
 ·intro j h t hh ht
  have hj : j < b.Goals.length := (List.getElem?_eq_some_iff.1 hh).1
  have htl : t.length ≤ 4096 * 4096 + 4096 := by
   rw [ht, List.length_append, YY, List.length_map, List.length_take]; omega
  simp only [Q6, hg, hh, Option.bind_some]
  cases g with
  | true => simp only [if_true]; rw [JM (by simp; omega)]; simp
  | false => simp only [Bool.false_eq_true, if_false]; rw [JM (by simp; omega)]; simp
def JH (x : System) (l : Nat) : List Edge := x.Edges.filter fun d => decide (d.Label = (l : Int))
theorem Qkv (x : System) (l : Nat) : (JH x l).length ≤ x.Edges.length := List.length_filter_le _ _
theorem QdJ (x : System) (hv : VSys x) : Ok (Kx x) fun L => L.length = x.Costs.length ∧ ∀ l, l < x.Costs.length → L[l]? = some (JH x l) := by
 unfold Kx
 have hc := hv.c
 have he := hv.e
 refine Ok.step (QaK (by omega) (by omega)) (Ok.bind ?_)
 refine J5 (fun i L => L.length = x.Costs.length ∧ ∀ l, l < x.Costs.length → L[l]? = some ((x.Edges.take i).filter fun d => decide (d.Label = (l : Int)))) ?_ ?_ ?_
 ·refine ⟨by simp, fun l hl => ?_⟩
  simp [hl]
 ·rintro i L hi ⟨h1, h2⟩
  obtain ⟨d, hd⟩ := QH hi
  obtain ⟨e1, e2, e3, e4, e5, e6⟩ := hv.edge d (List.mem_of_getElem? hd)
  obtain ⟨l, hl⟩ : ∃ l : Nat, d.Label = (l : Int) := ⟨d.Label.toNat, by omega⟩
  have hlc : l < x.Costs.length := by omega
  rw [Q6, hd]
  simp only [Option.bind_some, hl, Q6, h2 l hlc]
  have hlen : ((x.Edges.take i).filter fun d => decide (d.Label = (l : Int))).length ≤ 65536 := by
   refine Nat.le_trans (List.length_filter_le _ _) ?_
   simp; omega
  refine Ok.step (JM (by simp only [List.length_singleton]; omega)) (Ok.step (JB (by omega)) (Ok.ret ⟨by simp [h1], fun k hk => ?_⟩))
  rw [List.take_add_one, hd]
  by_cases e : k = l
  ·subst e
   simp [h1, hk, List.filter_append, hl]
  ·rw [List.getElem?_set_ne (Ne.symm e), h2 k hk]
   have : ¬ (d.Label = (k : Int)) := by omega
   simp [List.filter_append, this]
 ·rintro L ⟨h1, h2⟩
  exact Ok.ret ⟨h1, fun l hl => by rw [h2 l hl, List.take_length]; rfl⟩
def mkE (n : Int) (l : Int) (d f : Edge) : Edge := ⟨d.From * n + f.From, l, d.To * n + f.To⟩
def PE (a b : System) (e : Edge) : Prop := ∃ d ∈ a.Edges, ∃ f ∈ b.Edges, d.Label = f.Label ∧ e = mkE b.States d.Label d f
structure ProdRes (a b x : System) : Prop where
 s : x.States = a.States * b.States
 i : x.Init = a.Init * b.States + b.Init
 c : x.Costs = a.Costs
 g : x.Goals = QfJ a b
 o : Srt x.Edges
 e : ∀ e, e ∈ x.Edges ↔ PE a b e
theorem ProdRes.uniq {a b x y : System} (h : ProdRes a b x) (k : ProdRes a b y) : x = y := by
 have he : x.Edges = y.Edges := h.o.ext k.o fun e => (h.e e).trans (k.e e).symm
 obtain ⟨x1, x2, x3, x4, x5⟩ := x
 obtain ⟨y1, y2, y3, y4, y5⟩ := y
 have h1 := h.s.trans k.s.symm
 have h2 := h.i.trans k.i.symm
 have h3 := h.c.trans k.c.symm
 have h4 := h.g.trans k.g.symm
 simp only at *
 subst h1 h2 h3 h4 he
 rfl
theorem QhF {n x y x' y' : Int} (h0 : 0 ≤ y) (h1 : y < n) (h2 : 0 ≤ y') (h3 : y' < n) (h : x * n + y = x' * n + y') : x = x' ∧ y = y' := by
 have hn : 0 < n := by omega
 rcases Int.lt_trichotomy x x' with hlt | heq | hgt
 ·have : (x + 1) * n ≤ x' * n := Int.mul_le_mul_of_nonneg_right (by omega) (by omega)
  rw [Int.add_mul, Int.one_mul] at this
  omega
 ·subst heq; exact ⟨rfl, by omega⟩
 ·have : (x' + 1) * n ≤ x * n := Int.mul_le_mul_of_nonneg_right (by omega) (by omega)
  rw [Int.add_mul, Int.one_mul] at this
  omega
theorem Qh2 {x n : Int} (h0 : 0 ≤ x) (h1 : x ≤ 4096) (h2 : 0 ≤ n) (h3 : n ≤ 4096) : 0 ≤ x * n ∧ x * n ≤ 16777216 := by
 refine ⟨Int.mul_nonneg h0 h2, ?_⟩
 have : x * n ≤ 4096 * 4096 := Int.mul_le_mul h1 h3 h2 (by omega)
 omega
theorem QlH {a b : System} (ha : VSys a) (hb : VSys b) {d f : Edge} (hd : d ∈ a.Edges) (hf : f ∈ b.Edges) (l : Int) :
  (⟨IntKind.i64.wrap ((IntKind.i64.wrap (d.From * b.States)) + f.From), l, IntKind.i64.wrap ((IntKind.i64.wrap (d.To * b.States)) + f.To)⟩ : Edge) = mkE b.States l d f := by
 obtain ⟨d1, d2, d3, d4, _, _⟩ := ha.edge d hd
 obtain ⟨f1, f2, f3, f4, _, _⟩ := hb.edge f hf
 have s1 := ha.s2
 have s2 := hb.s1
 have s3 := hb.s2
 have m1 := Qh2 (x := d.From) (n := b.States) d1 (by omega) (by omega) (by omega)
 have m2 := Qh2 (x := d.To) (n := b.States) d3 (by omega) (by omega) (by omega)
 have w1 : IntKind.i64.wrap (d.From * b.States) = d.From * b.States := Jo (by omega) (by omega)
 have w2 : IntKind.i64.wrap (d.To * b.States) = d.To * b.States := Jo (by omega) (by omega)
 rw [w1, w2, Jo (by omega) (by omega), Jo (by omega) (by omega)]
 rfl
theorem VSys.srt {x : System} (h : VSys x) : Srt x.Edges := by
 refine List.pairwise_iff_getElem.2 ?_
 intro i j hi hj hij
 obtain ⟨k, rfl⟩ : ∃ k, j = i + 1 + k := ⟨j - i - 1, by omega⟩
 clear hij
 induction k with
 | zero => exact h.ord i _ _ (by simp [hi]) (by simp [show i + 1 < x.Edges.length by omega])
 | succ k ih => exact (ih (by omega)).trans (h.ord (i + 1 + k) _ _ (by simp [show i + 1 + k < x.Edges.length by omega]) (by simp [show i + 1 + k + 1 < x.Edges.length by omega]; rfl))
def Qg9 (a b : System) (l : Nat) : List Edge := (JH a l).flatMap fun d => (JH b l).map fun f => mkE b.States (l : Int) d f
def QgB (a b : System) : List Edge := (List.range a.Costs.length).flatMap (Qg9 a b)
theorem KM {x : System} {l : Nat} {d : Edge} : d ∈ JH x l ↔ d ∈ x.Edges ∧ d.Label = (l : Int) := by simp [JH]
theorem QlK {a b : System} (ha : VSys a) (e : Edge) : e ∈ QgB a b ↔ PE a b e := by
 simp only [QgB, Qg9, List.mem_flatMap, List.mem_range, List.mem_map, KM, PE]
 constructor
 ·rintro ⟨l, hl, d, ⟨hd, hdl⟩, f, ⟨hf, hfl⟩, rfl⟩
  exact ⟨d, hd, f, hf, hdl.trans hfl.symm, by rw [hdl]⟩
 ·rintro ⟨d, hd, f, hf, hdf, rfl⟩
  obtain ⟨e1, e2, e3, e4, e5, e6⟩ := ha.edge d hd
  obtain ⟨l, hl⟩ : ∃ l : Nat, d.Label = (l : Int) := ⟨d.Label.toNat, by omega⟩
  exact ⟨l, by omega, d, ⟨hd, hl⟩, f, ⟨hf, hdf ▸ hl⟩, by rw [hl]⟩
theorem Qgi {a b : System} (ha : VSys a) (hb : VSys b) : (QgB a b).Nodup := by
 have na := ha.srt.nodup
 have nb := hb.srt.nodup
 unfold QgB
 refine List.pairwise_flatMap.2 ⟨fun l _ => ?_, ?_⟩
 ·unfold Qg9
  refine List.pairwise_flatMap.2 ⟨fun d hd => ?_, ?_⟩
  ·refine List.pairwise_map.2 ?_
   refine List.Pairwise.imp_of_mem ?_ (nb.sublist List.filter_sublist)
   intro f f' hf hf' hne heq
   apply hne
   obtain ⟨hf1, hf2⟩ := KM.1 hf
   obtain ⟨hf1', hf2'⟩ := KM.1 hf'
   simp only [mkE, Edge.mk.injEq] at heq
   obtain ⟨f1, f2, f3⟩ := f
   obtain ⟨g1, g2, g3⟩ := f'
   simp only [Edge.mk.injEq] at *
   omega
  ·refine List.Pairwise.imp_of_mem ?_ (na.sublist List.filter_sublist)
   intro d d' hd hd' hne e he e' he' heq
   apply hne
   subst heq
   obtain ⟨f, hf, rfl⟩ := List.mem_map.1 he
   obtain ⟨f', hf', heq⟩ := List.mem_map.1 he'
   obtain ⟨hf1, hf2⟩ := KM.1 hf
   obtain ⟨hf1', hf2'⟩ := KM.1 hf'
   obtain ⟨hd1, hd2⟩ := KM.1 hd
   obtain ⟨hd1', hd2'⟩ := KM.1 hd'
   obtain ⟨a1, a2, a3, a4, _, _⟩ := hb.edge f hf1
   obtain ⟨b1, b2, b3, b4, _, _⟩ := hb.edge f' hf1'
   simp only [mkE, Edge.mk.injEq, true_and] at heq
   have h1 := QhF b1 b2 a1 a2 heq.1
   have h2 := QhF b3 b4 a3 a4 heq.2
   obtain ⟨x1, x2, x3⟩ := d
   obtain ⟨y1, y2, y3⟩ := d'
   simp only [Edge.mk.injEq] at *
   omega
 ·refine List.Pairwise.imp ?_ (List.pairwise_lt_range (n := a.Costs.length))
  intro l l' hlt e he e' he' heq
  subst heq
  simp only [Qg9, List.mem_flatMap, List.mem_map] at he he'
  obtain ⟨d, _, f, _, rfl⟩ := he
  obtain ⟨d', _, f', _, heq⟩ := he'
  simp only [mkE, Edge.mk.injEq] at heq
  omega
end Go.Pw
/- -/
set_option maxHeartbeats 4000000
set_option maxRecDepth 100000
namespace Go.Pw
/-! ### which lists are classes -/
theorem Qmb {α : Type} {l : List α} {m : Nat} (h : m ≤ l.length) : cut l 0 (m : Int) = some (l.take m) := by
 unfold cut
 rw [if_pos (by omega)]
 simp
theorem QjA {c : List Int} {n : Nat} (hn : n ≤ 1000000) (hl : c.length = n) : Ok (Ky c (n : Int)) fun r => (∃ K : Nat, KOK c n K ∧ r = ((K : Int), true)) ∨ ((¬ ∃ K, KOK c n K) ∧ r.2 = false) := by
 unfold Ky
 rw [if_neg (by simp [hl])]
 refine Ok.step (QaK (by omega) (by omega)) ?_
 refine Ok.ctl (fun i (s : Int × List Bool) => s.2.length = n ∧ (∀ j, j < i → ∃ k : Nat, c[j]? = some (k : Int) ∧ (k : Int) < s.1) ∧ (∃ M : Nat, s.1 = (M : Int) ∧ M ≤ n ∧ (M = 0 ∨ ∃ j, j < i ∧ c[j]? = some ((M : Int) - 1))) ∧ ∀ b : Nat, s.2[b]? = some true ↔ b < n ∧ ∃ j, j < i ∧ c[j]? = some (b : Int)) (fun r => r = (0, false) ∧ ¬ ∃ K, KOK c n K) ⟨by simp, fun j h => absurd h (Nat.not_lt_zero _), ⟨0, Z, Nat.zero_le _, .inl Z⟩, fun b => ?_⟩ ?_ ?_ ?_
 ·simp [List.getElem?_replicate]
 ·rintro i ⟨m, l⟩ hi ⟨h1, h2, ⟨M, h3, h4, h5⟩, h6⟩
  simp only at h1 h2 h3 h5 h6
  subst h3
  obtain ⟨v, hv⟩ := Ka hi
  simp only [J2, Q6, hv, Option.bind_some]
  by_cases hb : v < 0 ∨ (n : Int) ≤ v
  ·rw [if_pos (by simpa using hb)]
   refine Ok.ret ⟨Z, ?_⟩
   rintro ⟨K, hK⟩
   obtain ⟨k, hk, hki⟩ := hK.rng i (by omega)
   rw [hv] at hki
   have := hK.le
   cases hki
   omega
  ·rw [if_neg (by simpa using hb)]
   obtain ⟨k, rfl⟩ : ∃ k : Nat, v = (k : Int) := ⟨v.toNat, by omega⟩
   obtain ⟨y, hy⟩ := Ka (show k < l.length by omega)
   simp only [Q6, hy, Option.bind_some]
   rw [JB (by omega), Jo (by omega) (by omega)]
   refine Ok.ret ⟨by simp [h1], fun j hj => ?_, ?_, fun b => ?_⟩
   ·by_cases e : j = i
    ·subst e; exact ⟨k, hv, by simp only; omega⟩
    ·obtain ⟨q, hq1, hq2⟩ := h2 j (by omega); exact ⟨q, hq1, by simp only; omega⟩
   ·by_cases hM : (M : Int) ≤ (k : Int) + 1
    ·exact ⟨k + 1, by simp only; rw [Int.max_eq_right hM]; rfl, by omega, .inr ⟨i, by omega, by rw [hv]; congr 1; omega⟩⟩
    ·refine ⟨M, by simp only; rw [Int.max_eq_left (by omega)], h4, ?_⟩
     rcases h5 with h5 | ⟨j, hj, hj2⟩
     ·exact .inl h5
     ·exact .inr ⟨j, by omega, hj2⟩
   ·simp only
    by_cases e : b = k
    ·subst e
     rw [List.getElem?_set_self (by omega)]
     simp only [true_iff]
     exact ⟨by omega, i, by omega, hv⟩
    ·rw [List.getElem?_set_ne (Ne.symm e), h6 b]
     constructor
     ·rintro ⟨a1, j, hj, hj2⟩; exact ⟨a1, j, by omega, hj2⟩
     ·rintro ⟨a1, j, hj, hj2⟩
      by_cases ej : j = i
      ·subst ej; rw [hv] at hj2; simp at hj2; omega
      ·exact ⟨a1, j, by omega, hj2⟩
 ·rintro r ⟨rfl, h⟩
  exact Ok.ret (.inr ⟨h, Z⟩)
 ·rintro ⟨m, l⟩ ⟨h1, h2, ⟨M, h3, h4, h5⟩, h6⟩
  simp only at h1 h2 h3 h5 h6
  rw [hl] at h2 h5 h6
  subst h3
  simp only [J2]
  rw [Qmb (by omega)]
  simp only [Option.bind_some]
  have hlt : (l.take M).length = M := by simp; omega
  rw [QcD (p := fun b => decide (l[b]? = some true)) (r := (0, false)) ?_]
  ·by_cases hall : ∀ b, b < M → l[b]? = some true
   ·rw [hlt, if_pos (List.all_eq_true.2 fun b hb => by simpa using hall b (by simpa using hb))]
    refine Ok.ret (.inl ⟨M, ⟨hl, fun i hi => ?_, fun b hb => ?_, h4⟩, Z⟩)
    ·obtain ⟨k, hk1, hk2⟩ := h2 i hi
     exact ⟨k, by omega, hk1⟩
    ·obtain ⟨_, j, hj, hj2⟩ := (h6 b).1 (hall b hb)
     exact ⟨j, hj, hj2⟩
   ·rw [hlt, if_neg ?_]
    ·refine Ok.ret (.inr ⟨?_, Z⟩)
     rintro ⟨K, hK⟩
     apply hall
     intro b hb
     have hMK : M ≤ K := by
      rcases h5 with h5 | ⟨j, hj, hj2⟩
      ·omega
      ·obtain ⟨k, hk, hkj⟩ := hK.rng j hj
       rw [hkj] at hj2; simp at hj2; omega
     obtain ⟨j, hj, hj2⟩ := hK.onto b (by omega)
     exact (h6 b).2 ⟨by omega, j, hj, hj2⟩
    ·intro h
     apply hall
     intro b hb
     have := List.all_eq_true.1 h b (by simpa using hb)
     simpa using this
  ·intro b hb
   obtain ⟨y, hy⟩ := Ka (show b < l.length by omega)
   have : (l.take M)[b]? = some y := by rw [List.getElem?_take_of_lt (by omega), hy]
   simp only [Q6, this, hy, Option.bind_some, Option.some.injEq]
   cases y <;> simp
theorem KOK.uniq {c : List Int} {n K L : Nat} (h : KOK c n K) (k : KOK c n L) : K = L := by
 have key : ∀ {K L : Nat}, KOK c n K → KOK c n L → K ≤ L := by
  intro K L h k
  rcases Nat.eq_zero_or_pos K with h0 | h0
  ·omega
  ·obtain ⟨i, hi, hi2⟩ := h.onto (K - 1) (by omega)
   obtain ⟨q, hq, hq2⟩ := k.rng i hi
   rw [hi2] at hq2; simp at hq2; omega
 have := key h k; have := key k h; omega
/-! ### sorted edges, each once -/
theorem QiP (s : List Edge) : QaY s = Qet (fun a b => eqs [a.From, a.Label, a.To] [b.From, b.Label, b.To]) ⟨0, 0, 0⟩ s := rfl
theorem QlW (a b : Edge) : eqs [a.From, a.Label, a.To] [b.From, b.Label, b.To] = true ↔ a = b := by
 obtain ⟨a1, a2, a3⟩ := a
 obtain ⟨b1, b2, b3⟩ := b
 simp [eqs]
theorem QlF {l : List Edge} (h : l.length ≤ 1000000) : Ok (Yl l) fun r => Srt r ∧ r.length ≤ l.length ∧ ∀ e, e ∈ r ↔ e ∈ l := by
 unfold Yl
 have hs : KJ l = some (l.mergeSort fun x y => !decide (Qbs y x < 0)) := by unfold KJ; rw [if_pos (by omega)]
 rw [hs]
 simp only [Option.bind_some, QiP]
 have hlen : (l.mergeSort fun x y => !decide (Qbs y x < 0)).length = l.length := List.length_mergeSort l
 have hp : (l.mergeSort fun x y => !decide (Qbs y x < 0)).Pairwise (fun a b => ¬ EdLt b a) := by
  have : (l.mergeSort fun x y => !decide (Qbs y x < 0)).Pairwise (fun x y => (!decide (Qbs y x < 0)) = true) := by
   apply List.pairwise_mergeSort
   ·intro a b c h1 h2
    simp only [Bool.not_eq_true', decide_eq_false_iff_not, QcE] at *
    intro h3
    rcases Qcw a b with h | h | h
    ·exact h2 (h3.trans h)
    ·subst h; exact h2 h3
    ·exact h1 h
   ·intro a b
    simp only [Bool.or_eq_true, Bool.not_eq_true', decide_eq_false_iff_not, QcE]
    by_cases h : EdLt b a
    ·exact .inr fun h' => Qaq _ (h.trans h')
    ·exact .inl h
  refine this.imp ?_
  intro a b h
  simpa [QcE] using h
 refine Ok.bind ((QdZ QlW ⟨0, 0, 0⟩ _ (by rw [hlen]; omega)).mono ?_)
 rintro ⟨k, r⟩ ⟨h1, h2, h3⟩
 simp only at h1 h2 h3
 simp only [J2]
 refine Ok.must (by simp; omega) (Ok.ret ?_)
 rw [h3]
 refine ⟨(Qd5 (le := fun a b => ¬ EdLt b a) (lt := EdLt) (fun a b h ne => (Qcw a b).resolve_right fun h2 => h2.elim ne h) (fun a b c h1 h2 => ?_) (fun a b c h1 h2 h3 => ?_) _ none hp (by simp)).1, ?_, fun e => ?_⟩
 ·rcases Qcw a b with h | h | h
  ·exact h.trans h2
  ·subst h; exact h2
  ·exact absurd h h1
 ·rcases Qcw a b with h | h | h
  ·exact h2 (h3.trans h)
  ·subst h; exact h2 h3
  ·exact h1 h
 ·have := Qh3 (l.mergeSort fun x y => !decide (Qbs y x < 0)) none
  omega
 ·rw [Qjk]
  exact (List.mergeSort_perm l _).mem_iff
/-! ### the quotient -/
def Qhs (c : List Int) (d : Edge) : Edge := ⟨(cN c d.From.toNat : Int), d.Label, (cN c d.To.toNat : Int)⟩
structure QRes (x : System) (c : List Int) (K : Nat) (y : System) : Prop where
 s : y.States = (K : Int)
 i : y.Init = (cN c x.Init.toNat : Int)
 cs : y.Costs = x.Costs
 gl : y.Goals.length = K
 g : ∀ b, b < K → y.Goals[b]? = some (QaM x c b)
 o : Srt y.Edges
 l : y.Edges.length ≤ x.Edges.length
 e : ∀ e, e ∈ y.Edges ↔ ∃ d ∈ x.Edges, e = Qhs c d
theorem KOK.clsOf {c : List Int} {n K : Nat} (h : KOK c n K) : ClsOf c n K := by
 refine ⟨h.len, fun v hv => ?_⟩
 obtain ⟨i, hi⟩ := List.mem_iff_getElem?.1 hv
 have hin : i < n := by have := (List.getElem?_eq_some_iff.1 hi).1; rw [h.len] at this; exact this
 obtain ⟨k, hk, hki⟩ := h.rng i hin
 rw [hi] at hki; cases hki
 exact ⟨k, Z, hk⟩
theorem Qm4 {x : System} (hv : VSys x) {c : List Int} {K : Nat} (hK : KOK c x.States.toNat K) : Ok (KF x c) fun r => r.1 = none ∧ QRes x c K r.2 := by
 unfold KF
 have s1 := hv.s1; have s2 := hv.s2; have i0 := hv.i0; have i1 := hv.i1; have hg := hv.g; have hcl := hv.c; have he := hv.e
 obtain ⟨n, hn⟩ : ∃ n : Nat, x.States = (n : Int) := ⟨x.States.toNat, by omega⟩
 have hnt : x.States.toNat = n := by omega
 rw [hnt] at hK
 have hc := hK.clsOf
 have hKn := hK.le
 have hcls : Ky c x.States = some ((K : Int), true) := by
  rw [hn]
  obtain ⟨r, h1, h2⟩ := QjA (n := n) (by omega) hK.len
  rw [h1]
  rcases h2 with ⟨L, hL, rfl⟩ | ⟨h, _⟩
  ·rw [hL.uniq hK]
  ·exact absurd ⟨K, hK⟩ h
 rw [hcls]
 simp only [Option.bind_some, J2, tV, Qcs.2 hv, Bool.not_true, Bool.false_eq_true, if_false]
 obtain ⟨q, hq⟩ : ∃ q : Nat, x.Init = (q : Int) := ⟨x.Init.toNat, by omega⟩
 have hci := (hc.get (i := q) (by omega)).1
 rw [hq, Q6, hci]
 have hclone : QA x.Costs = some x.Costs := by
  unfold QA
  rw [JM (by simp; omega)]
  simp
 simp only [Option.bind_some, hclone]
 refine Ok.step (QaK (by omega) (by omega)) (Ok.bind ?_)
 refine J5 (fun m (l : List Bool) => l.length = K ∧ ∀ b, b < K → ∃ z, l[b]? = some z ∧ (z = true ↔ ∃ i, i < m ∧ c[i]? = some (b : Int) ∧ x.Goals[i]? = some true)) ⟨by simp, fun b hb => ⟨false, by simp [hb], by simp⟩⟩ ?_ ?_
 ·rintro m l hm ⟨h1, h2⟩
  obtain ⟨g, hgm⟩ := Ka hm
  have hcm := hc.get (i := m) (by omega)
  obtain ⟨z, hz, hz2⟩ := h2 _ hcm.2
  simp only [Q6, hgm, hcm.1, hz, Option.bind_some]
  have key : ∀ w : Bool, (w = true ↔ z = true ∨ g = true) → ((l.set (cN c m) w).length = K ∧ ∀ b, b < K → ∃ z, (l.set (cN c m) w)[b]? = some z ∧ (z = true ↔ ∃ i, i < m + 1 ∧ c[i]? = some (b : Int) ∧ x.Goals[i]? = some true)) := by
   intro w hw
   refine ⟨by simp [h1], fun b hb => ?_⟩
   by_cases e : b = cN c m
   ·subst e
    refine ⟨w, by rw [List.getElem?_set_self (by omega)], ?_⟩
    rw [hw, hz2]
    constructor
    ·rintro (⟨i, a1, a2, a3⟩ | h)
     ·exact ⟨i, by omega, a2, a3⟩
     ·exact ⟨m, by omega, hcm.1, by rw [hgm, h]⟩
    ·rintro ⟨i, a1, a2, a3⟩
     by_cases ei : i = m
     ·subst ei; rw [hgm] at a3; cases a3; exact .inr rfl
     ·exact .inl ⟨i, by omega, a2, a3⟩
   ·obtain ⟨z', b1, b2⟩ := h2 b hb
    refine ⟨z', by rw [List.getElem?_set_ne (Ne.symm e)]; exact b1, ?_⟩
    rw [b2]
    constructor
    ·rintro ⟨i, a1, a2, a3⟩; exact ⟨i, by omega, a2, a3⟩
    ·rintro ⟨i, a1, a2, a3⟩
     by_cases ei : i = m
     ·subst ei; rw [hcm.1] at a2; simp at a2; omega
     ·exact ⟨i, by omega, a2, a3⟩
  cases z with
  | true =>
   simp only [if_true]
   rw [JB (by omega)]
   exact Ok.ret (key true (by simp))
  | false =>
   simp only [Bool.false_eq_true, if_false]
   rw [JB (by omega)]
   exact Ok.ret (key g (by simp))
 ·rintro l ⟨h1, h2⟩
  have hloop : forS (fun i => fun (z : List Edge) => (Jc x.Edges (i : Int)).bind fun d => (Jc c d.From).bind fun a => (Jc c d.To).bind fun b => (app 24 z [(⟨a, d.Label, b⟩ : Edge)]).bind fun z' => some z') x.Edges.length 0 [] = some (x.Edges.map (Qhs c)) := by
   have := Qap x.Edges (fun d => [Qhs c d]) (s0 := []) (B := fun i => fun (z : List Edge) => (Jc x.Edges (i : Int)).bind fun d => (Jc c d.From).bind fun a => (Jc c d.To).bind fun b => (app 24 z [(⟨a, d.Label, b⟩ : Edge)]).bind fun z' => some z') ?_
   ·rw [List.nil_append, YY] at this; exact this
   ·intro i d s hd hs
    have hsl : s.length ≤ 65536 := by rw [hs, List.nil_append, YY, List.length_map, List.length_take]; omega
    obtain ⟨f, lb, t, rfl, hf, ht, _⟩ := Qbc hv (List.mem_of_getElem? hd)
    rw [hnt] at hf ht
    simp only [Q6, hd, (hc.get hf).1, (hc.get ht).1, Option.bind_some]
    rw [JM (by simp; omega)]
    simp [Qhs]
  rw [hloop]
  simp only [Option.bind_some]
  refine Ok.bind ((QlF (l := x.Edges.map (Qhs c)) (by simp; omega)).mono ?_)
  rintro es ⟨e1, e2, e3⟩
  refine Ok.ret ⟨Z, Z, by simp [hq], Z, h1, fun b hb => ?_, e1, by simpa using e2, fun e => ?_⟩
  ·obtain ⟨z, b1, b2⟩ := h2 b hb
   simp only
   rw [b1]
   congr 1
   rw [Bool.eq_iff_iff, b2, KV]
   constructor
   ·rintro ⟨i, _, a2, a3⟩; exact ⟨i, a2, a3⟩
   ·rintro ⟨i, a2, a3⟩; exact ⟨i, (List.getElem?_eq_some_iff.1 a3).1, a2, a3⟩
  ·simp only
   rw [e3]
   simp only [List.mem_map]
   constructor
   ·rintro ⟨d, hd, rfl⟩; exact ⟨d, hd, rfl⟩
   ·rintro ⟨d, hd, rfl⟩; exact ⟨d, hd, rfl⟩
theorem QRes.v {x y : System} (hv : VSys x) {c : List Int} {K : Nat} (hK : KOK c x.States.toNat K) (h : QRes x c K y) : VSys y := by
 have s1 := hv.s1; have s2 := hv.s2; have i0 := hv.i0; have i1 := hv.i1
 have hc := hK.clsOf
 have hi := (hc.get (i := x.Init.toNat) (by omega)).2
 have hle := hK.le
 refine ⟨by rw [h.s]; omega, by rw [h.s]; omega, by rw [h.i]; omega, by rw [h.i, h.s]; omega, by rw [h.gl, h.s], by rw [h.cs]; exact hv.c, by have := h.l; have := hv.e; omega, by rw [h.cs]; exact hv.cost, fun e he => ?_, fun i a b ha hb => ?_⟩
 ·obtain ⟨d, hd, rfl⟩ := (h.e e).1 he
  obtain ⟨f, l, t, rfl, hf, ht, hl⟩ := Qbc hv hd
  have h1 := (hc.get hf).2
  have h2 := (hc.get ht).2
  simp only [Qhs, Int.toNat_natCast, h.s, h.cs]
  omega
 ·have := List.pairwise_iff_getElem.1 h.o i (i + 1) (List.getElem?_eq_some_iff.1 ha).1 (List.getElem?_eq_some_iff.1 hb).1 (by omega)
  rw [(List.getElem?_eq_some_iff.1 ha).2, (List.getElem?_eq_some_iff.1 hb).2] at this
  exact this
theorem QRes.edge {x y : System} (hv : VSys x) {c : List Int} {K : Nat} (h : QRes x c K y) {u l v : Nat} : Qcq y u l v ↔ ∃ i t, Qcq x i l t ∧ cN c i = u ∧ cN c t = v := by
 unfold Qcq
 rw [h.e]
 constructor
 ·rintro ⟨d, hd, e⟩
  obtain ⟨f, l', t, rfl, _, _, _⟩ := Qbc hv hd
  simp only [Qhs, Int.toNat_natCast, Edge.mk.injEq] at e
  have : l' = l := by omega
  subst this
  exact ⟨f, t, hd, by omega, by omega⟩
 ·rintro ⟨i, t, he, rfl, rfl⟩
  exact ⟨_, he, by simp [Qhs]⟩
end Go.Pw
