/- -/
import Derived.Test.YtjbjflndiajoiaaGreatDoorWaC
import Derived.Test.YtjbjflndiajoiaaGreatDoorBB
set_option maxHeartbeats 4000000
set_option linter.unusedSimpArgs false
set_option linter.unusedVariables false
namespace Go.Pw
def EdLt (a b : Edge) : Prop := a.From < b.From ∨ a.From = b.From ∧ (a.Label < b.Label ∨ a.Label = b.Label ∧ a.To < b.To)
structure VSys (x : System) : Prop where
 s1 : 1 ≤ x.States
 s2 : x.States ≤ 4096
 i0 : 0 ≤ x.Init
 i1 : x.Init < x.States
 g : (x.Goals.length : Int) = x.States
 c : x.Costs.length ≤ 4096
 e : x.Edges.length ≤ 65536
 cost : ∀ c ∈ x.Costs, 0 ≤ c ∧ c ≤ 1048576
 edge : ∀ d ∈ x.Edges, 0 ≤ d.From ∧ d.From < x.States ∧ 0 ≤ d.To ∧ d.To < x.States ∧ 0 ≤ d.Label ∧ d.Label < (x.Costs.length : Int)
 ord : ∀ (i : Nat) (a b : Edge), x.Edges[i]? = some a → x.Edges[i + 1]? = some b → EdLt a b
open Classical in
noncomputable def QmT (x : System) : Bool := decide (VSys x)
theorem Qdr {x : System} : QmT x = true ↔ VSys x := by unfold QmT; simp
open Classical in
noncomputable def QaN (x : System) (i : Nat) : Bool := decide (∀ d, x.Edges[i]? = some d → 0 ≤ d.From ∧ d.From < x.States ∧ 0 ≤ d.To ∧ d.To < x.States ∧ 0 ≤ d.Label ∧ d.Label < (x.Costs.length : Int) ∧ ∀ a, 0 < i → x.Edges[i - 1]? = some a → EdLt a d)
open Classical in
noncomputable def Qgd (x : System) (i : Nat) : Bool := decide (∀ c, x.Costs[i]? = some c → 0 ≤ c ∧ c ≤ 1048576)
theorem Qo4 (x : System) (h : ¬ (x.States < 1 ∨ 4096 < x.States ∨ x.Init < 0 ∨ x.States ≤ x.Init ∨ ¬ (x.Goals.length : Int) = x.States ∨ 4096 < (x.Costs.length : Int) ∨ 65536 < (x.Edges.length : Int))) :
  QmT x = ((List.range x.Costs.length).all (Qgd x) && (List.range x.Edges.length).all (QaN x)) := by
 rw [Bool.eq_iff_iff, Qdr, Bool.and_eq_true, List.all_eq_true, List.all_eq_true]
 constructor
 ·intro hv
  constructor
  ·intro i hi
   simp only [Qgd, decide_eq_true_eq]
   intro c hc
   exact hv.cost c (List.mem_of_getElem? hc)
  ·intro i hi
   simp only [QaN, decide_eq_true_eq]
   intro d hd
   obtain ⟨h1, h2, h3, h4, h5, h6⟩ := hv.edge d (List.mem_of_getElem? hd)
   refine ⟨h1, h2, h3, h4, h5, h6, fun a h0 ha => ?_⟩
   exact hv.ord (i - 1) a d ha (by rw [show i - 1 + 1 = i by omega]; exact hd)
 ·rintro ⟨h1, h2⟩
  refine ⟨by omega, by omega, by omega, by omega, by omega, by omega, by omega, ?_, ?_, ?_⟩
  ·intro c hc
   obtain ⟨i, hi⟩ := List.mem_iff_getElem?.1 hc
   have hlt := (List.getElem?_eq_some_iff.1 hi).1
   have := h1 i (by simpa using hlt)
   simp only [Qgd, decide_eq_true_eq] at this
   exact this c hi
  ·intro d hd
   obtain ⟨i, hi⟩ := List.mem_iff_getElem?.1 hd
   have hlt := (List.getElem?_eq_some_iff.1 hi).1
   have := h2 i (by simpa using hlt)
   simp only [QaN, decide_eq_true_eq] at this
   obtain ⟨a, b, c, d', e, f, _⟩ := this d hi
   exact ⟨a, b, c, d', e, f⟩
  ·intro i a b ha hb
   have hlt := (List.getElem?_eq_some_iff.1 hb).1
   have := h2 (i + 1) (by simpa using hlt)
   simp only [QaN, decide_eq_true_eq] at this
   exact (this b hb).2.2.2.2.2.2 a (by omega) (by simpa using ha)
theorem QdE (a b : Edge) : Qck a b < 0 ↔ EdLt a b := Qbk a b
theorem Qt {α : Type} {xs : List α} {i : Nat} (h : i < xs.length) : ∃ y, xs[i]? = some y := ⟨xs[i], by simp [h]⟩
theorem Qqu (x : System) {R : Type} (r : R) (j : Nat) (hj : j < x.Costs.length) :
  ((Q9 x.Costs (j : Int)).bind fun c => if ((decide (c < 0)) || decide (1048576 < c)) then (some (Ctl.ret r)) else (some (Ctl.next ()))) = some (if Qgd x j then .next () else .ret r) := by
 obtain ⟨c, hc⟩ := Qt hj
 rw [Qo, hc]
 simp only [Option.bind_some, Qgd, hc, Option.some.injEq, forall_eq']
 by_cases h : 0 ≤ c ∧ c ≤ 1048576
 ·have h1 : ¬ c < 0 := by omega
  have h2 : ¬ 1048576 < c := by omega
  simp [h, h1, h2]
 ·have : c < 0 ∨ 1048576 < c := by omega
  simp [h, this]
theorem QoM (x : System) : ((decide (x.States < 1)) || ((decide (4096 < x.States)) || ((decide (x.Init < 0)) || ((decide (x.States ≤ x.Init)) || ((!decide ((x.Goals.length : Int) = x.States)) || ((decide (4096 < (x.Costs.length : Int))) || decide (65536 < (x.Edges.length : Int)))))))) =
  decide (x.States < 1 ∨ 4096 < x.States ∨ x.Init < 0 ∨ x.States ≤ x.Init ∨ ¬ (x.Goals.length : Int) = x.States ∨ 4096 < (x.Costs.length : Int) ∨ 65536 < (x.Edges.length : Int)) := by
 rw [Bool.eq_iff_iff]; simp
theorem Qqs (x : System) (j : Nat) (hj : j < x.Edges.length) (hl : x.Edges.length ≤ 65536) (f : Edge → Edge → Option Bool) (hf : ∀ a b, f a b = some (!(open Classical in decide (EdLt a b)))) :
  ((Q9 x.Edges (j : Int)).bind fun d =>
  (if decide (d.From < 0) then (some true)
  else (if decide (x.States ≤ d.From) then (some true)
  else (if decide (d.To < 0) then (some true)
  else (if decide (x.States ≤ d.To) then (some true)
  else (if decide (d.Label < 0) then (some true)
  else (if decide ((x.Costs.length : Int) ≤ d.Label) then (some true)
  else (if decide (0 < (j : Int)) then ((Q9 x.Edges (IntKind.i64.wrap ((j : Int) - 1))).bind fun a => f a d)
  else (some false)))))))).bind (fun (z : Bool) => if z then (some (Ctl.ret false)) else (some (Ctl.next ())))) = some (if QaN x j then .next () else .ret false) := by
 obtain ⟨d, hd⟩ := Qt hj
 rw [Qo, hd]
 have hno : ¬ (0 ≤ d.From ∧ d.From < x.States ∧ 0 ≤ d.To ∧ d.To < x.States ∧ 0 ≤ d.Label ∧ d.Label < (x.Costs.length : Int)) → QaN x j = false := by
  intro hn
  cases hb : QaN x j with
  | false => rfl
  | true =>
   simp only [QaN, decide_eq_true_eq] at hb
   obtain ⟨a1, a2, a3, a4, a5, a6, _⟩ := hb d hd
   exact absurd ⟨a1, a2, a3, a4, a5, a6⟩ hn
 simp only [Option.bind_some]
 by_cases h1 : d.From < 0
 ·rw [hno (by omega)]; simp [h1]
 by_cases h2 : x.States ≤ d.From
 ·rw [hno (by omega)]; simp [h1, h2]
 by_cases h3 : d.To < 0
 ·rw [hno (by omega)]; simp [h1, h2, h3]
 by_cases h4 : x.States ≤ d.To
 ·rw [hno (by omega)]; simp [h1, h2, h3, h4]
 by_cases h5 : d.Label < 0
 ·rw [hno (by omega)]; simp [h1, h2, h3, h4, h5]
 by_cases h6 : (x.Costs.length : Int) ≤ d.Label
 ·rw [hno (by omega)]; simp [h1, h2, h3, h4, h5, h6]
 by_cases h7 : 0 < j
 ·obtain ⟨a, ha⟩ := Qt (show j - 1 < x.Edges.length by omega)
  have hw : IntKind.i64.wrap ((j : Int) - 1) = ((j - 1 : Nat) : Int) := by rw [QD (by omega) (by omega)]; omega
  have h7' : (0 : Int) < (j : Int) := by omega
  have he : QaN x j = true ↔ EdLt a d := by
   simp only [QaN, decide_eq_true_eq]
   constructor
   ·intro hh; exact (hh d hd).2.2.2.2.2.2 a h7 ha
   ·intro hlt d' hd'
    rw [hd] at hd'; cases hd'
    refine ⟨by omega, by omega, by omega, by omega, by omega, by omega, fun a' _ ha' => ?_⟩
    rw [ha] at ha'; cases ha'; exact hlt
  rw [hw, Qo, ha]
  simp only [Option.bind_some, hf, h1, h2, h3, h4, h5, h6, h7', decide_true, decide_false, if_true, Bool.false_eq_true, if_false]
  by_cases hlt : EdLt a d
  ·rw [he.2 hlt]; simp [hlt]
  ·have : QaN x j = false := by
    cases hb : QaN x j with
    | false => rfl
    | true => exact absurd (he.1 hb) hlt
   rw [this]; simp [hlt]
 ·have h7' : ¬ (0 : Int) < (j : Int) := by omega
  have he : QaN x j = true := by
   simp only [QaN, decide_eq_true_eq]
   intro d' hd'
   rw [hd] at hd'; cases hd'
   exact ⟨by omega, by omega, by omega, by omega, by omega, by omega, fun a' h0 _ => absurd h0 h7⟩
  rw [he]
  simp only [h1, h2, h3, h4, h5, h6, h7', decide_false, Bool.false_eq_true, if_false, if_true, Option.bind_some]
open Classical in
theorem tV (x : System) : JU x = some (QmT x) := by
 unfold JU
 rw [QoM]
 by_cases h : x.States < 1 ∨ 4096 < x.States ∨ x.Init < 0 ∨ x.States ≤ x.Init ∨ ¬ (x.Goals.length : Int) = x.States ∨ 4096 < (x.Costs.length : Int) ∨ 65536 < (x.Edges.length : Int)
 ·rw [if_pos (by simpa using h)]
  have : ¬ VSys x := fun hv => by have := hv.s1; have := hv.s2; have := hv.i0; have := hv.i1; have := hv.g; have := hv.c; have := hv.e; omega
  unfold QmT; simp [this]
 ·rw [if_neg (by simpa using h), Qo4 x h, QdD (fun j hj => Qqu x false j hj)]
  have hl : x.Edges.length ≤ 65536 := by omega
  rw [QdD (fun j hj => Qqs x j hj hl (fun a b => (K2 a b).bind fun y => some (decide (0 ≤ y))) (fun a b => by
   rw [Qgn]
   simp only [Option.bind_some, Option.some.injEq]
   have := QdE a b
   by_cases hlt : EdLt a b
   ·have h2 : ¬ 0 ≤ Qck a b := by have := this.2 hlt; omega
    simp [hlt, h2]
   ·have h2 : 0 ≤ Qck a b := by have h3 : ¬ Qck a b < 0 := fun h => hlt (this.1 h); omega
    simp [hlt, h2]))]
  cases (List.range x.Costs.length).all (Qgd x) <;> cases (List.range x.Edges.length).all (QaN x) <;> rfl
end Go.Pw
/- -/
set_option maxHeartbeats 4000000
namespace Go.Pw
theorem QaZ (a : Edge) : ¬ EdLt a a := by unfold EdLt; omega
theorem EdLt.trans {a b c : Edge} (h : EdLt a b) (k : EdLt b c) : EdLt a c := by unfold EdLt at *; omega
theorem Qdv (a b : Edge) : EdLt a b ∨ a = b ∨ EdLt b a := by
 obtain ⟨a1, a2, a3⟩ := a
 obtain ⟨b1, b2, b3⟩ := b
 simp only [EdLt, Edge.mk.injEq]
 omega
def Srt (l : List Edge) : Prop := l.Pairwise EdLt
theorem Srt.ext : ∀ {l k : List Edge}, Srt l → Srt k → (∀ e, e ∈ l ↔ e ∈ k) → l = k
 | [], [], _, _, _ => rfl
 | [], b :: k, _, _, h => absurd ((h b).2 (by simp)) (by simp)
 | a :: l, [], _, _, h => absurd ((h a).1 (by simp)) (by simp)
 | a :: l, b :: k, hl, hk, h => by
  obtain ⟨h1, h2⟩ := List.pairwise_cons.1 hl
  obtain ⟨k1, k2⟩ := List.pairwise_cons.1 hk
  have hab : a = b := by
   rcases List.mem_cons.1 ((h a).1 (by simp)) with e | e
   ·exact e
   ·rcases List.mem_cons.1 ((h b).2 (by simp)) with e' | e'
    ·exact e'.symm
    ·exact absurd ((k1 a e).trans (h1 b e')) (QaZ _)
  subst hab
  congr 1
  refine Srt.ext h2 k2 fun e => ?_
  have := h e
  simp only [List.mem_cons] at this
  constructor
  ·intro he
   rcases this.1 (.inr he) with e' | e'
   ·subst e'; exact absurd (h1 e he) (QaZ _)
   ·exact e'
  ·intro he
   rcases this.2 (.inr he) with e' | e'
   ·subst e'; exact absurd (k1 e he) (QaZ _)
   ·exact e'
theorem Srt.nodup {l : List Edge} (h : Srt l) : l.Nodup := by
 refine List.Pairwise.imp ?_ h
 intro a b hab e
 subst e
 exact QaZ _ hab
theorem Qmm {l : List Edge} (hn : l.Nodup) (hlen : l.length < 4611686018427387904) : ∃ k, KE l = some k ∧ Srt k ∧ ∀ e, e ∈ k ↔ e ∈ l := by
 unfold KE
 rw [if_pos hlen]
 refine ⟨_, Z, ?_, fun e => (List.mergeSort_perm l _).mem_iff⟩
 have hp : (l.mergeSort fun x y => !decide (Qck y x < 0)).Pairwise (fun x y => (!decide (Qck y x < 0)) = true) := by
  apply List.pairwise_mergeSort
  ·intro a b c h1 h2
   simp only [Bool.not_eq_true', decide_eq_false_iff_not, QdE] at *
   intro h3
   rcases Qdv a b with h | h | h
   ·exact h2 (h3.trans h)
   ·subst h; exact h2 h3
   ·exact h1 h
  ·intro a b
   simp only [Bool.or_eq_true, Bool.not_eq_true', decide_eq_false_iff_not, QdE]
   by_cases h : EdLt b a
   ·exact .inr fun h' => QaZ _ (h.trans h')
   ·exact .inl h
 have hnd : (l.mergeSort fun x y => !decide (Qck y x < 0)).Nodup := (List.mergeSort_perm l _).nodup_iff.2 hn
 refine (hp.and hnd).imp ?_
 rintro a b ⟨h1, h2⟩
 simp only [Bool.not_eq_true', decide_eq_false_iff_not, QdE] at h1
 rcases Qdv a b with h | h | h
 ·exact h
 ·exact absurd h h2
 ·exact absurd h h1
end Go.Pw
/- -/
set_option maxHeartbeats 4000000
namespace Go.Pw
theorem QaV {α β : Type} (xs : List α) (g : α → List β) {B : Nat → List β → Option (List β)} {s0 : List β} (h : ∀ i y s, xs[i]? = some y → s = s0 ++ (xs.take i).flatMap g → B i s = some (s ++ g y)) :
  forS B xs.length 0 s0 = some (s0 ++ xs.flatMap g) := by
 refine Ok.eq (QQ (fun i s => s = s0 ++ (xs.take i).flatMap g) (by simp) ?_ (fun s hs => by rw [hs, List.take_length]))
 intro i s hi hs
 obtain ⟨y, hy⟩ := Qt hi
 refine Qps (h i y s hy hs) ?_
 rw [hs, List.append_assoc]
 congr 1
 rw [List.take_add_one, hy]
 simp [List.flatMap_append]
theorem QhP {β : Type} (n : Nat) (g : Nat → List β) {B : Nat → List β → Option (List β)} {s0 : List β} (h : ∀ i s, i < n → s = s0 ++ (List.range i).flatMap g → B i s = some (s ++ g i)) :
  forS B n 0 s0 = some (s0 ++ (List.range n).flatMap g) := by
 refine Ok.eq (QQ (fun i s => s = s0 ++ (List.range i).flatMap g) (by simp) ?_ (fun s hs => hs))
 intro i s hi hs
 refine Qps (h i s hi hs) ?_
 rw [hs, List.append_assoc]
 congr 1
 rw [List.range_succ]
 simp [List.flatMap_append]
theorem QcX {α β : Type} {g : α → List β} {M : Nat} : ∀ {xs : List α}, (∀ x ∈ xs, (g x).length ≤ M) → (xs.flatMap g).length ≤ xs.length * M
 | [], _ => by simp
 | x :: xs, h => by
  rw [List.flatMap_cons, List.length_append, List.length_cons, Nat.add_mul, Nat.one_mul]
  have h1 := h x (by simp)
  have h2 := QcX (xs := xs) (g := g) (M := M) fun y hy => h y (by simp [hy])
  omega
theorem Qa7 {α β : Type} {g : α → β} (xs : List α) : xs.flatMap (fun y => [g y]) = xs.map g := by
 induction xs with
 | nil => rfl
 | cons x xs ih => simp [ih]
def Qhn (a b : System) : List Bool := a.Goals.flatMap fun g => b.Goals.map fun h => g && h
theorem Qlk (a b : System) (ha : a.Goals.length ≤ 4096) (hb : b.Goals.length ≤ 4096) (B : Nat → List Bool → Option (List Bool))
  (hB : ∀ i z, B i z = (forS (fun j => fun (l : List Bool) => ((Q9 a.Goals (i : Int)).bind fun x => if x then ((Q9 b.Goals (j : Int)).bind fun y => (app 1 l [y]).bind fun l' => some l') else ((app 1 l [false]).bind fun l' => some l')).bind (fun (l' : List Bool) => some l')) b.Goals.length 0 z).bind (fun (l : List Bool) => some l)) :
  forS B a.Goals.length 0 [] = some (Qhn a b) := by
 have := QaV a.Goals (fun g => b.Goals.map fun h => g && h) (B := B) (s0 := []) ?_
 ·simpa [Qhn] using this
 intro i g s hg hs
 have hi : i < a.Goals.length := (List.getElem?_eq_some_iff.1 hg).1
 have hsl : s.length ≤ 4096 * 4096 := by
  rw [hs, List.nil_append]
  refine Nat.le_trans (QcX (M := b.Goals.length) (by simp)) ?_
  refine Nat.mul_le_mul ?_ hb
  simp; omega
 rw [hB, QaV b.Goals (fun h => [g && h]) (s0 := s) ?_]
 ·simp [Qa7]
 ·intro j h t hh ht
  have hj : j < b.Goals.length := (List.getElem?_eq_some_iff.1 hh).1
  have htl : t.length ≤ 4096 * 4096 + 4096 := by
   rw [ht, List.length_append, Qa7, List.length_map, List.length_take]; omega
  simp only [Qo, hg, hh, Option.bind_some]
  cases g with
  | true => simp only [if_true]; rw [JB (by simp; omega)]; simp
  | false => simp only [Bool.false_eq_true, if_false]; rw [JB (by simp; omega)]; simp
def J0 (x : System) (l : Nat) : List Edge := x.Edges.filter fun d => decide (d.Label = (l : Int))
theorem Qmp (x : System) (l : Nat) : (J0 x l).length ≤ x.Edges.length := List.length_filter_le _ _
theorem QeS (x : System) (hv : VSys x) : Ok (Km x) fun L => L.length = x.Costs.length ∧ ∀ l, l < x.Costs.length → L[l]? = some (J0 x l) := by
 unfold Km
 have hc := hv.c
 have he := hv.e
 refine Ok.step (QbS (by omega) (by omega)) (Ok.bind ?_)
 refine QQ (fun i L => L.length = x.Costs.length ∧ ∀ l, l < x.Costs.length → L[l]? = some ((x.Edges.take i).filter fun d => decide (d.Label = (l : Int)))) ?_ ?_ ?_
 ·refine ⟨by simp, fun l hl => ?_⟩
  simp [hl]
 ·rintro i L hi ⟨h1, h2⟩
  obtain ⟨d, hd⟩ := Qt hi
  obtain ⟨e1, e2, e3, e4, e5, e6⟩ := hv.edge d (List.mem_of_getElem? hd)
  obtain ⟨l, hl⟩ : ∃ l : Nat, d.Label = (l : Int) := ⟨d.Label.toNat, by omega⟩
  have hlc : l < x.Costs.length := by omega
  rw [Qo, hd]
  simp only [Option.bind_some, hl, Qo, h2 l hlc]
  have hlen : ((x.Edges.take i).filter fun d => decide (d.Label = (l : Int))).length ≤ 65536 := by
   refine Nat.le_trans (List.length_filter_le _ _) ?_
   simp; omega
  refine Ok.step (JB (by simp only [List.length_singleton]; omega)) (Ok.step (QW (by omega)) (Ok.ret ⟨by simp [h1], fun k hk => ?_⟩))
  rw [List.take_add_one, hd]
  by_cases e : k = l
  ·subst e
   simp [h1, hk, List.filter_append, hl]
  ·rw [List.getElem?_set_ne (Ne.symm e), h2 k hk]
   have : ¬ (d.Label = (k : Int)) := by omega
   simp [List.filter_append, this]
 ·rintro L ⟨h1, h2⟩
  exact Ok.ret ⟨h1, fun l hl => by rw [h2 l hl, List.take_length]; rfl⟩
def mkE (n : Int) (l : Int) (d f : Edge) : Edge := ⟨d.From * n + f.From, l, d.To * n + f.To⟩
def PE (a b : System) (e : Edge) : Prop := ∃ d ∈ a.Edges, ∃ f ∈ b.Edges, d.Label = f.Label ∧ e = mkE b.States d.Label d f
structure ProdRes (a b x : System) : Prop where
 s : x.States = a.States * b.States
 i : x.Init = a.Init * b.States + b.Init
 c : x.Costs = a.Costs
 g : x.Goals = Qhn a b
 o : Srt x.Edges
 e : ∀ e, e ∈ x.Edges ↔ PE a b e
theorem ProdRes.uniq {a b x y : System} (h : ProdRes a b x) (k : ProdRes a b y) : x = y := by
 have he : x.Edges = y.Edges := h.o.ext k.o fun e => (h.e e).trans (k.e e).symm
 obtain ⟨x1, x2, x3, x4, x5⟩ := x
 obtain ⟨y1, y2, y3, y4, y5⟩ := y
 have h1 := h.s.trans k.s.symm
 have h2 := h.i.trans k.i.symm
 have h3 := h.c.trans k.c.symm
 have h4 := h.g.trans k.g.symm
 simp only at *
 subst h1 h2 h3 h4 he
 rfl
theorem Qjx {n x y x' y' : Int} (h0 : 0 ≤ y) (h1 : y < n) (h2 : 0 ≤ y') (h3 : y' < n) (h : x * n + y = x' * n + y') : x = x' ∧ y = y' := by
 have hn : 0 < n := by omega
 rcases Int.lt_trichotomy x x' with hlt | heq | hgt
 ·have : (x + 1) * n ≤ x' * n := Int.mul_le_mul_of_nonneg_right (by omega) (by omega)
  rw [Int.add_mul, Int.one_mul] at this
  omega
 ·subst heq; exact ⟨rfl, by omega⟩
 ·have : (x' + 1) * n ≤ x * n := Int.mul_le_mul_of_nonneg_right (by omega) (by omega)
  rw [Int.add_mul, Int.one_mul] at this
  omega
theorem Qjk {x n : Int} (h0 : 0 ≤ x) (h1 : x ≤ 4096) (h2 : 0 ≤ n) (h3 : n ≤ 4096) : 0 ≤ x * n ∧ x * n ≤ 16777216 := by
 refine ⟨Int.mul_nonneg h0 h2, ?_⟩
 have : x * n ≤ 4096 * 4096 := Int.mul_le_mul h1 h3 h2 (by omega)
 omega
theorem QnN {a b : System} (ha : VSys a) (hb : VSys b) {d f : Edge} (hd : d ∈ a.Edges) (hf : f ∈ b.Edges) (l : Int) :
  (⟨IntKind.i64.wrap ((IntKind.i64.wrap (d.From * b.States)) + f.From), l, IntKind.i64.wrap ((IntKind.i64.wrap (d.To * b.States)) + f.To)⟩ : Edge) = mkE b.States l d f := by
 obtain ⟨d1, d2, d3, d4, _, _⟩ := ha.edge d hd
 obtain ⟨f1, f2, f3, f4, _, _⟩ := hb.edge f hf
 have s1 := ha.s2
 have s2 := hb.s1
 have s3 := hb.s2
 have m1 := Qjk (x := d.From) (n := b.States) d1 (by omega) (by omega) (by omega)
 have m2 := Qjk (x := d.To) (n := b.States) d3 (by omega) (by omega) (by omega)
 have w1 : IntKind.i64.wrap (d.From * b.States) = d.From * b.States := QD (by omega) (by omega)
 have w2 : IntKind.i64.wrap (d.To * b.States) = d.To * b.States := QD (by omega) (by omega)
 rw [w1, w2, QD (by omega) (by omega), QD (by omega) (by omega)]
 rfl
theorem VSys.srt {x : System} (h : VSys x) : Srt x.Edges := by
 refine List.pairwise_iff_getElem.2 ?_
 intro i j hi hj hij
 obtain ⟨k, rfl⟩ : ∃ k, j = i + 1 + k := ⟨j - i - 1, by omega⟩
 clear hij
 induction k with
 | zero => exact h.ord i _ _ (by simp [hi]) (by simp [show i + 1 < x.Edges.length by omega])
 | succ k ih => exact (ih (by omega)).trans (h.ord (i + 1 + k) _ _ (by simp [show i + 1 + k < x.Edges.length by omega]) (by simp [show i + 1 + k + 1 < x.Edges.length by omega]; rfl))
def Qir (a b : System) (l : Nat) : List Edge := (J0 a l).flatMap fun d => (J0 b l).map fun f => mkE b.States (l : Int) d f
def Qit (a b : System) : List Edge := (List.range a.Costs.length).flatMap (Qir a b)
theorem KL {x : System} {l : Nat} {d : Edge} : d ∈ J0 x l ↔ d ∈ x.Edges ∧ d.Label = (l : Int) := by simp [J0]
theorem QnQ {a b : System} (ha : VSys a) (e : Edge) : e ∈ Qit a b ↔ PE a b e := by
 simp only [Qit, Qir, List.mem_flatMap, List.mem_range, List.mem_map, KL, PE]
 constructor
 ·rintro ⟨l, hl, d, ⟨hd, hdl⟩, f, ⟨hf, hfl⟩, rfl⟩
  exact ⟨d, hd, f, hf, hdl.trans hfl.symm, by rw [hdl]⟩
 ·rintro ⟨d, hd, f, hf, hdf, rfl⟩
  obtain ⟨e1, e2, e3, e4, e5, e6⟩ := ha.edge d hd
  obtain ⟨l, hl⟩ : ∃ l : Nat, d.Label = (l : Int) := ⟨d.Label.toNat, by omega⟩
  exact ⟨l, by omega, d, ⟨hd, hl⟩, f, ⟨hf, hdf ▸ hl⟩, by rw [hl]⟩
theorem QhJ {a b : System} (ha : VSys a) (hb : VSys b) : (Qit a b).Nodup := by
 have na := ha.srt.nodup
 have nb := hb.srt.nodup
 unfold Qit
 refine List.pairwise_flatMap.2 ⟨fun l _ => ?_, ?_⟩
 ·unfold Qir
  refine List.pairwise_flatMap.2 ⟨fun d hd => ?_, ?_⟩
  ·refine List.pairwise_map.2 ?_
   refine List.Pairwise.imp_of_mem ?_ (nb.sublist List.filter_sublist)
   intro f f' hf hf' hne heq
   apply hne
   obtain ⟨hf1, hf2⟩ := KL.1 hf
   obtain ⟨hf1', hf2'⟩ := KL.1 hf'
   simp only [mkE, Edge.mk.injEq] at heq
   obtain ⟨f1, f2, f3⟩ := f
   obtain ⟨g1, g2, g3⟩ := f'
   simp only [Edge.mk.injEq] at *
   omega
  ·refine List.Pairwise.imp_of_mem ?_ (na.sublist List.filter_sublist)
   intro d d' hd hd' hne e he e' he' heq
   apply hne
   subst heq
   obtain ⟨f, hf, rfl⟩ := List.mem_map.1 he
   obtain ⟨f', hf', heq⟩ := List.mem_map.1 he'
   obtain ⟨hf1, hf2⟩ := KL.1 hf
   obtain ⟨hf1', hf2'⟩ := KL.1 hf'
   obtain ⟨hd1, hd2⟩ := KL.1 hd
   obtain ⟨hd1', hd2'⟩ := KL.1 hd'
   obtain ⟨a1, a2, a3, a4, _, _⟩ := hb.edge f hf1
   obtain ⟨b1, b2, b3, b4, _, _⟩ := hb.edge f' hf1'
   simp only [mkE, Edge.mk.injEq, true_and] at heq
   have h1 := Qjx b1 b2 a1 a2 heq.1
   have h2 := Qjx b3 b4 a3 a4 heq.2
   obtain ⟨x1, x2, x3⟩ := d
   obtain ⟨y1, y2, y3⟩ := d'
   simp only [Edge.mk.injEq] at *
   omega
 ·refine List.Pairwise.imp ?_ (List.pairwise_lt_range (n := a.Costs.length))
  intro l l' hlt e he e' he' heq
  subst heq
  simp only [Qir, List.mem_flatMap, List.mem_map] at he he'
  obtain ⟨d, _, f, _, rfl⟩ := he
  obtain ⟨d', _, f', _, heq⟩ := he'
  simp only [mkE, Edge.mk.injEq] at heq
  omega
end Go.Pw
/- -/
set_option maxHeartbeats 4000000
namespace Go.Pw
open Classical in
theorem QoP {α β : Type} (t : α → α → Bool) (ht : ∀ x y, t x y = true ↔ x ≠ y) (xs ys : List α) (hl : xs.length = ys.length) {kr : Bool → Option β} {k : Unit → Option β} :
  ctl (Jf (R := Bool) (fun i => fun (_ : Unit) => (Q9 xs (i : Int)).bind fun x => (Q9 ys (i : Int)).bind fun y => if t x y then some (Ctl.ret false) else some (Ctl.next ())) xs.length 0 ()) kr k = if xs = ys then k () else kr false := by
 rw [QdD (p := fun i => decide (xs[i]? = ys[i]?)) (r := false)]
 ·by_cases h : xs = ys
  ·subst h; simp
  ·rw [if_neg h, if_neg]
   intro hall
   apply h
   apply List.ext_getElem?
   intro i
   by_cases hi : i < xs.length
   ·have := List.all_eq_true.1 hall i (by simpa using hi)
    simpa using this
   ·rw [List.getElem?_eq_none (by omega), List.getElem?_eq_none (by omega)]
 ·intro i hi
  obtain ⟨x, hx⟩ := Qt hi
  obtain ⟨y, hy⟩ := Qt (show i < ys.length by omega)
  simp only [Qo, hx, hy, Option.bind_some, Option.some.injEq]
  by_cases e : x = y
  ·have : t x y = false := by
    cases ht' : t x y with
    | false => rfl
    | true => exact absurd e ((ht x y).1 ht')
   subst e
   simp [this]
  ·simp [(ht x y).2 e, e]
theorem QlV (xs ys : List Int) : Ja xs ys = some (decide (xs = ys)) := by
 unfold Ja
 by_cases h : xs.length = ys.length
 ·rw [if_neg (by simp [h]), QoP (fun x y => !decide (x = y)) (by simp) xs ys h]
  by_cases e : xs = ys <;> simp [e]
 ·rw [if_pos (by simp; omega)]
  have : xs ≠ ys := fun e => h (by rw [e])
  simp [this]
theorem QpX (xs ys : List Int) : Qda xs ys = some (decide (xs = ys)) := QlV xs ys
end Go.Pw
/- -/
set_option maxHeartbeats 4000000
namespace Go.Pw
structure WS (n : Nat) (x : System) : Prop where
 s : x.States = (n : Int)
 n1 : n ≤ 4096
 g : x.Goals.length = n
 e : x.Edges.length ≤ 65536
 edge : ∀ d ∈ x.Edges, ∃ f t l : Nat, d = ⟨(f : Int), (l : Int), (t : Int)⟩ ∧ f < n ∧ t < n ∧ ∃ c, x.Costs[l]? = some c ∧ 0 ≤ c ∧ c ≤ 1048576
theorem VSys.ws {x : System} (h : VSys x) : WS x.States.toNat x := by
 have h1 := h.s1; have h2 := h.s2; have h3 := h.g
 refine ⟨by omega, by omega, by omega, h.e, fun d hd => ?_⟩
 obtain ⟨a1, a2, a3, a4, a5, a6⟩ := h.edge d hd
 refine ⟨d.From.toNat, d.To.toNat, d.Label.toNat, ?_, by omega, by omega, ?_⟩
 ·obtain ⟨f, l, t⟩ := d
  simp only [Edge.mk.injEq] at *
  omega
 ·obtain ⟨c, hc⟩ := Qt (xs := x.Costs) (i := d.Label.toNat) (by omega)
  obtain ⟨b1, b2⟩ := h.cost c (List.mem_of_getElem? hc)
  exact ⟨c, hc, b1, b2⟩
def Kz (x : System) (back : Bool) : QgI := fun v u w => ∃ d ∈ x.Edges, ∃ l : Nat, d.Label = (l : Int) ∧ x.Costs[l]? = some w ∧ (if back then d.To = (v : Int) ∧ d.From = (u : Int) else d.From = (v : Int) ∧ d.To = (u : Int))
theorem WS.aok {n : Nat} {x : System} (h : WS n x) (back : Bool) {src : Nat → Prop} (hs : ∀ i, src i → i < n) : AOK (Kz x back) src n := by
 refine ⟨?_, hs⟩
 rintro v u w ⟨d, hd, l, hl, hw, hb⟩
 obtain ⟨f, t, l', rfl, hf, ht, c, hc, c0, c1⟩ := h.edge d hd
 have : l' = l := by simp only at hl; omega
 subst this
 rw [hw] at hc; cases hc
 cases back <;> simp at hb <;> omega
def Qd5 (x : System) : Nat → Prop := fun i => x.Goals[i]? = some true
end Go.Pw
/- -/
set_option maxHeartbeats 4000000
namespace Go.Pw
def Qcj (Q : List Nat) : List Int := Q.map Int.ofNat
theorem QhI (q : Nat) : Int.ofNat q = (q : Int) := rfl
theorem Qpe {n : Nat} {x : System} (h : WS n x) (back : Bool) : Ok ((mk 24 ([] : (List Arc)) x.States).bind fun l5202 =>
 (forS (fun i5208 => fun (l5432 : (List (List Arc))) => (Q9 x.Edges (i5208 : Int)).bind fun x5691 =>
 (Q9 x.Costs x5691.Label).bind fun x5742 =>
 (if back then (some (x5691.To, x5691.From))
 else (some (x5691.From, x5691.To))).bind (QI fun (z5763 : Int) (z5764 : Int) => (Q9 l5432 z5763).bind fun row5873 =>
 (app 24 row5873 [(⟨z5763, z5764, x5742⟩ : Arc)]).bind fun l5887 =>
 (JL l5432 z5763 l5887).bind fun l5894 =>
 some l5894)) (x.Edges.length) 0 l5202)) fun L => L.length = n ∧ ∀ v, v < n → ∃ row, L[v]? = some row ∧ row.length ≤ 65536 ∧ ∀ a, a ∈ row ↔ ∃ (u : Nat) (w : Int), a = ⟨(v : Int), (u : Int), w⟩ ∧ Kz x back v u w := by
 have hn := h.n1
 have he := h.e
 rw [h.s]
 refine Ok.step (QbS (by omega) (by omega)) ?_
 refine QQ (fun i L => L.length = n ∧ ∀ v, v < n → ∃ row, L[v]? = some row ∧ row.length ≤ i ∧ ∀ a, a ∈ row ↔ ∃ (u : Nat) (w : Int), a = ⟨(v : Int), (u : Int), w⟩ ∧ ∃ d ∈ x.Edges.take i, ∃ l : Nat, d.Label = (l : Int) ∧ x.Costs[l]? = some w ∧ (if back then d.To = (v : Int) ∧ d.From = (u : Int) else d.From = (v : Int) ∧ d.To = (u : Int))) ?_ ?_ ?_
 ·exact ⟨by simp, fun v hv => ⟨[], by simp [hv], by simp, by simp⟩⟩
 ·rintro i L hi ⟨h1, h2⟩
  obtain ⟨d, hd⟩ := Qt hi
  obtain ⟨f, t, lb, rfl, hf, ht, c, hc, c0, c1⟩ := h.edge d (List.mem_of_getElem? hd)
  have key : ∀ (v u : Nat), v < n → (∀ (v' u' : Nat), (if back then (t : Int) = (v' : Int) ∧ (f : Int) = (u' : Int) else (f : Int) = (v' : Int) ∧ (t : Int) = (u' : Int)) ↔ v' = v ∧ u' = u) →
    Ok ((Q9 L (v : Int)).bind fun row5873 => (app 24 row5873 [(⟨(v : Int), (u : Int), c⟩ : Arc)]).bind fun l5887 => (JL L (v : Int) l5887).bind fun l5894 => some l5894)
    (fun L => L.length = n ∧ ∀ v, v < n → ∃ row, L[v]? = some row ∧ row.length ≤ i + 1 ∧ ∀ a, a ∈ row ↔ ∃ (u : Nat) (w : Int), a = ⟨(v : Int), (u : Int), w⟩ ∧ ∃ d ∈ x.Edges.take (i + 1), ∃ l : Nat, d.Label = (l : Int) ∧ x.Costs[l]? = some w ∧ (if back then d.To = (v : Int) ∧ d.From = (u : Int) else d.From = (v : Int) ∧ d.To = (u : Int))) := by
   intro v u hv hvu
   obtain ⟨row, hrow, hlen, hmem⟩ := h2 v hv
   rw [Qo, hrow]
   simp only [Option.bind_some]
   refine Ok.step (JB (by simp only [List.length_singleton]; omega)) (Ok.step (QW (by omega)) (Ok.ret ⟨by simp [h1], fun v' hv' => ?_⟩))
   have hpart : ∀ (u' : Nat) (w : Int), (∃ d ∈ x.Edges.take (i + 1), ∃ l : Nat, d.Label = (l : Int) ∧ x.Costs[l]? = some w ∧ (if back then d.To = (v' : Int) ∧ d.From = (u' : Int) else d.From = (v' : Int) ∧ d.To = (u' : Int))) ↔
     (∃ d ∈ x.Edges.take i, ∃ l : Nat, d.Label = (l : Int) ∧ x.Costs[l]? = some w ∧ (if back then d.To = (v' : Int) ∧ d.From = (u' : Int) else d.From = (v' : Int) ∧ d.To = (u' : Int))) ∨ (w = c ∧ v' = v ∧ u' = u) := by
    intro u' w
    rw [List.take_add_one, hd]
    simp only [Option.toList_some, List.mem_append, List.mem_singleton, exists_or, or_and_right, exists_eq_left, hvu]
    constructor
    ·rintro (h | ⟨l, hl, hw, hb⟩)
     ·exact .inl h
     ·have : lb = l := by omega
      subst this
      rw [hc] at hw; cases hw
      exact .inr ⟨Z, hb⟩
    ·rintro (h | ⟨rfl, hb⟩)
     ·exact .inl h
     ·exact .inr ⟨lb, Z, hc, hb⟩
   by_cases e : v' = v
   ·subst e
    refine ⟨row ++ [⟨(v' : Int), (u : Int), c⟩], by simp [h1, hv], by simp; omega, fun a => ?_⟩
    rw [List.mem_append, hmem, List.mem_singleton]
    constructor
    ·rintro (⟨u', w, rfl, hh⟩ | rfl)
     ·exact ⟨u', w, Z, (hpart u' w).2 (.inl hh)⟩
     ·exact ⟨u, c, Z, (hpart u c).2 (.inr ⟨Z, Z, Z⟩)⟩
    ·rintro ⟨u', w, rfl, hh⟩
     rcases (hpart u' w).1 hh with hh | ⟨rfl, _, rfl⟩
     ·exact .inl ⟨u', w, Z, hh⟩
     ·exact .inr Z
   ·obtain ⟨row', hrow', hlen', hmem'⟩ := h2 v' hv'
    refine ⟨row', by rw [List.getElem?_set_ne (Ne.symm e)]; exact hrow', by omega, fun a => ?_⟩
    rw [hmem']
    constructor
    ·rintro ⟨u', w, rfl, hh⟩
     exact ⟨u', w, Z, (hpart u' w).2 (.inl hh)⟩
    ·rintro ⟨u', w, rfl, hh⟩
     rcases (hpart u' w).1 hh with hh | ⟨_, h, _⟩
     ·exact ⟨u', w, Z, hh⟩
     ·exact absurd h e
  simp only [Qo, hd, hc, Option.bind_some]
  cases back with
  | true =>
   simp only [if_true, Option.bind_some, QI]
   exact key t f ht (by intro v' u'; simp; omega)
  | false =>
   simp only [Bool.false_eq_true, if_false, Option.bind_some, QI]
   exact key f t hf (by intro v' u'; simp; omega)
 ·rintro L ⟨h1, h2⟩
  refine ⟨h1, fun v hv => ?_⟩
  obtain ⟨row, hrow, hlen, hmem⟩ := h2 v hv
  refine ⟨row, hrow, by omega, fun a => ?_⟩
  rw [hmem, List.take_length]
  rfl
structure QS (n : Nat) (Q : List Nat) (ws : List Bool) (ls : List Int) : Prop where
 l : ls = Qcj Q
 nd : Q.Nodup
 lt : ∀ q ∈ Q, q < n
 wl : ws.length = n
 w : ∀ j, j < n → ws[j]? = some (decide (j ∈ Q))
theorem Qk6 {n : Nat} {x : System} (h : WS n x) (back : Bool) {S : List Nat} (hS : S.Nodup) (hSn : ∀ i ∈ S, i < n) : Ok (KM x (Qcj S) back) (SP (Kz x back) (fun i => i ∈ S) n) := by
 have hA : AOK (Kz x back) (fun i => i ∈ S) n := h.aok back hSn
 have hn := h.n1
 have hI : (Inf : Int) = 1125899906842624 := rfl
 have hSl : S.length ≤ n := nodup_short' hS hSn
 unfold KM
 obtain ⟨L, hL, hL1, hL2⟩ := Qpe h back
 obtain ⟨L0, hL0, hL0'⟩ := V hL
 refine Ok.step hL0 (Ok.step hL0' ?_)
 rw [h.s]
 refine Ok.step (QbS (by omega) (by omega)) (Ok.bind ?_)
 refine QQ (fun i l => l.length = n ∧ ∀ j, j < i → l[j]? = some Inf) ⟨by simp, by simp⟩ ?_ ?_
 ·rintro i l hi ⟨h1, h2⟩
  have hi' : i < n := by simpa using hi
  obtain ⟨y, hy⟩ := Qt (xs := l) (i := i) (by omega)
  simp only [Qo, hy, Option.bind_some, QW (show i < l.length by omega)]
  refine Ok.ret ⟨by simp [h1], fun j hj => ?_⟩
  by_cases e : j = i
  ·subst e; simp [h1, hi']
  ·rw [List.getElem?_set_ne (Ne.symm e)]; exact h2 j (by omega)
 rintro l1 ⟨hl1, hl2⟩
 have hl2' : ∀ j, j < n → l1[j]? = some Inf := fun j hj => hl2 j (by simpa using hj)
 refine Ok.step (QbS (by omega) (by omega)) ?_
 have hclone : Qu (Qcj S) = some (Qcj S) := by
  unfold Qu
  rw [JB (by simp [Qcj]; omega)]
  simp
 refine Ok.step hclone (Ok.bind ?_)
 refine QQ (fun i s => s.1.length = n ∧ s.2.length = n ∧ (∀ j, j < n → s.1[j]? = some (if j ∈ S.take i then 0 else Inf)) ∧ ∀ j, j < n → s.2[j]? = some (decide (j ∈ S.take i))) ?_ ?_ ?_
 ·exact ⟨hl1, by simp, fun j hj => by simp [hl2' j hj], fun j hj => by simp [hj]⟩
 ·rintro i ⟨o, ws⟩ hi ⟨h1, h2, h3, h4⟩
  simp only at h1 h2 h3 h4
  have hi' : i < S.length := by simpa [Qcj] using hi
  obtain ⟨q, hq⟩ := Qt hi'
  have hqn := hSn q (List.mem_of_getElem? hq)
  have hiq : Q9 (Qcj S) (i : Int) = some (q : Int) := by rw [Qo]; simp [Qcj, hq, QhI]
  simp only [QI, hiq, Option.bind_some, Qo, h3 q hqn, h4 q hqn, QW (show q < o.length by omega), QW (show q < ws.length by omega)]
  refine Ok.ret ⟨by simp [h1], by simp [h2], fun j hj => ?_, fun j hj => ?_⟩
  ·rw [List.take_add_one, hq]
   by_cases e : j = q
   ·subst e; simp [h1, hj]
   ·rw [List.getElem?_set_ne (Ne.symm e), h3 j hj]; simp [e]
  ·rw [List.take_add_one, hq]
   by_cases e : j = q
   ·subst e; simp [h2, hj]
   ·rw [List.getElem?_set_ne (Ne.symm e), h4 j hj]; simp [e]
 rintro ⟨o1, ws1⟩ ⟨ho1, hw1, ho2, hw2⟩
 simp only at ho1 hw1 ho2 hw2
 have hlen : (Qcj S).length = S.length := by simp [Qcj]
 rw [hlen, List.take_length] at ho2 hw2
 have hD : Dst (Kz x back) (fun i => i ∈ S) n o1 := by
  refine ⟨ho1, fun i y hy => ?_, fun i hi => ?_, fun i y hy hlt => ?_⟩
  ·have hi : i < n := by have := (List.getElem?_eq_some_iff.1 hy).1; omega
   rw [ho2 i hi] at hy
   cases hy
   split <;> omega
  ·rw [ho2 i (hSn i hi), if_pos hi]
  ·have hi : i < n := by have := (List.getElem?_eq_some_iff.1 hy).1; omega
   rw [ho2 i hi] at hy
   by_cases hs : i ∈ S
   ·rw [if_pos hs] at hy; cases hy; exact .base hs
   ·rw [if_neg hs] at hy; cases hy; omega
 refine Yu (fun s : List Int × List Bool × List Int => ∃ Q, QS n Q s.2.1 s.2.2 ∧ Dst (Kz x back) (fun i => i ∈ S) n s.1 ∧ ∀ v, v ∉ Q → Qjf (Kz x back) s.1 v) (fun s => SP (Kz x back) (fun i => i ∈ S) n s.1) (fun _ => False) (fun s => 2 * tot s.1 + s.2.2.length)
  ⟨S, ⟨rfl, hS, hSn, hw1, hw2⟩, hD, fun v hv u w a b ha hb _ hlt => ?_⟩ ?_ (fun _ h => h.elim) ?_
 ·have hvn := (hA.a v u w ha).1
  simp only at hb
  rw [ho2 v hvn, if_neg hv] at hb
  cases hb
  omega
 ·rintro ⟨o, ws, ls⟩ ⟨Q, hQ, hDo, hCl⟩
  simp only at hQ hDo hCl
  cases Q with
  | nil =>
   have hls : ls = [] := by rw [hQ.l]; rfl
   subst hls
   exact ⟨.brk (o, ws, []), Z, by simp, fun s' e => by cases e; exact { hDo with cl := fun v => hCl v (by simp) }, by simp⟩
  | cons q Q =>
   have hls : ls = (q : Int) :: Qcj Q := by rw [hQ.l]; rfl
   obtain ⟨hqQ, hndQ⟩ := List.nodup_cons.1 hQ.nd
   have hqn : q < n := hQ.lt q (by simp)
   obtain ⟨row, hrow, hrl, hrm⟩ := hL2 q hqn
   obtain ⟨xq, hxq⟩ := Qt (xs := o) (i := q) (by rw [hDo.len]; exact hqn)
   have rxq := hDo.rng q xq hxq
   have hcut : cut ls 1 (ls.length : Int) = some (Qcj Q) := by unfold cut; rw [if_pos (by rw [hls]; simp; omega)]; rw [hls]; simp
   have hwq := hQ.w q hqn
   have hpos : (0 : Int) < (ls.length : Int) := by rw [hls]; simp
   have hi0 : Q9 ls 0 = some (q : Int) := by rw [hls]; rfl
   suffices hin : Ok (forS (fun i23833 => un3 fun (l24123 : (List Int)) (l24124 : (List Bool)) (l24125 : (List Int)) => (Q9 row (i23833 : Int)).bind fun x24458 =>
     (Q9 l24123 (q : Int)).bind fun x24516 =>
     (Q9 l24123 x24458.To).bind fun x24523 =>
     if decide (x24523 ≤ (IntKind.i64.wrap (x24516 + x24458.Weight))) then (some (l24123, l24124, l24125))
     else ((JL l24123 x24458.To (IntKind.i64.wrap (x24516 + x24458.Weight))).bind fun l24572 =>
     (Q9 l24124 x24458.To).bind fun x24584 =>
     (if !x24584 then ((app 8 l24125 [x24458.To]).bind fun l24696 =>
     (JL l24124 x24458.To true).bind fun l24705 =>
     some (l24705, l24696))
     else (some (l24124, l24125))).bind (QI fun (l24647 : (List Bool)) (l24648 : (List Int)) => some (l24572, l24647, l24648)))) (row.length) 0 (o, ws.set q false, Qcj Q))
     (fun s => ∃ Q2, QS n Q2 s.2.1 s.2.2 ∧ Dst (Kz x back) (fun i => i ∈ S) n s.1 ∧ (∀ v, v ∉ Q2 → Qjf (Kz x back) s.1 v) ∧ 2 * tot s.1 + Q2.length ≤ 2 * tot o + Q.length) by
    obtain ⟨⟨o', ws', ls'⟩, hr, Q2, g1, g2, g3, g4⟩ := hin
    simp only at g1 g2 g3 g4
    refine ⟨.next (o', ws', ls'), ?_, fun s' e => ?_, by simp, by simp⟩
    ·simp only [un3, hpos, decide_true, if_true, hi0, hcut, Qo, hwq, QW (show q < ws.length by rw [hQ.wl]; exact hqn), hrow, Option.bind_some]
     have hmust : must (decide (row.length ≤ 9223372036854775807)) = some () := by unfold must; rw [if_pos (by simp; omega)]
     rw [hmust]
     simp only [Option.bind_some]
     show ((forS _ _ 0 (o, ws.set q false, Qcj Q)).bind _) = _
     simp only [un3, Qo] at hr
     rw [hr]
     rfl
    ·cases e
     refine ⟨⟨Q2, g1, g2, g3⟩, ?_⟩
     have e1 : ls'.length = Q2.length := by rw [g1.l]; simp [Qcj]
     have e2 : ls.length = Q.length + 1 := by rw [hls]; simp [Qcj]
     simp only [e1, e2]
     omega
   refine QQ (fun i s => ∃ Q2, QS n Q2 s.2.1 s.2.2 ∧ q ∉ Q2 ∧ Dst (Kz x back) (fun i => i ∈ S) n s.1 ∧ s.1[q]? = some xq ∧ (∀ v, v ∉ Q2 → v ≠ q → Qjf (Kz x back) s.1 v) ∧
    (∀ (u : Nat) (w y : Int), (⟨(q : Int), (u : Int), w⟩ : Arc) ∈ row.take i → s.1[u]? = some y → y ≤ xq + w) ∧ 2 * tot s.1 + Q2.length ≤ 2 * tot o + Q.length) ?_ ?_ ?_
   ·refine ⟨Q, ⟨Z, hndQ, fun q' h' => hQ.lt q' (by simp [h']), by simp [hQ.wl], fun j hj => ?_⟩, hqQ, hDo, hxq, fun v hv hne => hCl v (by simp [hv, hne]), by simp, Nat.le_refl _⟩
    by_cases e : j = q
    ·subst e; simp [hQ.wl, hj, hqQ]
    ·simp only
     rw [List.getElem?_set_ne (Ne.symm e), hQ.w j hj]; simp [e]
   ·rintro i ⟨k, ws', ls'⟩ hi ⟨Q2, g1, g2, g3, g4, g5, g6, g7⟩
    simp only at g1 g2 g3 g4 g5 g6 g7
    obtain ⟨a, ha⟩ := Qt hi
    obtain ⟨u, w, rfl, harc⟩ := (hrm a).1 (List.mem_of_getElem? ha)
    obtain ⟨_, hu, hw0, hw1'⟩ := hA.a q u w harc
    obtain ⟨y, hy⟩ := Qt (xs := k) (i := u) (by rw [g3.len]; exact hu)
    have ry := g3.rng u y hy
    have hwr : IntKind.i64.wrap (xq + w) = xq + w := QD (by omega) (by omega)
    have htk : row.take (i + 1) = row.take i ++ [⟨(q : Int), (u : Int), w⟩] := by rw [List.take_add_one, ha]; rfl
    simp only [un3, Qo, ha, g4, hy, Option.bind_some, hwr]
    by_cases hle : y ≤ xq + w
    ·simp only [hle, decide_true, if_true]
     refine Ok.ret ⟨Q2, g1, g2, g3, g4, g5, ?_, g7⟩
     intro u' w' y' hm hy'
     rw [htk] at hm
     rcases List.mem_append.1 hm with hm | hm
     ·exact g6 u' w' y' hm hy'
     ·simp only [List.mem_singleton, Arc.mk.injEq] at hm
      obtain ⟨_, e1, e2⟩ := hm
      have e1' : u' = u := by omega
      subst e1' e2
      simp only at hy'
      rw [hy] at hy'; cases hy'; exact hle
    ·have hlt : xq + w < y := by omega
     have huq : u ≠ q := by
      rintro rfl
      rw [g4] at hy; cases hy; omega
     have hD' := g3.set hA harc g4 hy hlt
     have hq' : (k.set u (xq + w))[q]? = some xq := by rw [List.getElem?_set_ne huq]; exact g4
     have hmono : ∀ (v : Nat) (b : Int), (k.set u (xq + w))[v]? = some b → ∃ b', k[v]? = some b' ∧ b ≤ b' := by
      intro v b hb
      by_cases e : u = v
      ·subst e
       rw [List.getElem?_set_self (by rw [g3.len]; exact hu)] at hb
       cases hb
       exact ⟨y, hy, by omega⟩
      ·rw [List.getElem?_set_ne e] at hb; exact ⟨b, hb, Int.le_refl _⟩
     have htot := QgV (l := k) (u := u) (y := y) (z := xq + w) hy (by omega) hlt
     have hcl' : ∀ Q3 : List Nat, u ∈ Q3 → (∀ v, v ∉ Q3 → v ∉ Q2) → ∀ v, v ∉ Q3 → v ≠ q → Qjf (Kz x back) (k.set u (xq + w)) v := by
      intro Q3 hu3 hsub v hv hvq u2 w2 a2 b2 harc2 ha2 hb2 hlt2
      have hvu : u ≠ v := by rintro rfl; exact hv hu3
      rw [List.getElem?_set_ne hvu] at ha2
      obtain ⟨b', hb', hle'⟩ := hmono u2 b2 hb2
      have := g5 v (hsub v hv) hvq u2 w2 a2 b' harc2 ha2 hb' hlt2
      omega
     have hproc : ∀ (u' : Nat) (w' y' : Int), (⟨(q : Int), (u' : Int), w'⟩ : Arc) ∈ row.take (i + 1) → (k.set u (xq + w))[u']? = some y' → y' ≤ xq + w' := by
      intro u' w' y' hm hy'
      rw [htk] at hm
      rcases List.mem_append.1 hm with hm | hm
      ·obtain ⟨b', hb', hle'⟩ := hmono u' y' hy'
       have := g6 u' w' b' hm hb'
       omega
      ·simp only [List.mem_singleton, Arc.mk.injEq] at hm
       obtain ⟨_, e1, e2⟩ := hm
       have e1' : u' = u := by omega
       subst e1' e2
       rw [List.getElem?_set_self (by rw [g3.len]; exact hu)] at hy'
       cases hy'; exact Int.le_refl _
     simp only [hle, decide_false, Bool.false_eq_true, if_false, QW (show u < k.length by rw [g3.len]; exact hu), g1.w u hu, Option.bind_some]
     by_cases hin : u ∈ Q2
     ·simp only [hin, decide_true, Bool.not_true, Bool.false_eq_true, if_false, Option.bind_some, QI]
      exact Ok.ret ⟨Q2, g1, g2, hD', hq', hcl' Q2 hin (fun v hv => hv), hproc, by simp only; omega⟩
     ·have hQl := nodup_short' g1.nd g1.lt
      have hll : ls'.length = Q2.length := by rw [g1.l]; simp [Qcj]
      simp only [hin, decide_false, Bool.not_false, if_true, Option.bind_some, QI, JB (show (ls'.length + [((u : Nat) : Int)].length) * 8 ≤ 140737488355328 by rw [hll, List.length_singleton]; omega), QW (show u < ws'.length by rw [g1.wl]; exact hu)]
      refine Ok.ret ⟨Q2 ++ [u], ⟨by rw [g1.l]; simp [Qcj], ?_, ?_, by simp [g1.wl], fun j hj => ?_⟩, ?_, hD', hq', hcl' _ (by simp) (fun v hv h' => hv (by simp [h'])), hproc, ?_⟩
      ·exact List.nodup_append.2 ⟨g1.nd, by simp, fun a hma b hmb e => by simp only [List.mem_singleton] at hmb; exact hin (hmb ▸ e ▸ hma)⟩
      ·intro q' h'
       rcases List.mem_append.1 h' with h' | h'
       ·exact g1.lt q' h'
       ·simp at h'; subst h'; exact hu
      ·by_cases e : j = u
       ·subst e; simp [g1.wl, hj]
       ·simp only
        rw [List.getElem?_set_ne (Ne.symm e), g1.w j hj]; simp [e]
      ·simp [g2, Ne.symm huq]
      ·simp only [List.length_append, List.length_singleton]; omega
   ·rintro ⟨k, ws', ls'⟩ ⟨Q2, g1, g2, g3, g4, g5, g6, g7⟩
    refine ⟨Q2, g1, g3, fun v hv => ?_, g7⟩
    by_cases e : v = q
    ·subst e
     intro u w a b harc ha hb hlt
     simp only at ha hb g4 g6
     rw [g4] at ha; cases ha
     exact g6 u w b (by rw [List.take_length]; exact (hrm _).2 ⟨u, w, Z, harc⟩) hb
    ·exact g5 v hv e
 ·rintro ⟨o, ws, ls⟩ hsp
  exact Ok.ret hsp
end Go.Pw
/- -/
set_option maxHeartbeats 4000000
namespace Go.Pw
def InR (vars : List Int) (x : Fact) : Prop := 0 ≤ x.Var ∧ x.Var < (vars.length : Int) ∧ 0 ≤ x.Val ∧ x.Val < vars[x.Var.toNat]?.getD 0
structure FactsOK (vars : List Int) (f : List Fact) : Prop where
 r : ∀ x ∈ f, InR vars x
 o : f.Pairwise fun a b => a.Var < b.Var
structure OpOK (vars : List Int) (o : Op) : Prop where
 c0 : 0 ≤ o.Cost
 c1 : o.Cost ≤ 1048576
 ne : o.Effs.length ≤ 64
 nm : o.Name.size ≤ 256
 ch : ∀ c ∈ bytesOf o.Name, 32 ≤ c ∧ c ≤ 126
 pre : FactsOK vars o.Pre
 eff : ∀ e ∈ o.Effs, FactsOK vars e.When ∧ InR vars ⟨e.Var, e.Val⟩
structure StateOK (vars s : List Int) : Prop where
 len : s.length = vars.length
 r : ∀ (i : Nat) (x d : Int), s[i]? = some x → vars[i]? = some d → 0 ≤ x ∧ x < d
structure GoodT (t : Task) : Prop where
 nv : t.Vars.length ≤ 64
 no : t.Ops.length ≤ 4096
 v : ∀ n ∈ t.Vars, 1 ≤ n ∧ n ≤ 64
 init : StateOK t.Vars t.Init
 goal : FactsOK t.Vars t.Goal
 op : ∀ o ∈ t.Ops, OpOK t.Vars o
theorem Q6 {α : Type} {l : List α} {i : Nat} {x : α} (h : l[i]? = some x) : l.take (i + 1) = l.take i ++ [x] := by rw [List.take_add_one, h]; rfl
theorem Qcx {vars : List Int} {l : List Fact} {x : Fact} : FactsOK vars (l ++ [x]) ↔ FactsOK vars l ∧ InR vars x ∧ ∀ a ∈ l, a.Var < x.Var := by
 constructor
 ·rintro ⟨h1, h2⟩
  rw [List.pairwise_append] at h2
  exact ⟨⟨fun y hy => h1 y (by simp [hy]), h2.1⟩, h1 x (by simp), fun a ha => h2.2.2 a ha x (by simp)⟩
 ·rintro ⟨⟨h1, h2⟩, h3, h4⟩
  refine ⟨fun y hy => ?_, List.pairwise_append.2 ⟨h2, by simp, fun a ha b hb => ?_⟩⟩
  ·rcases List.mem_append.1 hy with hy | hy
   ·exact h1 y hy
   ·simp only [List.mem_singleton] at hy; subst hy; exact h3
  ·simp only [List.mem_singleton] at hb; subst hb; exact h4 a ha
theorem FactsOK.take {vars : List Int} {f : List Fact} (h : FactsOK vars f) (i : Nat) : FactsOK vars (f.take i) := ⟨fun x hx => h.r x (List.mem_of_mem_take hx), h.o.sublist (List.take_sublist i f)⟩
theorem FactsOK.len {vars : List Int} {f : List Fact} (h : FactsOK vars f) : f.length ≤ vars.length := by
 have := nodup_short' (n := vars.length) (L := f.map fun x => x.Var.toNat) ?_ ?_
 ·simpa using this
 ·refine List.pairwise_map.2 (h.o.imp_of_mem ?_)
  intro a b ha hb hlt
  have := h.r a ha
  have := h.r b hb
  unfold InR at *
  omega
 ·intro x hx
  obtain ⟨y, hy, rfl⟩ := List.mem_map.1 hx
  have := h.r y hy
  unfold InR at *
  omega
theorem QiV {vars : List Int} {f : List Fact} {i : Nat} {x : Fact} (hx : f[i]? = some x) (h : ¬ (InR vars x ∧ ∀ a ∈ f.take i, a.Var < x.Var)) : ¬ FactsOK vars f := fun hf => h (by
 have := hf.take (i + 1)
 rw [Q6 hx] at this
 exact (Qcx.1 this).2)
theorem Qfe {vars : List Int} {f : List Fact} {i : Nat} {x : Fact} (hx : f[i]? = some x) (h : FactsOK vars (f.take i)) (hr : InR vars x) (hl : ∀ a ∈ f.take i, a.Var < x.Var) : FactsOK vars (f.take (i + 1)) := by
 rw [Q6 hx]
 exact Qcx.2 ⟨h, hr, hl⟩
theorem Qfw {vars : List Int} {n : Int} (h0 : 0 ≤ n) (h1 : n < (vars.length : Int)) : Q9 vars n = some (vars[n.toNat]?.getD 0) := by
 obtain ⟨d, hd⟩ := Qt (xs := vars) (i := n.toNat) (by omega)
 unfold Q9
 rw [if_pos h0, hd]
 rfl
open Classical in
theorem QgW (vars : List Int) (f : List Fact) (hv : vars.length ≤ 4096) : KI vars f = some (decide (FactsOK vars f)) := by
 refine Ok.eq ?_
 unfold KI
 refine Ok.ctl (fun i _ => FactsOK vars (f.take i)) (fun r => r = false ∧ ¬ FactsOK vars f) ⟨by simp, by simp⟩ ?_ ?_ ?_
 ·rintro i _ hi h
  obtain ⟨x, hx⟩ := Qt hi
  have hb := fun h => QiV (vars := vars) hx h
  have hlen := h.len
  have hil : i ≤ 4096 := by rw [List.length_take] at hlen; omega
  simp only [Qo, hx, Option.bind_some]
  by_cases h1 : x.Var < 0
  ·simp only [h1, decide_true, if_true, Option.bind_some]; exact Ok.ret ⟨rfl, hb fun h => by have := h.1; unfold InR at this; omega⟩
  by_cases h2 : (vars.length : Int) ≤ x.Var
  ·simp only [h1, h2, decide_true, decide_false, Bool.false_eq_true, if_false, if_true, Option.bind_some]; exact Ok.ret ⟨rfl, hb fun h => by have := h.1; unfold InR at this; omega⟩
  by_cases h3 : x.Val < 0
  ·simp only [h1, h2, h3, decide_true, decide_false, Bool.false_eq_true, if_false, if_true, Option.bind_some]; exact Ok.ret ⟨rfl, hb fun h => by have := h.1; unfold InR at this; omega⟩
  rw [Qfw (by omega) (by omega)]
  by_cases h4 : vars[x.Var.toNat]?.getD 0 ≤ x.Val
  ·simp only [h1, h2, h3, h4, decide_true, decide_false, Bool.false_eq_true, if_false, if_true, Option.bind_some]; exact Ok.ret ⟨rfl, hb fun h => by have := h.1; unfold InR at this; omega⟩
  have hr : InR vars x := by unfold InR; omega
  by_cases h5 : 0 < i
  ·obtain ⟨a, ha⟩ := Qt (show i - 1 < f.length by omega)
   have hw : IntKind.i64.wrap ((i : Int) - 1) = ((i - 1 : Nat) : Int) := by rw [QD (by omega) (by omega)]; omega
   have h5' : (0 : Int) < (i : Int) := by omega
   have ht : f.take i = f.take (i - 1) ++ [a] := by
    have := Q6 ha
    rwa [show i - 1 + 1 = i by omega] at this
   simp only [h1, h2, h3, h4, h5', hw, Qo, ha, decide_true, decide_false, Bool.false_eq_true, if_false, if_true, Option.bind_some]
   by_cases h6 : x.Var ≤ a.Var
   ·simp only [h6, decide_true, if_true]
    exact Ok.ret ⟨Z, hb fun h => by have := h.2 a (by rw [ht]; simp); omega⟩
   ·simp only [h6, decide_false, Bool.false_eq_true, if_false]
    refine Ok.ret (Qfe hx h hr fun b hb => ?_)
    rw [ht] at hb h
    rcases List.mem_append.1 hb with hb | hb
    ·have := (Qcx.1 h).2.2 b hb; omega
    ·simp only [List.mem_singleton] at hb; subst hb; omega
  ·have h5' : ¬ (0 : Int) < (i : Int) := by omega
   obtain rfl : i = 0 := by omega
   simp only [h1, h2, h3, h4, h5', decide_true, decide_false, Bool.false_eq_true, if_false, if_true, Option.bind_some]
   exact Ok.ret (Qfe hx h hr (by simp))
 ·rintro r ⟨rfl, hn⟩
  exact Ok.ret (by simp [hn])
 ·intro _ h
  rw [List.take_length] at h
  exact Ok.ret (by simp [h])
open Classical in
theorem Qnl (vars : List Int) (f : List Fact) : KB vars f = some (decide (FactsOK vars f)) := by
 refine Ok.eq ?_
 unfold KB
 refine Ok.ctl (fun i last => FactsOK vars (f.take i) ∧ -1 ≤ last ∧ (∀ a ∈ f.take i, a.Var ≤ last) ∧ (last = -1 ∨ ∃ a ∈ f.take i, a.Var = last)) (fun r => r = false ∧ ¬ FactsOK vars f) ⟨⟨by simp, by simp⟩, by omega, by simp, .inl Z⟩ ?_ ?_ ?_
 ·rintro i last hi ⟨h, g1, g2, g3⟩
  obtain ⟨x, hx⟩ := Qt hi
  have hb := fun h => QiV (vars := vars) hx h
  simp only [Qo, hx, Option.bind_some]
  by_cases h1 : x.Var ≤ last
  ·simp only [h1, decide_true, if_true, Option.bind_some]; exact Ok.ret ⟨rfl, hb fun h => by
    have := h.1; unfold InR at this
    rcases g3 with g3 | ⟨a, ha, e⟩
    ·omega
    ·have := h.2 a ha; omega⟩
  by_cases h2 : (vars.length : Int) ≤ x.Var
  ·simp only [h1, h2, decide_true, decide_false, Bool.false_eq_true, if_false, if_true, Option.bind_some]; exact Ok.ret ⟨rfl, hb fun h => by have := h.1; unfold InR at this; omega⟩
  by_cases h3 : x.Val < 0
  ·simp only [h1, h2, h3, decide_true, decide_false, Bool.false_eq_true, if_false, if_true, Option.bind_some]; exact Ok.ret ⟨rfl, hb fun h => by have := h.1; unfold InR at this; omega⟩
  rw [Qfw (by omega) (by omega)]
  by_cases h4 : vars[x.Var.toNat]?.getD 0 ≤ x.Val
  ·simp only [h1, h2, h3, h4, decide_true, decide_false, Bool.false_eq_true, if_false, if_true, Option.bind_some]; exact Ok.ret ⟨rfl, hb fun h => by have := h.1; unfold InR at this; omega⟩
  have hr : InR vars x := by unfold InR; omega
  simp only [h1, h2, h3, h4, decide_true, decide_false, Bool.false_eq_true, if_false, if_true, Option.bind_some]
  refine Ok.ret ⟨Qfe hx h hr fun b hb => ?_, by omega, fun a ha => ?_, .inr ⟨x, ?_, Z⟩⟩
  ·have := g2 b hb; omega
  ·rw [Q6 hx] at ha
   rcases List.mem_append.1 ha with ha | ha
   ·have := g2 a ha; omega
   ·simp only [List.mem_singleton] at ha; subst ha; omega
  ·rw [Q6 hx]; simp
 ·rintro r ⟨rfl, hn⟩
  exact Ok.ret (by simp [hn])
 ·rintro _ ⟨h, _⟩
  rw [List.take_length] at h
  exact Ok.ret (by simp [h])
theorem Ya {α R β : Type} {xs : List α} {B : Nat → Unit → Option (Ctl Unit R)} {r : R} {kr : R → Option β} {k : Unit → Option β} (p : α → Prop) [DecidablePred p] (h : ∀ i x, xs[i]? = some x → B i () = some (if p x then .next () else .ret r)) :
  ctl (Jf B xs.length 0 ()) kr k = open Classical in if ∀ x ∈ xs, p x then k () else kr r := by
 classical
 rw [QdD (p := fun i => decide (∀ x, xs[i]? = some x → p x)) (r := r)]
 ·have : ((List.range xs.length).all fun i => decide (∀ x, xs[i]? = some x → p x)) = true ↔ ∀ x ∈ xs, p x := by
   rw [List.all_eq_true]
   constructor
   ·intro h x hx
    obtain ⟨i, hi⟩ := List.mem_iff_getElem?.1 hx
    have hlt := (List.getElem?_eq_some_iff.1 hi).1
    have := h i (by simpa using hlt)
    simp only [decide_eq_true_eq] at this
    exact this x hi
   ·intro h i hi
    simp only [decide_eq_true_eq]
    intro x hx
    exact h x (List.mem_of_getElem? hx)
  by_cases hall : ∀ x ∈ xs, p x
  ·rw [if_pos (this.2 hall), if_pos hall]
  ·rw [if_neg (fun h => hall (this.1 h)), if_neg hall]
 ·intro i hi
  obtain ⟨x, hx⟩ := Qt hi
  rw [h i x hx]
  by_cases hp : p x
  ·have : decide (∀ y, xs[i]? = some y → p y) = true := by simp [hx, hp]
   rw [this, if_pos hp]; rfl
  ·have : decide (∀ y, xs[i]? = some y → p y) = false := by simp [hx, hp]
   rw [this, if_neg hp]; rfl
open Classical in
theorem Qmk (vars s : List Int) (hl : s.length = vars.length) : ((List.range s.length).all fun i => decide (∀ x d, s[i]? = some x → vars[i]? = some d → 0 ≤ x ∧ x < d)) = decide (StateOK vars s) := by
 rw [Bool.eq_iff_iff, List.all_eq_true, decide_eq_true_eq]
 constructor
 ·intro h
  refine ⟨hl, fun i x d hx hd => ?_⟩
  have hlt := (List.getElem?_eq_some_iff.1 hx).1
  have := h i (by simpa using hlt)
  simp only [decide_eq_true_eq] at this
  exact this x d hx hd
 ·intro h i hi
  simp only [decide_eq_true_eq]
  exact h.r i
open Classical in
theorem Qnk (vars s : List Int) : Qas vars s = some (decide (StateOK vars s)) := by
 unfold Qas
 by_cases hl : s.length = vars.length
 ·have hl' : (s.length : Int) = (vars.length : Int) := by omega
  simp only [hl', decide_true, Bool.not_true, Bool.false_eq_true, if_false]
  rw [QdD (p := fun i => decide (∀ x d, s[i]? = some x → vars[i]? = some d → 0 ≤ x ∧ x < d)) (r := false), Qmk vars s hl]
  ·cases decide (StateOK vars s) <;> rfl
  ·intro i hi
   obtain ⟨x, hx⟩ := Qt hi
   obtain ⟨d, hd⟩ := Qt (show i < vars.length by omega)
   simp only [Qo, hx, hd, Option.bind_some, Option.some.injEq, forall_eq']
   by_cases h1 : x < 0
   ·have : ¬ (0 ≤ x ∧ x < d) := by omega
    simp only [h1, this, decide_true, decide_false, if_true, Option.bind_some, forall_const, Bool.false_eq_true, if_false]
    simp [this]
   ·by_cases h2 : d ≤ x
    ·have : ¬ (0 ≤ x ∧ x < d) := by omega
     simp [h1, h2, this]
    ·have : 0 ≤ x ∧ x < d := by omega
     simp [h1, h2, this]
 ·have hl' : ¬ (s.length : Int) = (vars.length : Int) := by omega
  have : ¬ StateOK vars s := fun h => hl h.len
  simp [hl', this]
open Classical in
theorem Qhq (vars s : List Int) : Qa8 vars s = some (decide (StateOK vars s)) := by
 rw [← Qnk]
 unfold Qa8 Qas
 congr 1
 congr 1
 congr 1
 funext i _
 cases Q9 s (i : Int) <;> rfl
theorem Qpn {s : ByteArray} {R : Type} (r : R) (j : Nat) (x : Int) (hj : (bytesOf s)[j]? = some x) :
  (((Q9 (bytesOf s) (j : Int)).bind fun x => if decide (x < 32) then (some true) else (some (decide (126 < x)))).bind fun (z : Bool) => if z then (some (Ctl.ret r)) else (some (Ctl.next ()))) = some (if 32 ≤ x ∧ x ≤ 126 then Ctl.next () else .ret r) := by
 rw [Qo, hj]
 simp only [Option.bind_some]
 by_cases h1 : x < 32
 ·have : ¬ (32 ≤ x ∧ x ≤ 126) := by omega
  simp [h1, this]
 ·by_cases h2 : 126 < x
  ·have : ¬ (32 ≤ x ∧ x ≤ 126) := by omega
   simp [h1, h2, this]
  ·have : 32 ≤ x ∧ x ≤ 126 := by omega
   simp [h1, h2, this]
theorem QhC (s : ByteArray) : (s.size : Int).toNat = (bytesOf s).length := by rw [Qet]; simp
open Classical in
theorem QpJ (s : ByteArray) (h : s.size ≤ 9223372036854775807) : Qbl s = some (decide (s.size ≤ 256 ∧ ∀ c ∈ bytesOf s, 32 ≤ c ∧ c ≤ 126)) := by
 unfold Qbl
 have hm : must (decide ((s.size : Int) ≤ 9223372036854775807)) = some () := by unfold must; rw [if_pos (by simp; omega)]
 simp only [hm, Option.bind_some, QhC]
 rw [Ya (r := false) (fun c => 32 ≤ c ∧ c ≤ 126) (fun i x hx => Qpn false i x hx)]
 by_cases h1 : ∀ c ∈ bytesOf s, 32 ≤ c ∧ c ≤ 126
 ·rw [if_pos h1]
  by_cases h2 : s.size ≤ 256
  ·have : (s.size : Int) ≤ 256 := by omega
   simp only [this, h2, h1, decide_true, true_and]
   simp; exact h1
  ·have : ¬ (s.size : Int) ≤ 256 := by omega
   simp [this, h2]
 ·rw [if_neg h1]
  simp [h1]
open Classical in
theorem tOp (vars : List Int) (o : Op) (hv : vars.length ≤ 4096) : YQ vars o = some (decide (OpOK vars o)) := by
 unfold YQ
 by_cases h1 : o.Cost < 0
 ·have : ¬ OpOK vars o := fun h => by have := h.c0; omega
  simp [h1, this]
 by_cases h2 : 1048576 < o.Cost
 ·have : ¬ OpOK vars o := fun h => by have := h.c1; omega
  simp [h1, h2, this]
 by_cases h3 : 64 < (o.Effs.length : Int)
 ·have : ¬ OpOK vars o := fun h => by have := h.ne; omega
  simp [h1, h2, h3, this]
 by_cases h4 : 256 < (o.Name.size : Int)
 ·have : ¬ OpOK vars o := fun h => by have := h.nm; omega
  simp [h1, h2, h3, h4, this]
 simp only [h1, h2, h3, h4, decide_false, Bool.false_eq_true, if_false, QgW _ _ hv, Option.bind_some]
 by_cases h5 : FactsOK vars o.Pre
 ·have hm : must (decide ((o.Name.size : Int) ≤ 9223372036854775807)) = some () := by unfold must; rw [if_pos (by simp; omega)]
  simp only [h5, decide_true, Bool.not_true, Bool.false_eq_true, if_false, hm, Option.bind_some, QhC]
  rw [Ya (r := false) (fun c => 32 ≤ c ∧ c ≤ 126) (fun i x hx => Qpn false i x hx)]
  by_cases h6 : ∀ c ∈ bytesOf o.Name, 32 ≤ c ∧ c ≤ 126
  ·rw [if_pos h6, Ya (r := false) (fun e => FactsOK vars e.When ∧ InR vars ⟨e.Var, e.Val⟩)]
   ·by_cases h7 : ∀ e ∈ o.Effs, FactsOK vars e.When ∧ InR vars ⟨e.Var, e.Val⟩
    ·rw [if_pos h7]
     have : OpOK vars o := ⟨by omega, by omega, by omega, by omega, h6, h5, h7⟩
     simp [this]
    ·rw [if_neg h7]
     have : ¬ OpOK vars o := fun h => h7 h.eff
     simp [this]
   ·intro i e he
    have hone : FactsOK vars [⟨e.Var, e.Val⟩] ↔ InR vars ⟨e.Var, e.Val⟩ := ⟨fun h => h.r _ (by simp), fun h => ⟨by simpa using h, by simp⟩⟩
    simp only [Qo, he, Option.bind_some]
    by_cases h7 : FactsOK vars e.When
    ·by_cases h8 : InR vars ⟨e.Var, e.Val⟩ <;> simp [h7, h8, hone, QgW _ _ hv]
    ·simp [h7]
  ·rw [if_neg h6]
   have : ¬ OpOK vars o := fun h => h6 h.ch
   simp [this]
 ·have : ¬ OpOK vars o := fun h => h5 h.pre
  simp [h5, this]
open Classical in
theorem Qqm (t : Task) : Qcc t = some (decide (GoodT t)) := by
 unfold Qcc
 by_cases h1 : 64 < (t.Vars.length : Int)
 ·have : ¬ GoodT t := fun h => by have := h.nv; omega
  simp [h1, this]
 by_cases h2 : 4096 < (t.Ops.length : Int)
 ·have : ¬ GoodT t := fun h => by have := h.no; omega
  simp [h1, h2, this]
 have hv : t.Vars.length ≤ 4096 := by omega
 simp only [h1, h2, decide_false, Bool.or_self, Bool.false_eq_true, if_false]
 rw [Ya (r := false) (fun n => 1 ≤ n ∧ n ≤ 64)]
 ·by_cases h3 : ∀ n ∈ t.Vars, 1 ≤ n ∧ n ≤ 64
  ·rw [if_pos h3, Qnk]
   by_cases h4 : StateOK t.Vars t.Init
   ·by_cases h5 : FactsOK t.Vars t.Goal
    ·simp only [h4, h5, decide_true, Bool.not_true, Bool.false_eq_true, if_false, Option.bind_some, QgW _ _ hv]
     rw [Ya (r := false) (fun o => OpOK t.Vars o)]
     ·by_cases h6 : ∀ o ∈ t.Ops, OpOK t.Vars o
      ·rw [if_pos h6]
       have : GoodT t := ⟨by omega, by omega, h3, h4, h5, h6⟩
       simp [this]
      ·rw [if_neg h6]
       have : ¬ GoodT t := fun h => h6 h.op
       simp [this]
     ·intro i o ho
      simp only [Qo, ho, Option.bind_some, tOp _ _ hv]
      by_cases h6 : OpOK t.Vars o <;> simp [h6]
    ·have : ¬ GoodT t := fun h => h5 h.goal
     simp [h4, h5, this, QgW _ _ hv]
   ·have : ¬ GoodT t := fun h => h4 h.init
    simp [h4, this]
  ·rw [if_neg h3]
   have : ¬ GoodT t := fun h => h3 h.v
   simp [this]
 ·intro i n hn
  simp only [Qo, hn, Option.bind_some]
  by_cases ha : n < 1
  ·have : ¬ (1 ≤ n ∧ n ≤ 64) := by omega
   simp [ha, this]
  ·by_cases hb : 64 < n
   ·have : ¬ (1 ≤ n ∧ n ≤ 64) := by omega
    simp [ha, hb, this]
   ·have : 1 ≤ n ∧ n ≤ 64 := by omega
    simp [ha, hb, this]
/-! ### the program's check -/
def Qg3 (t : Task) : List (List Fact) := t.Goal :: t.Ops.flatMap fun o => o.Pre :: o.Effs.map fun e => e.When
theorem QeU (t : Task) (ho : t.Ops.length ≤ 4096) (he : ∀ o ∈ t.Ops, o.Effs.length ≤ 64) : K3 t = some (Qg3 t) := by
 unfold K3
 rw [QaV t.Ops (fun o => o.Pre :: o.Effs.map fun e => e.When) (s0 := [t.Goal])]
 ·rfl
 ·intro i o s hi hs
  have hm := List.mem_of_getElem? hi
  have hlt := (List.getElem?_eq_some_iff.1 hi).1
  have hsl : s.length ≤ 1 + 4096 * 65 := by
   rw [hs, List.length_append]
   have := QcX (xs := t.Ops.take i) (g := fun o => o.Pre :: o.Effs.map fun e => e.When) (M := 65) (fun x hx => by
    have := he x (List.mem_of_mem_take hx)
    simp; omega)
   have h2 : (t.Ops.take i).length * 65 ≤ 4096 * 65 := Nat.mul_le_mul_right _ (by rw [List.length_take]; omega)
   simp only [List.length_singleton]; omega
  simp only [Qo, hi, Option.bind_some]
  rw [JB (by simp only [List.length_singleton]; omega)]
  simp only [Option.bind_some]
  rw [QaV o.Effs (fun e => [e.When]) (s0 := s ++ [o.Pre])]
  ·simp [Qa7]
  ·intro j e u hj hu
   have hjl := (List.getElem?_eq_some_iff.1 hj).1
   have := he o hm
   simp only [Qo, hj, Option.bind_some]
   rw [JB]
   ·rfl
   ·rw [hu, Qa7]
    simp only [List.length_append, List.length_map, List.length_take, List.length_singleton]
    omega
open Classical in
theorem QoT (l : List (List Fact)) : YS l = some (!decide (∀ f ∈ l, f.length ≤ 64)) := by
 unfold YS
 have h1 : Ok (KO l) fun n => (0 ≤ n ↔ ¬ ∀ f ∈ l, f.length ≤ 64) := by
  unfold KO
  refine Ok.ctl (fun i _ => ∀ f ∈ l.take i, f.length ≤ 64) (fun n => 0 ≤ n ∧ ¬ ∀ f ∈ l, f.length ≤ 64) (by simp) ?_ ?_ ?_
  ·rintro i _ hi h
   obtain ⟨x, hx⟩ := Qt hi
   have ht : YE x = decide (64 < (x.length : Int)) := by
    have := Qdc x
    unfold YF at this
    exact (Zu this).symm
   simp only [Qo, hx, Option.bind_some, ht]
   by_cases hb : 64 < (x.length : Int)
   ·simp only [hb, decide_true, if_true]
    exact Ok.ret ⟨by omega, fun h => by have := h x (List.mem_of_getElem? hx); omega⟩
   ·simp only [hb, decide_false, Bool.false_eq_true, if_false]
    refine Ok.ret fun f hf => ?_
    rw [Q6 hx] at hf
    rcases List.mem_append.1 hf with hf | hf
    ·exact h f hf
    ·simp only [List.mem_singleton] at hf; subst hf; omega
  ·rintro r ⟨h1, h2⟩
   exact Ok.ret ⟨fun _ => h2, fun _ => h1⟩
  ·intro _ h
   rw [List.take_length] at h
   exact Ok.ret ⟨fun h => by omega, fun h' => absurd h h'⟩
 obtain ⟨n, hn, h2⟩ := h1
 rw [hn]
 simp only [Option.bind_some, Option.some.injEq]
 by_cases h3 : ∀ f ∈ l, f.length ≤ 64
 ·have : ¬ 0 ≤ n := fun h => h2.1 h h3
  simp only [this, h3, decide_false]; simp; exact h3
 ·have : 0 ≤ n := h2.2 h3
  simp only [this, decide_true]; simp; simpa using h3
open Classical in
theorem large_ok' (t : Task) : Ok (Qbm t) fun b => b = false ↔ t.Vars.length ≤ 64 ∧ t.Ops.length ≤ 4096 ∧ (∀ o ∈ t.Ops, o.Effs.length ≤ 64) ∧ ∀ f ∈ Qg3 t, f.length ≤ 64 := by
 unfold Qbm
 by_cases h1 : 64 < (t.Vars.length : Int)
 ·simp only [h1, decide_true, Bool.true_or, if_true]
  exact Ok.ret ⟨fun h => (by cases h), fun h => by omega⟩
 by_cases h2 : 4096 < (t.Ops.length : Int)
 ·simp only [h1, h2, decide_true, Bool.or_true, if_true]
  exact Ok.ret ⟨fun h => (by cases h), fun h => by omega⟩
 simp only [h1, h2, decide_false, Bool.or_self, Bool.false_eq_true, if_false]
 rw [Ya (r := true) (fun o => o.Effs.length ≤ 64)]
 ·by_cases h3 : ∀ o ∈ t.Ops, o.Effs.length ≤ 64
  ·rw [if_pos h3, QeU t (by omega) h3]
   simp only [Option.bind_some, QoT]
   refine Ok.ret ⟨fun h => ⟨by omega, by omega, h3, by simpa using h⟩, fun h => by simpa using h.2.2.2⟩
  ·rw [if_neg h3]
   exact Ok.ret ⟨fun h => (by cases h), fun h => absurd h.2.2.1 h3⟩
 ·intro i o ho
  simp only [Qo, ho, Option.bind_some]
  by_cases h : 64 < (o.Effs.length : Int)
  ·have : ¬ o.Effs.length ≤ 64 := by omega
   simp [h, this]
  ·have : o.Effs.length ≤ 64 := by omega
   simp [h, this]
theorem QhU {t : Task} (h : GoodT t) : ∀ f ∈ Qg3 t, FactsOK t.Vars f := by
 intro f hf
 unfold Qg3 at hf
 rcases List.mem_cons.1 hf with rfl | hf
 ·exact h.goal
 ·obtain ⟨o, ho, hf⟩ := List.mem_flatMap.1 hf
  rcases List.mem_cons.1 hf with rfl | hf
  ·exact (h.op o ho).pre
  ·obtain ⟨e, he, rfl⟩ := List.mem_map.1 hf
   exact ((h.op o ho).eff e he).1
open Classical in
theorem Qf9 (t : Task) (hn : ∀ o ∈ t.Ops, o.Name.size ≤ 9223372036854775807) : Ok (Kr t) fun e => e = none ↔ GoodT t := by
 unfold Kr
 obtain ⟨b, hb, h0⟩ := large_ok' t
 rw [hb]
 simp only [Option.bind_some]
 cases b with
 | true =>
  simp only [if_true]
  refine Ok.ret ⟨fun h => (by cases h), fun h => ?_⟩
  have := h0.2 ⟨h.nv, h.no, fun o ho => (h.op o ho).ne, fun f hf => Nat.le_trans (QhU h f hf).len h.nv⟩
  cases this
 | false =>
  obtain ⟨g1, g2, g3, g4⟩ := h0.1 rfl
  simp only [Bool.false_eq_true, if_false]
  rw [Ya (r := some 1) (fun n => 1 ≤ n ∧ n ≤ 64)]
  ·by_cases h1 : ∀ n ∈ t.Vars, 1 ≤ n ∧ n ≤ 64
   ·rw [if_pos h1, Ya (r := some 1) (fun o => 0 ≤ o.Cost ∧ o.Cost ≤ 1048576)]
    ·by_cases h2 : ∀ o ∈ t.Ops, 0 ≤ o.Cost ∧ o.Cost ≤ 1048576
     ·rw [if_pos h2, Qhq]
      by_cases h3 : StateOK t.Vars t.Init
      ·simp only [h3, decide_true, Bool.not_true, Option.bind_some, Bool.false_eq_true, if_false, QeU t g2 g3]
       rw [Ya (r := some 2) (fun f => FactsOK t.Vars f)]
       ·by_cases h4 : ∀ f ∈ Qg3 t, FactsOK t.Vars f
        ·rw [if_pos h4, Ya (r := some 2) (fun o => ∀ e ∈ o.Effs, InR t.Vars ⟨e.Var, e.Val⟩)]
         ·by_cases h5 : ∀ o ∈ t.Ops, ∀ e ∈ o.Effs, InR t.Vars ⟨e.Var, e.Val⟩
          ·rw [if_pos h5, Ya (r := some 8) (fun o => o.Name.size ≤ 256 ∧ ∀ c ∈ bytesOf o.Name, 32 ≤ c ∧ c ≤ 126)]
           ·by_cases h6 : ∀ o ∈ t.Ops, o.Name.size ≤ 256 ∧ ∀ c ∈ bytesOf o.Name, 32 ≤ c ∧ c ≤ 126
            ·rw [if_pos h6]
             refine Ok.ret ⟨fun _ => ⟨g1, g2, h1, h3, h4 _ (by simp [Qg3]), fun o ho => ⟨(h2 o ho).1, (h2 o ho).2, g3 o ho, (h6 o ho).1, (h6 o ho).2, h4 _ ?_, fun e he => ⟨h4 _ ?_, h5 o ho e he⟩⟩⟩, fun _ => rfl⟩
             ·unfold Qg3
              exact List.mem_cons_of_mem _ (List.mem_flatMap.2 ⟨o, ho, by simp⟩)
             ·unfold Qg3
              exact List.mem_cons_of_mem _ (List.mem_flatMap.2 ⟨o, ho, List.mem_cons_of_mem _ (List.mem_map.2 ⟨e, he, Z⟩)⟩)
            ·rw [if_neg h6]
             exact Ok.ret ⟨fun h => (by cases h), fun h => absurd (fun o ho => ⟨(h.op o ho).nm, (h.op o ho).ch⟩) h6⟩
           ·intro i o ho
            have := hn o (List.mem_of_getElem? ho)
            simp only [Qo, ho, Option.bind_some, QpJ _ this]
            by_cases h : o.Name.size ≤ 256 ∧ ∀ c ∈ bytesOf o.Name, 32 ≤ c ∧ c ≤ 126
            ·rw [decide_eq_true h, if_pos h]; rfl
            ·rw [decide_eq_false h, if_neg h]; rfl
          ·rw [if_neg h5]
           exact Ok.ret ⟨fun h => (by cases h), fun h => absurd (fun o ho e he => ((h.op o ho).eff e he).2) h5⟩
         ·intro i o ho
          simp only [Qo, ho, Option.bind_some]
          rw [Ya (r := some 2) (fun e => InR t.Vars ⟨e.Var, e.Val⟩)]
          ·by_cases h : ∀ e ∈ o.Effs, InR t.Vars ⟨e.Var, e.Val⟩
           ·rw [if_pos h, if_pos h]
           ·rw [if_neg h, if_neg h]
          ·intro j e he
           have hone : FactsOK t.Vars [⟨e.Var, e.Val⟩] ↔ InR t.Vars ⟨e.Var, e.Val⟩ := ⟨fun h => h.r _ (by simp), fun h => ⟨by simpa using h, by simp⟩⟩
           simp only [Qo, he, Option.bind_some, Qnl, hone]
           by_cases h : InR t.Vars ⟨e.Var, e.Val⟩ <;> simp [h]
        ·rw [if_neg h4]
         exact Ok.ret ⟨fun h => (by cases h), fun h => absurd (QhU h) h4⟩
       ·intro i f hf
        simp only [Qo, hf, Option.bind_some, Qnl]
        by_cases h : FactsOK t.Vars f <;> simp [h]
      ·simp only [h3, decide_false, Bool.not_false, Option.bind_some, if_true]
       exact Ok.ret ⟨fun h => (by cases h), fun h => absurd h.init h3⟩
     ·rw [if_neg h2]
      exact Ok.ret ⟨fun h => (by cases h), fun h => absurd (fun o ho => ⟨(h.op o ho).c0, (h.op o ho).c1⟩) h2⟩
    ·intro i o ho
     simp only [Qo, ho, Option.bind_some]
     by_cases ha : o.Cost < 0
     ·have : ¬ (0 ≤ o.Cost ∧ o.Cost ≤ 1048576) := by omega
      simp [ha, this]
     ·by_cases hb : 1048576 < o.Cost
      ·have : ¬ (0 ≤ o.Cost ∧ o.Cost ≤ 1048576) := by omega
       simp [ha, hb, this]
      ·have : 0 ≤ o.Cost ∧ o.Cost ≤ 1048576 := by omega
       simp [ha, hb, this]
   ·rw [if_neg h1]
    exact Ok.ret ⟨fun h => (by cases h), fun h => absurd h.v h1⟩
  ·intro i n hn
   simp only [Qo, hn, Option.bind_some]
   by_cases ha : n < 1
   ·have : ¬ (1 ≤ n ∧ n ≤ 64) := by omega
    simp [ha, this]
   ·by_cases hb : 64 < n
    ·have : ¬ (1 ≤ n ∧ n ≤ 64) := by omega
     simp [ha, hb, this]
    ·have : 1 ≤ n ∧ n ≤ 64 := by omega
     simp [ha, hb, this]
end Go.Pw
