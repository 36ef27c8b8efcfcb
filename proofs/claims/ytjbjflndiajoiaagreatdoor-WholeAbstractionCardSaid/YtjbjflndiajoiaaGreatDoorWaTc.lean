/- -/
import Derived.Test.YtjbjflndiajoiaaGreatDoorWaTa
import Derived.Test.YtjbjflndiajoiaaGreatDoorBB
set_option maxHeartbeats 4000000
set_option linter.unusedSimpArgs false
set_option linter.unusedVariables false
namespace Go.Pw
theorem Qjm {a b : ByteArray} (h : a.data.toList = b.data.toList) : a = b := by
 obtain ⟨⟨a⟩⟩ := a
 obtain ⟨⟨b⟩⟩ := b
 simp at h
 rw [h]
structure NumI (l : List ByteArray) (i : Nat) (out : List Int) (m : Qdg) : Prop where
 len : out.length = i
 cls : ∀ j, j < i → ∃ k : Nat, out[j]? = some (k : Int) ∧ Qeh (eqL l) j k
 ml : m.length = rnk (eqL l) i
 hit : ∀ j k s, j < i → Qeh (eqL l) j k → l[j]? = some s → Qdn m s = some (k : Int)
 miss : ∀ s, (∀ j, j < i → l[j]? ≠ some s) → Qdn m s = none
theorem Qg9 (l : List ByteArray) (hl : l.length ≤ 100000) (hs : ∀ s ∈ l, s.size ≤ 100000000) :
  Ok (Kh l) fun r => ClsL (eqL l) l.length r.1 ∧ r.2 = (rnk (eqL l) l.length : Int) := by
 unfold Kh
 refine Ok.bind (QQ (fun i (s : List Int × Qdg) => NumI l i s.1 s.2) ⟨Z, fun j h => absurd h (Nat.not_lt_zero _), Z, fun j k s h => absurd h (Nat.not_lt_zero _), fun s _ => rfl⟩ ?_ ?_)
 ·rintro i ⟨out, m⟩ hi hI
  obtain ⟨x, hx⟩ := Qt hi
  have hxs := hs x (List.mem_of_getElem? hx)
  have hE := YV l l.length
  have hml : m.length ≤ 100000 := by
   have := rnk_le (eqL l) i
   rw [hI.ml]; omega
  simp only [QI, Qo, hx, Option.bind_some]
  have hg : Qhl m x = some ((Qdn m x).getD 0, (Qdn m x).isSome) := by unfold Qhl; rw [if_pos (by simp only [maxLen]; omega)]
  rw [hg]
  simp only [Option.bind_some]
  have hlen := hI.len
  rcases Qoi hE hi with ⟨hr, hc⟩ | ⟨hr, j, hj, hR, hjr, hci, hcj⟩
  ·have hmiss : Qdn m x = none := hI.miss x fun j hj e => hr j hj (by unfold eqL; rw [e, hx])
   have hp : Qhk m x (m.length : Int) = some (Qis m x (m.length : Int)) := by unfold Qhk; rw [if_pos (by simp only [maxLen]; omega)]
   simp only [hmiss, Option.isSome_none, Bool.not_false, if_true, hp, Option.bind_some, QI]
   refine Ok.step (JB (by simp only [List.length_singleton]; simp only at hlen; omega)) (Ok.ret ⟨?_, ?_, ?_, ?_, ?_⟩)
   ·simp only [List.length_append, List.length_singleton]; simp only at hlen; omega
   ·intro q hq
    simp only at hlen ⊢
    by_cases e : q = i
    ·subst e
     exact ⟨rnk (eqL l) q, by rw [List.getElem?_append_right (by omega), hlen, Nat.sub_self, hI.ml]; rfl, hc⟩
    ·obtain ⟨k, h1, h2⟩ := hI.cls q (by omega)
     exact ⟨k, by rw [List.getElem?_append_left (by omega)]; exact h1, h2⟩
   ·rw [QgA, hmiss, Qds]
    simp [hr, hI.ml]
   ·intro q k s hq hcq hqs
    rw [Qf4]
    by_cases e : q = i
    ·subst e
     rw [hx] at hqs; cases hqs
     rw [if_pos rfl, hI.ml, Qf8 hE hi hcq hc]
    ·have hqi : q < i := by omega
     have hne : ¬ x.data.toList = s.data.toList := fun e2 => hr q hqi (by unfold eqL; rw [hqs, hx, Qjm e2])
     rw [if_neg hne]
     exact hI.hit q k s hqi hcq hqs
   ·intro s hall
    rw [Qf4]
    have hne : ¬ x.data.toList = s.data.toList := fun e2 => hall i (by omega) (by rw [hx, Qjm e2])
    rw [if_neg hne]
    exact hI.miss s fun q hq => hall q (by omega)
  ·obtain ⟨y, hy⟩ := Qt (show j < l.length by omega)
   have hxy : y = x := by have : l[j]? = l[i]? := hR; rw [hy, hx] at this; exact Zu this
   subst hxy
   have hhit := hI.hit j _ y hj hcj hy
   simp only [hhit, Option.isSome_some, Bool.not_true, Bool.false_eq_true, if_false, Option.bind_some, QI, Option.getD_some]
   refine Ok.step (JB (by simp only [List.length_singleton]; simp only at hlen; omega)) (Ok.ret ⟨?_, ?_, ?_, ?_, ?_⟩)
   ·simp only [List.length_append, List.length_singleton]; simp only at hlen; omega
   ·intro q hq
    simp only at hlen ⊢
    by_cases e : q = i
    ·subst e
     exact ⟨rnk (eqL l) j, by rw [List.getElem?_append_right (by omega), hlen, Nat.sub_self]; rfl, hci⟩
    ·obtain ⟨k, h1, h2⟩ := hI.cls q (by omega)
     exact ⟨k, by rw [List.getElem?_append_left (by omega)]; exact h1, h2⟩
   ·rw [Qds]
    simp [hr, hI.ml]
   ·intro q k s hq hcq hqs
    by_cases e : q = i
    ·subst e
     rw [hx] at hqs; cases hqs
     rw [hhit, Qf8 hE hi hcq hci]
    ·exact hI.hit q k s (by omega) hcq hqs
   ·intro s hall
    exact hI.miss s fun q hq => hall q (by omega)
 ·rintro ⟨out, m⟩ hI
  simp only [QI]
  exact Ok.ret ⟨⟨hI.len, hI.cls⟩, by rw [hI.ml]⟩
end Go.Pw
/- -/
set_option maxHeartbeats 4000000
set_option maxRecDepth 100000
namespace Go.Pw
def Qcs (n : Nat) : List UInt8 := if n < 10 then [UInt8.ofNat (48 + n)] else [UInt8.ofNat (48 + n / 10), UInt8.ofNat (48 + n % 10)]
def QjW (n : Nat) : ByteArray := ⟨(Qcs n).toArray⟩
theorem QnS : ∀ k : Fin 100, (J8 (k.val : Int)).map (fun b => b.data.toList) = some (Qcs k.val) := by decide +kernel
theorem Qjy {n : Nat} (h : n < 100) : J8 (n : Int) = some (QjW n) := by
 have := QnS ⟨n, h⟩
 simp only at this
 obtain ⟨b, h1, h2⟩ := Option.map_eq_some_iff.1 this
 rw [h1]
 congr 1
 exact Qjm (by rw [h2]; simp [QjW])
def Qql : List UInt8 → Nat
 | [a] => a.toNat - 48
 | [a, b] => (a.toNat - 48) * 10 + (b.toNat - 48)
 | _ => 0
theorem Qen : ∀ k : Fin 100, Qql (Qcs k.val) = k.val ∧ (Qcs k.val).all (fun b => decide (48 ≤ b.toNat) && decide (b.toNat ≤ 57)) = true ∧ 1 ≤ (Qcs k.val).length ∧ (Qcs k.val).length ≤ 2 := by decide +kernel
def QeQ (b : UInt8) : Prop := 48 ≤ b.toNat ∧ b.toNat ≤ 57
theorem Qdu {n : Nat} (h : n < 100) : ∀ b ∈ Qcs n, QeQ b := by
 intro b hb
 have := List.all_eq_true.1 (Qen ⟨n, h⟩).2.1 b hb
 simpa [QeQ] using this
theorem QoS {n : Nat} (h : n < 100) : Qcs n ≠ [] := by
 intro e
 have := (Qen ⟨n, h⟩).2.2.1
 simp only [e] at this
 simp at this
theorem QcB {n : Nat} (h : n < 100) : (Qcs n).length ≤ 2 := (Qen ⟨n, h⟩).2.2.2
theorem Qh2 {n m : Nat} (hn : n < 100) (hm : m < 100) (e : Qcs n = Qcs m) : n = m := by
 have h1 := (Qen ⟨n, hn⟩).1
 have h2 := (Qen ⟨m, hm⟩).1
 simp only at h1 h2
 rw [← h1, ← h2, e]
theorem QeB : ∀ {a b r q : List UInt8}, (∀ x ∈ a, QeQ x) → (∀ x ∈ b, QeQ x) → (∀ x, r.head? = some x → ¬ QeQ x) → (∀ x, q.head? = some x → ¬ QeQ x) → a ++ r = b ++ q → a = b ∧ r = q
 | [], [], _, _, _, _, _, _, e => ⟨rfl, e⟩
 | [], y :: b, r, q, _, hb, hr, _, e => by
  simp only [List.nil_append] at e
  exact absurd (hb y (by simp)) (hr y (by rw [e]; rfl))
 | x :: a, [], r, q, ha, _, _, hq, e => by
  simp only [List.nil_append] at e
  exact absurd (ha x (by simp)) (hq x (by rw [← e]; rfl))
 | x :: a, y :: b, r, q, ha, hb, hr, hq, e => by
  simp only [List.cons_append, List.cons.injEq] at e
  obtain ⟨h1, h2⟩ := QeB (fun z hz => ha z (by simp [hz])) (fun z hz => hb z (by simp [hz])) hr hq e.2
  exact ⟨by rw [e.1, h1], h2⟩
def Qa5 : List (Nat × Nat) → List UInt8
 | [] => []
 | p :: ps => (32 :: Qcs p.1) ++ (58 :: Qcs p.2) ++ Qa5 ps
theorem QdJ (ps : List (Nat × Nat)) : ∀ x, (Qa5 ps).head? = some x → ¬ QeQ x := by
 intro x h
 cases ps with
 | nil => simp [Qa5] at h
 | cons p ps => simp [Qa5] at h; subst h; simp [QeQ]
theorem QjB (ps qs : List (Nat × Nat)) : Qa5 (ps ++ qs) = Qa5 ps ++ Qa5 qs := by
 induction ps with
 | nil => rfl
 | cons p ps ih => simp [Qa5, ih]
theorem QiO (ps : List (Nat × Nat)) (h : ∀ p ∈ ps, p.1 < 100 ∧ p.2 < 100) : (Qa5 ps).length ≤ ps.length * 6 := by
 induction ps with
 | nil => simp [Qa5]
 | cons p ps ih =>
  have h1 := QcB (h p (by simp)).1
  have h2 := QcB (h p (by simp)).2
  have := ih fun q hq => h q (by simp [hq])
  simp only [Qa5, List.length_append, List.length_cons]
  omega
theorem QiP : ∀ {ps qs : List (Nat × Nat)}, (∀ p ∈ ps, p.1 < 100 ∧ p.2 < 100) → (∀ p ∈ qs, p.1 < 100 ∧ p.2 < 100) → Qa5 ps = Qa5 qs → ps = qs
 | [], [], _, _, _ => rfl
 | [], q :: qs, _, _, e => by simp [Qa5] at e
 | p :: ps, [], _, _, e => by simp [Qa5] at e
 | p :: ps, q :: qs, hp, hq, e => by
  obtain ⟨p1, p2⟩ := hp p (by simp)
  obtain ⟨q1, q2⟩ := hq q (by simp)
  simp only [Qa5, List.cons_append, List.append_assoc, List.cons.injEq, true_and] at e
  have nd : ∀ (l : List UInt8) x, (58 :: l).head? = some x → ¬ QeQ x := by intro l x h; simp at h; subst h; simp [QeQ]
  obtain ⟨h1, h2⟩ := QeB (Qdu p1) (Qdu q1) (nd _) (nd _) e
  simp only [List.cons.injEq, true_and] at h2
  obtain ⟨h3, h4⟩ := QeB (Qdu p2) (Qdu q2) (QdJ ps) (QdJ qs) h2
  have e1 := Qh2 p1 q1 h1
  have e2 := Qh2 p2 q2 h3
  rw [QiP (fun r hr => hp r (by simp [hr])) (fun r hr => hq r (by simp [hr])) h4, show p = q from Prod.ext e1 e2]
def Qd8 (c : Nat) (ps : List (Nat × Nat)) : List UInt8 := Qcs c ++ Qa5 ps
theorem Qld {c d : Nat} {ps qs : List (Nat × Nat)} (hc : c < 100) (hd : d < 100) (hp : ∀ p ∈ ps, p.1 < 100 ∧ p.2 < 100) (hq : ∀ p ∈ qs, p.1 < 100 ∧ p.2 < 100) (e : Qd8 c ps = Qd8 d qs) : c = d ∧ ps = qs := by
 obtain ⟨h1, h2⟩ := QeB (Qdu hc) (Qdu hd) (QdJ ps) (QdJ qs) e
 exact ⟨Qh2 hc hd h1, QiP hp hq h2⟩
/-! ### bytes -/
theorem Qls (l : List UInt8) : bytesOf ⟨l.toArray⟩ = l.map fun b => (b.toNat : Int) := by simp [bytesOf]
theorem Qmh (l : List UInt8) : u8s (l.map fun b => (b.toNat : Int)) = l := by
 simp only [u8s, List.map_map]
 conv => rhs; rw [← List.map_id l]
 apply List.map_congr_left
 intro b _
 simp
theorem Qk4 {l : List UInt8} (h : l ≠ []) : Qg1 (l.map fun b => (b.toNat : Int)) = some ⟨l.toArray⟩ := by
 unfold Qg1
 rw [if_pos, Qmh]
 refine ⟨by simpa using h, List.all_eq_true.2 ?_⟩
 intro n hn
 obtain ⟨b, _, rfl⟩ := List.mem_map.1 hn
 have := b.toNat_lt
 simp; omega
theorem QhX {l q : List UInt8} (h : l.length + q.length ≤ 140737488355328) : Qhf (l.map fun b => (b.toNat : Int)) ⟨q.toArray⟩ = some ((l ++ q).map fun b => (b.toNat : Int)) := by
 unfold Qhf
 rw [if_pos (by rw [List.length_map]; exact h), Qls, List.map_append]
theorem Qgp {l q : List UInt8} (h : l.length + q.length ≤ 100000) : cat ⟨l.toArray⟩ ⟨q.toArray⟩ = some ⟨(l ++ q).toArray⟩ := by
 unfold cat
 rw [if_pos (by show l.length + q.length ≤ _; omega)]
 exact congrArg some (Qjm (by simp))
end Go.Pw
/- -/
set_option maxHeartbeats 4000000
set_option maxRecDepth 100000
namespace Go.Pw
/-! ### pairs -/
def PrLt (a b : Arr2_int) : Prop := a.a0 < b.a0 ∨ a.a0 = b.a0 ∧ a.a1 < b.a1
def Qo2 (a b : Arr2_int) : Prop := ¬ PrLt b a
theorem QkI (a : Arr2_int) : ¬ PrLt a a := by unfold PrLt; omega
theorem Qor (a b : Arr2_int) : PrLt a b ∨ a = b ∨ PrLt b a := by
 obtain ⟨a1, a2⟩ := a
 obtain ⟨b1, b2⟩ := b
 simp only [PrLt, Arr2_int.mk.injEq]
 omega
theorem QhA {α : Type} {lt : α → α → Prop} (ir : ∀ a, ¬ lt a a) (tr : ∀ a b c, lt a b → lt b c → lt a c) : ∀ {l k : List α}, l.Pairwise lt → k.Pairwise lt → (∀ e, e ∈ l ↔ e ∈ k) → l = k
 | [], [], _, _, _ => rfl
 | [], b :: k, _, _, h => absurd ((h b).2 (by simp)) (by simp)
 | a :: l, [], _, _, h => absurd ((h a).1 (by simp)) (by simp)
 | a :: l, b :: k, hl, hk, h => by
  obtain ⟨h1, h2⟩ := List.pairwise_cons.1 hl
  obtain ⟨k1, k2⟩ := List.pairwise_cons.1 hk
  have hab : a = b := by
   rcases List.mem_cons.1 ((h a).1 (by simp)) with e | e
   ·exact e
   ·rcases List.mem_cons.1 ((h b).2 (by simp)) with e' | e'
    ·exact e'.symm
    ·exact absurd (tr _ _ _ (h1 b e') (k1 a e)) (ir a)
  subst hab
  congr 1
  refine QhA ir tr h2 k2 fun e => ?_
  constructor
  ·intro he
   rcases List.mem_cons.1 ((h e).1 (by simp [he])) with e1 | e1
   ·subst e1; exact absurd (h1 e he) (ir e)
   ·exact e1
  ·intro he
   rcases List.mem_cons.1 ((h e).2 (by simp [he])) with e1 | e1
   ·subst e1; exact absurd (k1 e he) (ir e)
   ·exact e1
noncomputable def QjP (l : List Arr2_int) : List Arr2_int := l.mergeSort fun x y => !decide (Qhe y x < 0)
theorem Qj9 {l : List Arr2_int} (h : l.length < 4611686018427387904) : QbW l = some (QjP l) := by unfold QbW; rw [if_pos h]; rfl
theorem Qo7 (l : List Arr2_int) : (QjP l).Pairwise Qo2 := by
 have hp : (l.mergeSort fun x y => !decide (Qhe y x < 0)).Pairwise (fun x y => (!decide (Qhe y x < 0)) = true) := by
  apply List.pairwise_mergeSort
  ·intro a b c h1 h2
   simp only [Bool.not_eq_true', decide_eq_false_iff_not, QcC] at *
   omega
  ·intro a b
   simp only [Bool.or_eq_true, Bool.not_eq_true', decide_eq_false_iff_not, QcC]
   omega
 refine hp.imp ?_
 intro a b h
 simp only [Bool.not_eq_true', decide_eq_false_iff_not, QcC] at h
 exact h
theorem QnP {l : List Arr2_int} {e : Arr2_int} : e ∈ QjP l ↔ e ∈ l := (List.mergeSort_perm l _).mem_iff
theorem Qf2 (l : List Arr2_int) : (QjP l).length = l.length := List.length_mergeSort l
theorem QkC (s : List Arr2_int) : Jp s = Qf7 (fun a b => eqs [a.a0, a.a1] [b.a0, b.a1]) ⟨0, 0⟩ s := rfl
theorem Qoc (a b : Arr2_int) : eqs [a.a0, a.a1] [b.a0, b.a1] = true ↔ a = b := by
 obtain ⟨a1, a2⟩ := a
 obtain ⟨b1, b2⟩ := b
 simp [eqs]
noncomputable def Qdp (l : List Arr2_int) : List Arr2_int := dd none (QjP l)
theorem Qdx {l : List Arr2_int} {e : Arr2_int} : e ∈ Qdp l ↔ e ∈ l := by unfold Qdp; rw [QkT, QnP]
theorem Qko (l : List Arr2_int) : (Qdp l).Pairwise PrLt :=
 (QeC (le := Qo2) (lt := PrLt) (fun a b h ne => (Qor a b).resolve_right fun h2 => h2.elim ne h) (fun a b c h1 h2 => by unfold Qo2 PrLt at *; omega) (fun a b c h1 h2 => by unfold Qo2 PrLt at *; omega) (QjP l) none (Qo7 l) (by simp)).1
theorem Qmw {l k : List Arr2_int} (h : ∀ e, e ∈ l ↔ e ∈ k) : Qdp l = Qdp k :=
 QhA QkI (fun a b c h1 h2 => by unfold PrLt at *; omega) (Qko l) (Qko k) fun e => by rw [Qdx, Qdx, h]
theorem Qmv {l k : List Arr2_int} : Qdp l = Qdp k ↔ ∀ e, e ∈ l ↔ e ∈ k := ⟨fun h e => by rw [← Qdx, h, Qdx], Qmw⟩
/-! ### a system as its goals and edges -/
def Qc8 (x : System) (i l t : Nat) : Prop := (⟨(i : Int), (l : Int), (t : Int)⟩ : Edge) ∈ x.Edges
def Qb7 (x : System) (hv : VSys x) : TS where
 n := x.States.toNat
 goal := fun i => x.Goals[i]?.getD false
 edge := Qc8 x
 rng := fun i l t h => by have := hv.edge _ h; simp only at this; omega
theorem Qbj {x : System} (hv : VSys x) {d : Edge} (hd : d ∈ x.Edges) : ∃ i l t : Nat, d = ⟨(i : Int), (l : Int), (t : Int)⟩ ∧ i < x.States.toNat ∧ t < x.States.toNat ∧ l < x.Costs.length := by
 obtain ⟨h1, h2, h3, h4, h5, h6⟩ := hv.edge d hd
 refine ⟨d.From.toNat, d.Label.toNat, d.To.toNat, ?_, by omega, by omega, by omega⟩
 obtain ⟨f, l, t⟩ := d
 simp only [Edge.mk.injEq] at *
 omega
def ClsOf (cls : List Int) (n b : Nat) : Prop := cls.length = n ∧ ∀ c ∈ cls, ∃ k : Nat, c = (k : Int) ∧ k < b
def cN (cls : List Int) (i : Nat) : Nat := (cls[i]?.getD 0).toNat
theorem ClsOf.get {cls : List Int} {n b i : Nat} (h : ClsOf cls n b) (hi : i < n) : cls[i]? = some (cN cls i : Int) ∧ cN cls i < b := by
 obtain ⟨y, hy⟩ := JP (show i < cls.length by rw [h.1]; exact hi)
 obtain ⟨k, rfl, hk⟩ := h.2 y (List.mem_of_getElem? hy)
 unfold cN
 rw [hy]
 exact ⟨Z, hk⟩
theorem QiH {cls : List Int} {n b i j : Nat} (h : ClsOf cls n b) (hi : i < n) (hj : j < n) : cN cls i = cN cls j ↔ eqL cls i j := by
 unfold eqL
 rw [(h.get hi).1, (h.get hj).1]
 simp
 omega
def Qow (cls : List Int) (d : Edge) : Arr2_int := ⟨d.Label, (cN cls d.To.toNat : Int)⟩
def rwP (x : System) (cls : List Int) (i m : Nat) : List Arr2_int := ((x.Edges.take m).filter fun d => decide (d.From = (i : Int))).map (Qow cls)
theorem Qjr (x : System) (cls : List Int) (i m : Nat) : (rwP x cls i m).length ≤ x.Edges.length := by
 unfold rwP
 rw [List.length_map]
 refine Nat.le_trans (List.length_filter_le _ _) ?_
 simp; omega
theorem Qfz {x : System} (hv : VSys x) {cls : List Int} {i : Nat} {e : Arr2_int} : e ∈ rwP x cls i x.Edges.length ↔ ∃ l t : Nat, Qc8 x i l t ∧ e = ⟨(l : Int), (cN cls t : Int)⟩ := by
 unfold rwP
 rw [List.take_length]
 simp only [List.mem_map, List.mem_filter, decide_eq_true_eq]
 constructor
 ·rintro ⟨d, ⟨hd, hf⟩, rfl⟩
  obtain ⟨i', l, t, rfl, _, _, _⟩ := Qbj hv hd
  have hii : i' = i := by simp only at hf; omega
  subst hii
  exact ⟨l, t, hd, by simp [Qow]⟩
 ·rintro ⟨l, t, h, rfl⟩
  exact ⟨_, ⟨h, Z⟩, by simp [Qow]⟩
noncomputable def KK (x : System) (cls : List Int) (i : Nat) : List (Nat × Nat) := (Qdp (rwP x cls i x.Edges.length)).map fun p => (p.a0.toNat, p.a1.toNat)
theorem Qe7 {x : System} (hv : VSys x) {cls : List Int} {n b : Nat} (hc : ClsOf cls n b) (hn : n = x.States.toNat) {i : Nat} {e : Arr2_int} (h : e ∈ Qdp (rwP x cls i x.Edges.length)) : ∃ l c : Nat, e = ⟨(l : Int), (c : Int)⟩ ∧ l < x.Costs.length ∧ c < b := by
 rw [Qdx, Qfz hv] at h
 obtain ⟨l, t, he, rfl⟩ := h
 obtain ⟨_, _, _, e1, _, ht, hl⟩ := Qbj hv he
 simp only [Edge.mk.injEq] at e1
 exact ⟨l, _, Z, by omega, (hc.get (by rw [hn]; omega)).2⟩
theorem QhK {α β : Type} {f : α → β} : ∀ {l k : List α}, (∀ a ∈ l, ∀ b ∈ k, f a = f b → a = b) → l.map f = k.map f → l = k
 | [], [], _, _ => rfl
 | [], b :: k, _, h => by simp at h
 | a :: l, [], _, h => by simp at h
 | a :: l, b :: k, hi, h => by
  simp only [List.map_cons, List.cons.injEq] at h
  rw [hi a (by simp) b (by simp) h.1, QhK (fun c hc d hd => hi c (by simp [hc]) d (by simp [hd])) h.2]
theorem QhH {x : System} (hv : VSys x) {cls : List Int} {b : Nat} (hc : ClsOf cls x.States.toNat b) {i j : Nat} : KK x cls i = KK x cls j ↔ ∀ e, e ∈ rwP x cls i x.Edges.length ↔ e ∈ rwP x cls j x.Edges.length := by
 rw [← Qmv]
 constructor
 ·intro h
  refine QhK ?_ h
  intro a ha c hc' e
  obtain ⟨l, k, rfl, _, _⟩ := Qe7 hv hc rfl ha
  obtain ⟨l', k', rfl, _, _⟩ := Qe7 hv hc rfl hc'
  simp at e
  simp [e]
 ·intro h
  unfold KK
  rw [h]
theorem Qkf {x : System} (hv : VSys x) {cls : List Int} {b : Nat} (hc : ClsOf cls x.States.toNat b) {i j : Nat} : (∀ e, e ∈ rwP x cls i x.Edges.length ↔ e ∈ rwP x cls j x.Edges.length) ↔ sig (Qb7 x hv) (eqL cls) i j := by
 have key : ∀ i j, (∀ e, e ∈ rwP x cls i x.Edges.length → e ∈ rwP x cls j x.Edges.length) ↔ Qjc (Qb7 x hv) (eqL cls) i j := by
  intro i j
  constructor
  ·intro h l t he
   have h1 := h ⟨(l : Int), (cN cls t : Int)⟩ ((Qfz hv).2 ⟨l, t, he, rfl⟩)
   obtain ⟨l', u, he', e⟩ := (Qfz hv).1 h1
   simp only [Arr2_int.mk.injEq] at e
   obtain ⟨e1, e2⟩ := e
   have : l' = l := by omega
   subst this
   refine ⟨u, he', (QiH hc ((Qb7 x hv).rng _ _ _ he).2 ((Qb7 x hv).rng _ _ _ he').2).1 (by omega)⟩
  ·intro h e he
   obtain ⟨l, t, h1, rfl⟩ := (Qfz hv).1 he
   obtain ⟨u, h2, h3⟩ := h l t h1
   refine (Qfz hv).2 ⟨l, u, h2, ?_⟩
   rw [(QiH hc ((Qb7 x hv).rng _ _ _ h1).2 ((Qb7 x hv).rng _ _ _ h2).2).2 h3]
 unfold sig
 rw [← key i j, ← key j i]
 exact ⟨fun h => ⟨fun e he => (h e).1 he, fun e he => (h e).2 he⟩, fun h e => ⟨h.1 e, h.2 e⟩⟩
theorem Qmq {x : System} (hv : VSys x) (hs : x.States ≤ 100) (hl : x.Costs.length ≤ 100) {cls : List Int} (hc : ClsOf cls x.States.toNat 100) :
  Ok (Yd x cls) fun r => ClsL ((eqL cls).and (sig (Qb7 x hv) (eqL cls))) x.States.toNat r.1 ∧ r.2 = (rnk ((eqL cls).and (sig (Qb7 x hv) (eqL cls))) x.States.toNat : Int) := by
 unfold Yd
 have s1 := hv.s1
 have he := hv.e
 obtain ⟨n, hn⟩ : ∃ n : Nat, x.States = (n : Int) := ⟨x.States.toNat, by omega⟩
 have hnt : x.States.toNat = n := by omega
 rw [hnt] at hc ⊢
 have hn100 : n ≤ 100 := by omega
 rw [hn]
 refine Ok.step (QbS (by omega) (by omega)) (Ok.bind ?_)
 refine QQ (fun m (L : List (List Arr2_int)) => L.length = n ∧ ∀ i, i < n → L[i]? = some (rwP x cls i m)) ⟨by simp, fun i hi => by simp [hi, rwP]⟩ ?_ ?_
 ·rintro m L hm ⟨hL, hrow⟩
  obtain ⟨d, hd⟩ := JP hm
  obtain ⟨i, l, t, rfl, hi, ht, hlc⟩ := Qbj hv (List.mem_of_getElem? hd)
  rw [hnt] at hi ht
  have hct := (hc.get ht).1
  simp only [Qo, hd, Option.bind_some, hrow i hi, hct]
  refine Ok.step (JB (by have := Qjr x cls i m; simp; omega)) (Ok.step (QW (by omega)) (Ok.ret ⟨by simp [hL], fun j hj => ?_⟩))
  unfold rwP
  rw [List.take_add_one, hd]
  by_cases e : j = i
  ·subst e
   rw [List.getElem?_set_self (by omega)]
   simp [List.filter_append, Qow]
  ·rw [List.getElem?_set_ne (Ne.symm e), hrow j hj]
   have : ¬ ((i : Int) = (j : Int)) := by omega
   simp [List.filter_append, this, rwP]
 ·rintro L ⟨hL, hrow⟩
  refine Ok.step (QbS (by omega) (by omega)) (Ok.bind ?_)
  refine QQ (fun m (t : List ByteArray × List (List Arr2_int)) => t.1.length = n ∧ t.2.length = n ∧ (∀ j, j < m → t.1[j]? = some ⟨(Qd8 (cN cls j) (KK x cls j)).toArray⟩) ∧ ∀ j, m ≤ j → j < n → t.2[j]? = some (rwP x cls j x.Edges.length)) ⟨by simp, hL, fun j h => absurd h (Nat.not_lt_zero _), fun j _ hj => hrow j hj⟩ ?_ ?_
  ·rintro m ⟨T, M⟩ hm ⟨hT, hM, hdone, hleft⟩
   simp only at hT hM hdone hleft
   have hmn : m < n := by omega
   simp only [QI, Qo, hleft m (Nat.le_refl _) hmn, Option.bind_some]
   have hrl := Qjr x cls m x.Edges.length
   rw [Qj9 (by omega)]
   simp only [Option.bind_some]
   rw [QW (by omega)]
   have hcm := (hc.get hmn).1
   have hcb := (hc.get hmn).2
   simp only [Option.bind_some, hcm, Qjy hcb]
   have ha0 := QhX (l := []) (q := Qcs (cN cls m)) (by have := QcB hcb; simp; omega)
   simp only [List.map_nil, List.nil_append] at ha0
   have e0 : QjW (cN cls m) = ⟨(Qcs (cN cls m)).toArray⟩ := rfl
   rw [e0, ha0]
   simp only [Option.bind_some]
   rw [List.getElem?_set_self (by omega)]
   simp only [Option.bind_some, QkC]
   refine Ok.bind ((Qfg Qoc ⟨0, 0⟩ (QjP (rwP x cls m x.Edges.length)) (by rw [Qf2]; omega)).mono ?_)
   rintro ⟨k, R⟩ ⟨hk, hR, htk⟩
   simp only at hk hR htk
   simp only [QI]
   rw [QW (by simp; omega)]
   simp only [Option.bind_some]
   rw [Qf2] at hk
   refine Ok.must (by simp; omega) ?_
   have hnorm : R.take k = Qdp (rwP x cls m x.Edges.length) := htk
   have hnlen : (Qdp (rwP x cls m x.Edges.length)).length = k := by rw [← hnorm, List.length_take]; rw [Qf2] at hR; omega
   have hget : ∀ j, j < k → ∃ l c : Nat, R[j]? = some ⟨(l : Int), (c : Int)⟩ ∧ (KK x cls m)[j]? = some (l, c) ∧ l < 100 ∧ c < 100 := by
    intro j hj
    obtain ⟨y, hy⟩ := JP (show j < (Qdp (rwP x cls m x.Edges.length)).length by omega)
    obtain ⟨l, c, rfl, h1, h2⟩ := Qe7 hv hc hnt.symm (List.mem_of_getElem? hy)
    refine ⟨l, c, ?_, ?_, by omega, h2⟩
    ·rw [← hnorm, List.getElem?_take_of_lt hj] at hy; exact hy
    ·unfold KK; rw [List.getElem?_map, hy]; rfl
   refine Ok.bind (QQ (fun j (b : List Int) => b = (Qcs (cN cls m) ++ Qa5 ((KK x cls m).take j)).map fun c => (c.toNat : Int)) (by simp [Qa5]) ?_ ?_)
   ·rintro j b hj rfl
    have hjk : j < k := by omega
    obtain ⟨l, c, h1, h2, h3, h4⟩ := hget j hjk
    rw [List.getElem?_set_self (by simp; omega)]
    have hv2 : Qdf R 0 k (j : Int) = some ⟨(l : Int), (c : Int)⟩ := by unfold Qdf; rw [if_pos (by omega), show (0 : Int) + (j : Int) = (j : Int) by omega, Qo, h1]
    simp only [Option.bind_some, hv2, Qjy h3, Qjy h4]
    have d1 := QcB h3
    have d2 := QcB h4
    have d0 := QcB hcb
    have e1 : QjW l = ⟨(Qcs l).toArray⟩ := rfl
    have e2 : QjW c = ⟨(Qcs c).toArray⟩ := rfl
    have c1 := Qgp (l := [32]) (q := Qcs l) (by simp; omega)
    have c2 := Qgp (l := [32] ++ Qcs l) (q := [58]) (by simp; omega)
    have c3 := Qgp (l := [32] ++ Qcs l ++ [58]) (q := Qcs c) (by simp; omega)
    rw [e1, e2]
    rw [show (⟨#[32]⟩ : ByteArray) = ⟨([32] : List UInt8).toArray⟩ from rfl, show (⟨#[58]⟩ : ByteArray) = ⟨([58] : List UInt8).toArray⟩ from rfl, c1]
    simp only [Option.bind_some]
    rw [c2]
    simp only [Option.bind_some]
    rw [c3]
    simp only [Option.bind_some]
    have hpl := QiO ((KK x cls m).take j) (fun p hp => by
     have hp := List.mem_of_mem_take hp
     obtain ⟨q, hq⟩ := List.mem_iff_getElem?.1 hp
     have hqk : q < k := by
      have := (List.getElem?_eq_some_iff.1 hq).1
      unfold KK at this
      rw [List.length_map, hnlen] at this
      exact this
     obtain ⟨l', c', _, h6, h7, h8⟩ := hget q hqk
     rw [h6] at hq; cases hq
     exact ⟨h7, h8⟩)
    rw [List.length_take] at hpl
    refine Ok.step (QhX (by simp; omega)) (Ok.ret ?_)
    rw [List.take_add_one, h2]
    simp only [Option.toList_some, QjB, Qa5, List.append_nil]
    simp
   ·rintro b rfl
    have hfull : (KK x cls m).take ((k : Int).toNat) = KK x cls m := by
     refine List.take_of_length_le ?_
     unfold KK
     rw [List.length_map, hnlen]; omega
    rw [hfull, show Qcs (cN cls m) ++ Qa5 (KK x cls m) = Qd8 (cN cls m) (KK x cls m) from rfl]
    rw [Qk4 (l := Qd8 (cN cls m) (KK x cls m)) (fun e => QoS hcb (List.append_eq_nil_iff.1 e).1)]
    simp only [Option.bind_some]
    obtain ⟨y, hy⟩ := JP (show m < T.length by omega)
    rw [hy]
    simp only [Option.bind_some]
    refine Ok.step (QW (by omega)) (Ok.ret ⟨by simp [hT], by simp [hM], fun j hj => ?_, fun j h1 h2 => ?_⟩)
    ·by_cases e : j = m
     ·subst e; simp only; rw [List.getElem?_set_self (by omega)]
     ·simp only; rw [List.getElem?_set_ne (Ne.symm e)]; exact hdone j (by omega)
    ·simp only
     rw [List.getElem?_set_ne (by omega), List.getElem?_set_ne (by omega)]
     exact hleft j (by omega) h2
  ·rintro ⟨T, M⟩ ⟨hT, hM, hdone, _⟩
   simp only at hT hM hdone
   rw [hL] at hdone
   simp only [QI]
   have hpb : ∀ j, j < n → ∀ p ∈ KK x cls j, p.1 < 100 ∧ p.2 < 100 := by
    intro j hj p hp
    unfold KK at hp
    obtain ⟨q, hq, rfl⟩ := List.mem_map.1 hp
    obtain ⟨l, c, rfl, h1, h2⟩ := Qe7 hv hc hnt.symm hq
    simp; omega
   have hsz : ∀ s ∈ T, s.size ≤ 100000000 := by
    intro s hs'
    obtain ⟨j, hj⟩ := List.mem_iff_getElem?.1 hs'
    have hjn : j < n := by have := (List.getElem?_eq_some_iff.1 hj).1; omega
    rw [hdone j hjn] at hj
    cases hj
    have h1 := QiO (KK x cls j) (hpb j hjn)
    have h2 : (KK x cls j).length ≤ 65536 := by
     unfold KK
     rw [List.length_map]
     have h3 := Qjl (QjP (rwP x cls j x.Edges.length)) none
     have h4 := Qjr x cls j x.Edges.length
     rw [Qf2] at h3
     unfold Qdp
     omega
    have h3 := QcB (hc.get hjn).2
    show (Qd8 (cN cls j) (KK x cls j)).length ≤ _
    unfold Qd8
    rw [List.length_append]
    omega
   refine Ok.bind ((Qg9 T (by omega) hsz).mono ?_)
   rintro ⟨out, k⟩ ⟨h1, h2⟩
   simp only at h1 h2
   rw [hT] at h1 h2
   have hiff : ∀ i j, i < n → j < n → (eqL T i j ↔ (eqL cls).and (sig (Qb7 x hv) (eqL cls)) i j) := by
    intro i j hi hj
    unfold eqL
    rw [hdone i hi, hdone j hj]
    have hc' : ClsOf cls x.States.toNat 100 := by rw [hnt]; exact hc
    constructor
    ·intro e
     simp only [Option.some.injEq, ByteArray.mk.injEq] at e
     have e' : Qd8 (cN cls i) (KK x cls i) = Qd8 (cN cls j) (KK x cls j) := by simpa using e
     obtain ⟨e1, e2⟩ := Qld (hc.get hi).2 (hc.get hj).2 (hpb i hi) (hpb j hj) e'
     exact ⟨(QiH hc hi hj).1 e1, (Qkf hv hc').1 ((QhH hv hc').1 e2)⟩
    ·rintro ⟨e1, e2⟩
     rw [(QiH hc hi hj).2 e1, (QhH hv hc').2 ((Qkf hv hc').2 e2)]
   refine Ok.ret ⟨h1.congr hiff, ?_⟩
   rw [h2, Qc0 hiff (Nat.le_refl _)]
end Go.Pw
/- -/
set_option maxHeartbeats 4000000
set_option maxRecDepth 100000
namespace Go.Pw
theorem Qp7 (b : Bool) : Jd b = if b then (⟨#[116, 114, 117, 101]⟩ : ByteArray) else (⟨#[102, 97, 108, 115, 101]⟩) := by
 have h := Qb3 b
 unfold Kv at h
 have h2 := Qao b
 unfold JS at h2
 rw [← Zu h]
 cases b
 ·simpa using (Zu h2).symm
 ·simpa using (Zu h2).symm
theorem QnZ {a b : Bool} (h : Jd a = Jd b) : a = b := by
 rw [Qp7, Qp7] at h
 cases a <;> cases b <;> simp at h <;> rfl
theorem Qm5 (b : Bool) : (Jd b).size ≤ 5 := by rw [Qp7]; cases b <;> decide
theorem ClsL.clsOf {R : Rel} {n b : Nat} {c : List Int} (h : ClsL R n c) (hn : n ≤ b) : ClsOf c n b := by
 refine ⟨h.1, fun y hy => ?_⟩
 obtain ⟨i, hi⟩ := List.mem_iff_getElem?.1 hy
 have hin : i < n := by have := (List.getElem?_eq_some_iff.1 hi).1; rw [h.1] at this; exact this
 obtain ⟨k, h1, h2⟩ := h.2 i hin
 rw [hi] at h1; cases h1
 have := Qnv hin h2
 have := Qph R n
 exact ⟨k, Z, by omega⟩
theorem Qky {x : System} (hv : VSys x) (hs : x.States ≤ 100) (hl : x.Costs.length ≤ 100) : Ok (JK x) fun r => r.2 = none ∧ IsBis (Qb7 x hv) r.1 := by
 unfold JK
 have s1 := hv.s1
 have hg := hv.g
 simp only [tV, Qdr.2 hv, Option.bind_some, Bool.not_true, Bool.false_eq_true, if_false]
 obtain ⟨n, hn⟩ : ∃ n : Nat, x.States = (n : Int) := ⟨x.States.toNat, by omega⟩
 have hnt : x.States.toNat = n := by omega
 have hXn : (Qb7 x hv).n = n := hnt
 have hmk : mk 16 (⟨#[]⟩ : ByteArray) x.States = some (List.replicate n ⟨#[]⟩) := by rw [hn]; exact QbS (by omega) (by omega)
 refine Ok.step hmk (Ok.bind ?_)
 refine QQ (fun m (T : List ByteArray) => T.length = n ∧ ∀ j, j < m → T[j]? = some (Jd (x.Goals[j]?.getD false))) ⟨by simp, fun j h => absurd h (Nat.not_lt_zero _)⟩ ?_ ?_
 ·rintro m T hm ⟨hT, hd⟩
  obtain ⟨g, hgm⟩ := JP hm
  obtain ⟨y, hy⟩ := JP (show m < T.length by omega)
  simp only [Qo, hgm, hy, Option.bind_some]
  refine Ok.step (QW (by omega)) (Ok.ret ⟨by simp [hT], fun j hj => ?_⟩)
  by_cases e : j = m
  ·subst e; rw [List.getElem?_set_self (by omega), hgm]; rfl
  ·rw [List.getElem?_set_ne (Ne.symm e)]; exact hd j (by omega)
 ·rintro T ⟨hT, hd⟩
  have hgl : x.Goals.length = n := by omega
  rw [hgl] at hd
  have hsz : ∀ s ∈ T, s.size ≤ 100000000 := by
   intro s hs'
   obtain ⟨j, hj⟩ := List.mem_iff_getElem?.1 hs'
   have hjn : j < n := by have := (List.getElem?_eq_some_iff.1 hj).1; omega
   rw [hd j hjn] at hj; cases hj
   have := Qm5 (x.Goals[j]?.getD false)
   omega
  refine Ok.bind ((Qg9 T (by omega) hsz).mono ?_)
  rintro ⟨c, k⟩ ⟨h1, h2⟩
  simp only at h1 h2
  rw [hT] at h1 h2
  have hgoal : ∀ i j, i < n → j < n → (eqL T i j ↔ QjY (Qb7 x hv) i j) := by
   intro i j hi hj
   unfold eqL QjY
   rw [hd i hi, hd j hj]
   exact ⟨fun e => QnZ (Zu e), fun e => by rw [show x.Goals[i]?.getD false = x.Goals[j]?.getD false from e]⟩
  obtain ⟨e1, e2⟩ := (h1.congr hgoal).eqL (by have := Qm1 (Qb7 x hv); rw [hXn] at this; exact this)
  have hI : BisI (Qb7 x hv) c := by
   refine ⟨?_, ?_, by rw [hXn]; exact e2⟩
   ·rw [hXn]; exact fun i j hi hj q => (e1 i j hi hj).2 q
   ·intro S hS
    have := hS.goal
    rw [hXn] at this ⊢
    exact fun i j hi hj q => (e1 i j hi hj).1 (this i j hi hj q)
  have hk : k = (rnk (eqL c) n : Int) := by
   rw [h2, Qc0 (fun i j hi hj => (hgoal i j hi hj).trans (e1 i j hi hj)) (Nat.le_refl _)]
  simp only [QI]
  refine Yu (fun s : List Int × Int => BisI (Qb7 x hv) s.1 ∧ s.2 = (rnk (eqL s.1) n : Int)) (fun _ => False) (fun r => r.2 = none ∧ IsBis (Qb7 x hv) r.1) (fun s => n - s.2.toNat) ⟨hI, hk⟩ ?_ (fun r h => Ok.ret h) (fun _ h => h.elim)
  rintro ⟨c, k⟩ ⟨hI, hk⟩
  simp only at hI hk
  subst hk
  have hcl := hI.cls
  rw [hXn] at hcl
  simp only
  refine (Ok.bind ((Qmq hv hs hl (by rw [hnt]; exact hcl.clsOf (by omega))).mono ?_)).mono fun c hc => hc
  rintro ⟨d, k⟩ ⟨h3, h4⟩
  simp only at h3 h4
  rw [hnt] at h4
  have h3' : ClsL ((eqL c).and (sig (Qb7 x hv) (eqL c))) (Qb7 x hv).n d := h3
  have hE : Eqv (Qb7 x hv).n ((eqL c).and (sig (Qb7 x hv) (eqL c))) := (YV c _).and (QgX (YV c _))
  obtain ⟨e3, e4⟩ := h3'.eqL hE
  rw [hXn] at e3
  rw [Qc0 e3 (Nat.le_refl _)] at h4
  have hle := QkK h3'
  rw [hXn] at hle
  have hle2 := Qph (eqL d) n
  simp only [QI]
  subst h4
  by_cases hkk : ((rnk (eqL d) n : Nat) : Int) = ((rnk (eqL c) n : Nat) : Int)
  ·rw [if_pos (by simpa using hkk)]
   refine ⟨_, Z, fun s' e => (by cases e), fun s' e => (by cases e), fun r e => ?_⟩
   cases e
   have hst : rnk (eqL c) (Qb7 x hv).n = rnk (eqL d) (Qb7 x hv).n := by rw [hXn]; omega
   exact ⟨Z, hI.stop h3' hst⟩
  ·rw [if_neg (by simpa using hkk)]
   refine ⟨_, Z, fun s' e => ?_, fun s' e => (by cases e), fun r e => (by cases e)⟩
   cases e
   exact ⟨⟨hI.next h3', Z⟩, by simp only; omega⟩
end Go.Pw
/- -/
set_option maxHeartbeats 4000000
set_option maxRecDepth 100000
namespace Go.Pw
/-! ### classes and their number -/
structure KOK (c : List Int) (n K : Nat) : Prop where
 len : c.length = n
 rng : ∀ i, i < n → ∃ k : Nat, k < K ∧ c[i]? = some (k : Int)
 onto : ∀ b, b < K → ∃ i, i < n ∧ c[i]? = some (b : Int)
 le : K ≤ n
theorem Qkg (R : Rel) : ∀ n b, b < rnk R n → ∃ r, r < n ∧ Yp R r ∧ rnk R r = b
 | 0, b, h => by simp [rnk] at h
 | n + 1, b, h => by
  by_cases hb : b < rnk R n
  ·obtain ⟨r, h1, h2, h3⟩ := Qkg R n b hb
   exact ⟨r, by omega, h2, h3⟩
  ·rw [Qds] at h
   by_cases hr : Yp R n
   ·simp only [hr, if_true] at h
    exact ⟨n, by omega, hr, by omega⟩
   ·simp only [hr, if_false] at h; omega
theorem ClsL.kok {R : Rel} {n : Nat} {c : List Int} (hE : Eqv n R) (h : ClsL R n c) : KOK c n (rnk R n) := by
 refine ⟨h.1, fun i hi => ?_, fun b hb => ?_, rnk_le R n⟩
 ·obtain ⟨k, h1, h2⟩ := h.2 i hi
  exact ⟨k, Qnv hi h2, h1⟩
 ·obtain ⟨r, h1, h2, h3⟩ := Qkg R n b hb
  obtain ⟨k, h4, h5⟩ := h.2 r h1
  have := Qf8 hE h1 h5 ⟨r, Nat.le_refl _, hE.refl r h1, h2, rfl⟩
  exact ⟨r, h1, by rw [h4, this, h3]⟩
theorem Qno {c : List Int} {n K : Nat} (h : KOK c n K) (hn : 0 < n) (hn2 : n ≤ 4000000) : Js c = some ((K : Int) - 1) := by
 unfold Js
 have hl := h.len
 rw [if_neg (by simp; omega)]
 obtain ⟨k0, hk0, h0⟩ := h.rng 0 hn
 have hle := h.le
 simp only [Option.bind_some, show ((0 : Int)) = ((0 : Nat) : Int) from rfl, Qo, h0]
 have hfirst : ∀ (j : Nat) (k : Int), j < 1 → c[j]? = some k → k ≤ (k0 : Int) := by
  intro j k hj hk
  have : j = 0 := by omega
  subst this
  rw [h0] at hk
  cases hk
  omega
 refine Ok.eq (Yu (fun s : Int × Int => ∃ i : Nat, s.2 = (i : Int) ∧ 1 ≤ i ∧ i ≤ n ∧ (∃ j, j < i ∧ c[j]? = some s.1) ∧ ∀ j k, j < i → c[j]? = some k → k ≤ s.1) (fun s => (∃ j, j < n ∧ c[j]? = some s.1) ∧ ∀ j k, j < n → c[j]? = some k → k ≤ s.1) (fun _ => False) (fun s => n - s.2.toNat)
  ⟨1, rfl, Nat.le_refl _, hn, ⟨0, by omega, h0⟩, hfirst⟩ ?_ (fun _ h => h.elim) ?_)
 ·rintro ⟨m, i'⟩ ⟨i, e, h1, h2, ⟨j0, hj0, hj1⟩, h4⟩
  simp only at e hj1 h4
  subst e
  simp only [QI]
  by_cases hlt : (i : Int) < (c.length : Int)
  ·obtain ⟨k, hk, hki⟩ := h.rng i (by omega)
   simp only [hlt, decide_true, if_true, Qo, hki, Option.bind_some]
   rw [QD (by omega) (by omega)]
   refine ⟨_, Z, fun s' e => ?_, fun s' e => (by cases e), fun r e => (by cases e)⟩
   cases e
   refine ⟨⟨i + 1, by simp, by omega, by omega, ?_, ?_⟩, by simp only; omega⟩
   ·by_cases hm : m ≤ (k : Int)
    ·exact ⟨i, by omega, by rw [hki]; simp only; rw [Int.max_eq_right hm]⟩
    ·exact ⟨j0, by omega, by rw [hj1]; simp only; rw [Int.max_eq_left (by omega)]⟩
   ·intro j k' hj hk'
    simp only
    by_cases e : j = i
    ·subst e; rw [hki] at hk'; cases hk'; omega
    ·have := h4 j k' (by omega) hk'; omega
  ·simp only [hlt, decide_false, Bool.false_eq_true, if_false]
   refine ⟨_, Z, fun s' e => (by cases e), fun s' e => ?_, fun r e => (by cases e)⟩
   cases e
   have : i = n := by omega
   subst this
   exact ⟨⟨j0, hj0, hj1⟩, h4⟩
 ·rintro ⟨m, i⟩ ⟨⟨j, h1, h2⟩, h3⟩
  simp only at h2 h3
  simp only [QI]
  refine Ok.ret ?_
  obtain ⟨k, hk, hkj⟩ := h.rng j h1
  rw [hkj] at h2; cases h2
  obtain ⟨q, hq, hqq⟩ := h.onto (K - 1) (by omega)
  have := h3 q _ hq hqq
  omega
/-! ### goals of classes, the pair to be joined -/
open Classical in
noncomputable def QbA (x : System) (c : List Int) (b : Nat) : Bool := decide (∃ i : Nat, c[i]? = some (b : Int) ∧ x.Goals[i]? = some true)
theorem KW {x : System} {c : List Int} {b : Nat} : QbA x c b = true ↔ ∃ i : Nat, c[i]? = some (b : Int) ∧ x.Goals[i]? = some true := by unfold QbA; simp
def Qla (g : Nat → Bool) (K i k : Nat) : Prop := i < k ∧ k < K ∧ g i = g k ∧ ∀ a b, a < b → b < K → g a = g b → b ≤ k ∧ (b = k → a ≤ i)
def PickOr (g : Nat → Bool) (K i k : Nat) : Prop := Qla g K i k ∨ ((∀ a b, a < b → b < K → g a ≠ g b) ∧ i = 0 ∧ k = 1)
theorem PickOr.uniq {g : Nat → Bool} {K i k i' k' : Nat} (h : PickOr g K i k) (h' : PickOr g K i' k') : i = i' ∧ k = k' := by
 rcases h with ⟨a1, a2, a3, a4⟩ | ⟨a1, rfl, rfl⟩
 ·rcases h' with ⟨b1, b2, b3, b4⟩ | ⟨b1, rfl, rfl⟩
  ·have h1 := a4 i' k' b1 b2 b3
   have h2 := b4 i k a1 a2 a3
   have : k = k' := by omega
   subst this
   exact ⟨by have := h1.2 Z; have := h2.2 Z; omega, Z⟩
  ·exact absurd a3 (b1 i k a1 a2)
 ·rcases h' with ⟨b1, b2, b3, b4⟩ | ⟨b1, rfl, rfl⟩
  ·exact absurd b3 (a1 i' k' b1 b2)
  ·exact ⟨Z, Z⟩
theorem PickOr.lt {g : Nat → Bool} {K i k : Nat} (h : PickOr g K i k) (hK : 2 ≤ K) : i < k ∧ k < K := by
 rcases h with ⟨a1, a2, _⟩ | ⟨_, rfl, rfl⟩
 ·exact ⟨a1, a2⟩
 ·omega
theorem PickOr.same {g : Nat → Bool} {K i k : Nat} (h : PickOr g K i k) (hK : 3 ≤ K) : g i = g k := by
 rcases h with ⟨_, _, a3, _⟩ | ⟨h, rfl, rfl⟩
 ·exact a3
 ·have h1 := h 0 1 (by omega) (by omega)
  have h2 := h 0 2 (by omega) (by omega)
  have h3 := h 1 2 (by omega) (by omega)
  revert h1 h2 h3
  cases g 0 <;> cases g 1 <;> cases g 2 <;> simp
theorem QlG {goals : List Bool} {K : Nat} {g : Nat → Bool} (hl : goals.length = K) (hg : ∀ b, b < K → goals[b]? = some (g b)) (hK : 2 ≤ K) (hK2 : K ≤ 4000000) : Ok (YG goals) fun r => ∃ i k : Nat, r = ((i : Int), (k : Int)) ∧ PickOr g K i k := by
 unfold YG
 have hw0 : IntKind.i64.wrap ((goals.length : Int) - 1) = ((K - 1 : Nat) : Int) := by rw [QD (by omega) (by omega)]; omega
 rw [hw0]
 refine Yu (fun k : Int => ∃ q : Nat, k = (q : Int) ∧ q < K ∧ ∀ a b, a < b → b < K → q < b → g a ≠ g b) (fun _ => ∀ a b, a < b → b < K → g a ≠ g b) (fun r => ∃ i k : Nat, r = ((i : Int), (k : Int)) ∧ Qla g K i k) (fun k => k.toNat) ⟨K - 1, Z, by omega, fun a b _ hb h => by omega⟩ ?_ ?_ ?_
 ·rintro k ⟨q, rfl, hq, hno⟩
  by_cases h0 : (0 : Int) < (q : Int)
  ·simp only [h0, decide_true, if_true]
   have hw1 : IntKind.i64.wrap ((q : Int) - 1) = ((q - 1 : Nat) : Int) := by rw [QD (by omega) (by omega)]; omega
   rw [hw1]
   refine (Yu (fun i : Int => ∃ p : Nat, i = (p : Int) - 1 ∧ p ≤ q ∧ ∀ a, p ≤ a → a < q → g a ≠ g q) (fun _ => ∀ a, a < q → g a ≠ g q) (fun r => ∃ i k : Nat, r = ((i : Int), (k : Int)) ∧ Qla g K i k) (fun i => (i + 1).toNat) ⟨q, by omega, Nat.le_refl _, fun a h1 h2 => by omega⟩ ?_ ?_ ?_).mono fun c hc => hc
   ·rintro i ⟨p, rfl, hp, hno2⟩
    by_cases h1 : (0 : Int) ≤ (p : Int) - 1
    ·simp only [h1, decide_true, if_true]
     have e1 : (p : Int) - 1 = ((p - 1 : Nat) : Int) := by omega
     have e2 : IntKind.i64.wrap (((p - 1 : Nat) : Int) - 1) = ((p - 1 : Nat) : Int) - 1 := QD (by omega) (by omega)
     rw [e1]
     simp only [Qo, hg (p - 1) (by omega), hg q hq, Option.bind_some, e2]
     by_cases e : g (p - 1) = g q
     ·simp only [e, beq_self_eq_true, if_true]
      refine ⟨_, Z, fun s' e => (by cases e), fun s' e => (by cases e), fun r e' => ?_⟩
      cases e'
      refine ⟨p - 1, q, Z, by omega, hq, e, fun a b hab hb hgab => ⟨?_, fun hbq => ?_⟩⟩
      ·rcases Nat.lt_or_ge q b with h | h
       ·exact absurd hgab (hno a b hab hb h)
       ·exact h
      ·subst hbq
       rcases Nat.lt_or_ge (p - 1) a with h | h
       ·exact absurd hgab (hno2 a (by omega) hab)
       ·exact h
     ·have hne : (g (p - 1) == g q) = false := by simpa using e
      simp only [hne, Bool.false_eq_true, if_false]
      refine ⟨_, Z, fun s' e' => ?_, fun s' e => (by cases e), fun r e => (by cases e)⟩
      cases e'
      refine ⟨⟨p - 1, Z, by omega, fun a h2 h3 => ?_⟩, by omega⟩
      by_cases ea : a = p - 1
      ·subst ea; exact e
      ·exact hno2 a (by omega) h3
    ·simp only [h1, decide_false, Bool.false_eq_true, if_false]
     refine ⟨_, Z, fun s' e => (by cases e), fun s' e => ?_, fun r e => (by cases e)⟩
     have : p = 0 := by omega
     subst this
     exact fun a ha => hno2 a (by omega) ha
   ·rintro r hr
    refine ⟨_, Z, fun s' e => (by cases e), fun s' e => (by cases e), fun r' e => ?_⟩
    cases e
    exact hr
   ·rintro _ hno2
    refine ⟨_, Z, fun s' e => ?_, fun s' e => (by cases e), fun r e => (by cases e)⟩
    cases e
    refine ⟨⟨q - 1, Z, by omega, fun a b hab hb hqb => ?_⟩, by omega⟩
    by_cases e : b = q
    ·subst e; exact hno2 a hab
    ·exact hno a b hab hb (by omega)
  ·simp only [h0, decide_false, Bool.false_eq_true, if_false]
   refine ⟨_, Z, fun s' e => (by cases e), fun s' e => ?_, fun r e => (by cases e)⟩
   exact fun a b hab hb => hno a b hab hb (by omega)
 ·rintro r ⟨i, k, rfl, h⟩
  exact Ok.ret ⟨i, k, Z, .inl h⟩
 ·rintro _ h
  exact Ok.ret ⟨0, 1, Z, .inr ⟨h, Z, Z⟩⟩
/-! ### joining -/
def Qb9 (i k : Nat) (v : Int) : Int := if v = (k : Int) then (i : Int) else if (k : Int) < v then v - 1 else v
noncomputable def pk (x : System) (c : List Int) (K : Nat) : Nat × Nat := Classical.epsilon fun p : Nat × Nat => PickOr (QbA x c) K p.1 p.2
theorem Qpj {x : System} {c : List Int} {K i k : Nat} (h : PickOr (QbA x c) K i k) : pk x c K = (i, k) := by
 have h1 : PickOr (QbA x c) K (pk x c K).1 (pk x c K).2 := Classical.epsilon_spec (p := fun p : Nat × Nat => PickOr (QbA x c) K p.1 p.2) ⟨(i, k), h⟩
 obtain ⟨e1, e2⟩ := h1.uniq h
 exact Prod.ext e1 e2
noncomputable def Ql2 (x : System) (c : List Int) (K : Nat) : List Int := c.map (Qb9 (pk x c K).1 (pk x c K).2)
noncomputable def itM (x : System) : Nat → List Int → Nat → List Int
 | 0, c, _ => c
 | j + 1, c, K => itM x j (Ql2 x c K) (K - 1)
theorem KOK.join {c : List Int} {n K i k : Nat} (h : KOK c n K) (hik : i < k) (hk : k < K) : KOK (c.map (Qb9 i k)) n (K - 1) := by
 refine ⟨by rw [List.length_map, h.len], fun q hq => ?_, fun b hb => ?_, by have := h.le; omega⟩
 ·obtain ⟨v, hv, hvq⟩ := h.rng q hq
  rw [List.getElem?_map, hvq]
  simp only [Option.map_some, Qb9]
  by_cases e : (v : Int) = (k : Int)
  ·rw [if_pos e]; exact ⟨i, by omega, rfl⟩
  ·rw [if_neg e]
   by_cases h2 : (k : Int) < (v : Int)
   ·rw [if_pos h2]; exact ⟨v - 1, by omega, by congr 1; omega⟩
   ·rw [if_neg h2]; exact ⟨v, by omega, rfl⟩
 ·by_cases hbk : b < k
  ·obtain ⟨q, hq, hqb⟩ := h.onto b (by omega)
   refine ⟨q, hq, ?_⟩
   rw [List.getElem?_map, hqb]
   simp only [Option.map_some, Qb9]
   rw [if_neg (by omega), if_neg (by omega)]
  ·obtain ⟨q, hq, hqb⟩ := h.onto (b + 1) (by omega)
   refine ⟨q, hq, ?_⟩
   rw [List.getElem?_map, hqb]
   simp only [Option.map_some, Qb9]
   rw [if_neg (by omega), if_pos (by omega)]
   congr 1; omega
theorem Qlm {x : System} {c : List Int} {n K i k : Nat} (h : KOK c n K) (hik : i < k) (hk : k < K) (hg : QbA x c i = QbA x c k) {b : Nat} (hb : b < K - 1) : QbA x (c.map (Qb9 i k)) b = if b < k then QbA x c b else QbA x c (b + 1) := by
 have key : ∀ q v : Nat, c[q]? = some (v : Int) → (c.map (Qb9 i k))[q]? = some (Qb9 i k (v : Int)) := fun q v hq => by rw [List.getElem?_map, hq]; rfl
 have back : ∀ q : Nat, (c.map (Qb9 i k))[q]? = some (b : Int) → ∃ v : Nat, c[q]? = some (v : Int) ∧ Qb9 i k (v : Int) = (b : Int) := by
  intro q hq
  have hqn : q < n := by have := (List.getElem?_eq_some_iff.1 hq).1; rw [List.length_map, h.len] at this; exact this
  obtain ⟨v, _, hv⟩ := h.rng q hqn
  rw [key q v hv] at hq
  exact ⟨v, hv, Zu hq⟩
 rw [Bool.eq_iff_iff]
 constructor
 ·intro h1
  obtain ⟨q, h2, h3⟩ := KW.1 h1
  obtain ⟨v, hv, e⟩ := back q h2
  unfold Qb9 at e
  by_cases e1 : (v : Int) = (k : Int)
  ·rw [if_pos e1] at e
   have hbi : b = i := by omega
   subst hbi
   rw [if_pos hik, hg]
   exact KW.2 ⟨q, by rw [hv, e1], h3⟩
  ·rw [if_neg e1] at e
   by_cases e2 : (k : Int) < (v : Int)
   ·rw [if_pos e2] at e
    rw [if_neg (by omega)]
    exact KW.2 ⟨q, by rw [hv]; congr 1; omega, h3⟩
   ·rw [if_neg e2] at e
    rw [if_pos (by omega)]
    exact KW.2 ⟨q, by rw [hv]; congr 1, h3⟩
 ·intro h1
  by_cases hbk : b < k
  ·rw [if_pos hbk] at h1
   obtain ⟨q, h2, h3⟩ := KW.1 h1
   refine KW.2 ⟨q, ?_, h3⟩
   rw [key q b h2]
   unfold Qb9
   rw [if_neg (by omega), if_neg (by omega)]
  ·rw [if_neg hbk] at h1
   obtain ⟨q, h2, h3⟩ := KW.1 h1
   refine KW.2 ⟨q, ?_, h3⟩
   rw [key q (b + 1) h2]
   unfold Qb9
   rw [if_neg (by omega), if_pos (by omega)]
   congr 1; omega
theorem QnT {x : System} {c : List Int} {K m i k : Nat} (h : m < K) (hp : PickOr (QbA x c) K i k) : itM x (K - m) c K = itM x (K - 1 - m) (c.map (Qb9 i k)) (K - 1) := by
 obtain ⟨d, hd⟩ : ∃ d, K - m = d + 1 := ⟨K - m - 1, by omega⟩
 have : K - 1 - m = d := by omega
 rw [hd, this]
 simp only [itM, Ql2, Qpj hp]
theorem Qmy {c : List Int} {n K : Nat} (h : KOK c n K) (hn : n ≤ 4000000) {B : Nat → List Int → Option (List Int)} {i k : Nat}
  (hB : ∀ m l v, m < n → l.length = n → l[m]? = some ((v : Nat) : Int) → v < K → Ok (B m l) fun l' => l' = l.set m (Qb9 i k (v : Int))) : forS B c.length 0 c = some (c.map (Qb9 i k)) := by
 refine Ok.eq (QQ (fun m l => l.length = n ∧ (∀ j, j < m → l[j]? = (c.map (Qb9 i k))[j]?) ∧ ∀ j, m ≤ j → l[j]? = c[j]?) ⟨h.len, fun j h => absurd h (Nat.not_lt_zero _), fun j _ => rfl⟩ ?_ ?_)
 ·rintro m l hm ⟨h1, h2, h3⟩
  rw [h.len] at hm
  obtain ⟨v, hv, hvm⟩ := h.rng m hm
  refine (hB m l v hm h1 (by rw [h3 m (Nat.le_refl _)]; exact hvm) hv).mono ?_
  rintro l' rfl
  refine ⟨by simp [h1], fun j hj => ?_, fun j hj => by rw [List.getElem?_set_ne (by omega)]; exact h3 j (by omega)⟩
  by_cases e : j = m
  ·subst e
   rw [List.getElem?_set_self (by omega), List.getElem?_map, hvm]; rfl
  ·rw [List.getElem?_set_ne (Ne.symm e)]; exact h2 j (by omega)
 ·rintro l ⟨h1, h2, h3⟩
  apply List.ext_getElem?
  intro j
  by_cases hj : j < c.length
  ·exact h2 j hj
  ·rw [List.getElem?_eq_none (by rw [h1, ← h.len]; omega), List.getElem?_eq_none (by rw [List.length_map]; omega)]
theorem Qkp (most : Int) : ∃ m : Nat, max 1 (min most 4096) = (m : Int) ∧ 1 ≤ m := ⟨(max 1 (min most 4096)).toNat, by omega, by omega⟩
theorem IsBis.kok {X : TS} {c : List Int} (h : IsBis X c) : KOK c X.n (rnk (eqL c) X.n) := h.2.2.kok (YV c _)
theorem QnO {x : System} (hv : VSys x) (hs : x.States ≤ 100) (hl : x.Costs.length ≤ 100) (most : Int) : Ok (Qaf x most) fun r => r.2 = none ∧ ∃ c0, IsBis (Qb7 x hv) c0 ∧ r.1 = itM x (rnk (eqL c0) x.States.toNat - (max 1 (min most 4096)).toNat) c0 (rnk (eqL c0) x.States.toNat) := by
 unfold Qaf
 refine Ok.bind ((Qky hv hs hl).mono ?_)
 rintro ⟨c, e⟩ ⟨h1, hb⟩
 simp only at h1 hb
 subst h1
 have s1 := hv.s1
 have hg := hv.g
 obtain ⟨m, hm, hm1⟩ := Qkp most
 have hK := hb.kok
 have hXn : (Qb7 x hv).n = x.States.toNat := rfl
 rw [hXn] at hK
 generalize hKd : rnk (eqL c) x.States.toNat = K at hK
 have hle := hK.le
 have hK1 : 1 ≤ K := by obtain ⟨k, h, _⟩ := hK.rng 0 (by omega); omega
 simp only [QI, Option.isSome_none, Bool.false_eq_true, if_false]
 rw [Qno hK (by omega) (by omega)]
 simp only [Option.bind_some, hm]
 have hw : IntKind.i64.wrap ((K : Int) - 1 + 1) = (K : Int) := by rw [QD (by omega) (by omega)]; omega
 rw [hw]
 refine Ok.step (QbS (by omega) (by omega)) (Ok.bind ?_)
 have hgc : ∀ i j k, i < x.States.toNat → j < x.States.toNat → c[i]? = some k → c[j]? = some k → x.Goals[i]?.getD false = x.Goals[j]?.getD false := fun i j k hi hj h1 h2 => hb.1.goal i j hi hj (show c[i]? = c[j]? by rw [h1, h2])
 refine QQ (fun q (g : List Bool) => g.length = K ∧ ∀ (i k : Nat), i < q → c[i]? = some (k : Int) → g[k]? = some (x.Goals[i]?.getD false)) ⟨by simp, fun i k h => absurd h (Nat.not_lt_zero _)⟩ ?_ ?_
 ·rintro q g hq ⟨h1, h2⟩
  rw [hK.len] at hq
  obtain ⟨k, hk, hkq⟩ := hK.rng q hq
  obtain ⟨y, hy⟩ := JP (show q < x.Goals.length by omega)
  obtain ⟨z, hz⟩ := JP (show k < g.length by omega)
  simp only [Qo, hkq, hy, hz, Option.bind_some]
  refine Ok.step (QW (by omega)) (Ok.ret ⟨by simp [h1], fun i k' hi hik => ?_⟩)
  by_cases ek : k' = k
  ·subst ek
   rw [List.getElem?_set_self (by omega)]
   by_cases ei : i = q
   ·subst ei; rw [hy]; rfl
   ·rw [hgc i q _ (by omega) hq hik hkq, hy]; rfl
  ·rw [List.getElem?_set_ne (Ne.symm ek)]
   by_cases ei : i = q
   ·subst ei; rw [hkq] at hik; simp at hik; omega
   ·exact h2 i k' (by omega) hik
 ·rintro g ⟨h1, h2⟩
  rw [hK.len] at h2
  have hg0 : ∀ b, b < K → g[b]? = some (QbA x c b) := by
   intro b hbK
   obtain ⟨i, hi, hib⟩ := hK.onto b hbK
   rw [h2 i b hi hib]
   congr 1
   rw [Bool.eq_iff_iff, KW]
   constructor
   ·intro h
    obtain ⟨y, hy⟩ := JP (show i < x.Goals.length by omega)
    rw [hy] at h
    simp at h
    exact ⟨i, hib, by rw [hy, h]⟩
   ·rintro ⟨j, hj1, hj2⟩
    have hjn : j < x.States.toNat := by have := (List.getElem?_eq_some_iff.1 hj1).1; rw [hK.len] at this; exact this
    rw [hgc i j _ hi hjn hib hj1, hj2]; rfl
  rw [show ((m : Int)).toNat = m by omega]
  refine Yu (fun s : List Int × List Bool => ∃ L : Nat, s.2.length = L ∧ KOK s.1 x.States.toNat L ∧ 1 ≤ L ∧ (2 ≤ L → ∀ b, b < L → s.2[b]? = some (QbA x s.1 b)) ∧ itM x (L - m) s.1 L = itM x (K - m) c K) (fun s => s.1 = itM x (K - m) c K) (fun _ => False) (fun s => s.2.length) ⟨K, h1, hK, hK1, fun _ => hg0, Z⟩ ?_ (fun _ h => h.elim) ?_
  ·rintro ⟨l, g⟩ ⟨L, h1, h2, hL1, h3, h4⟩
   simp only at h1 h2 h3 h4
   have hLn := h2.le
   simp only [QI]
   by_cases hlt : (m : Int) < (g.length : Int)
   ·simp only [hlt, decide_true, if_true]
    refine Ok.bind ((QlG h1 (h3 (by omega)) (by omega) (by omega)).mono ?_)
    rintro ⟨i', k'⟩ ⟨i, k, e, hp⟩
    cases e
    obtain ⟨hik, hkL⟩ := hp.lt (by omega)
    simp only [QI]
    rw [Qmy h2 (by omega) (i := i) (k := k) ?_]
    ·have hw2 : IntKind.i64.wrap ((k : Int) + 1) = ((k + 1 : Nat) : Int) := by rw [QD (by omega) (by omega)]; omega
     simp only [Option.bind_some, hw2]
     have hdel : Qho g (k : Int) ((k + 1 : Nat) : Int) = some (g.take k ++ g.drop (k + 1)) := by
      unfold Qho; rw [if_pos (by omega)]; rfl
     rw [hdel]
     have hlen : (g.take k ++ g.drop (k + 1)).length = L - 1 := by simp; omega
     simp only [Option.bind_some]
     refine ⟨_, Z, fun s' e => ?_, fun s' e => (by cases e), fun r e => (by cases e)⟩
     cases e
     refine ⟨⟨L - 1, hlen, h2.join hik hkL, by omega, fun h b hbL => ?_, ?_⟩, by simp only; omega⟩
     ·rw [Qlm h2 hik hkL (hp.same (by omega)) hbL]
      simp only
      by_cases hbk : b < k
      ·rw [if_pos hbk, List.getElem?_append_left (by simp; omega), List.getElem?_take_of_lt hbk]
       exact h3 (by omega) b (by omega)
      ·rw [if_neg hbk, List.getElem?_append_right (by simp; omega), List.getElem?_drop]
       have : k + 1 + (b - (g.take k).length) = b + 1 := by simp; omega
       rw [this]
       exact h3 (by omega) (b + 1) (by omega)
     ·rw [← h4, QnT (by omega) hp]
    ·intro q l' v hq hl' hv' hvL
     simp only [Qo, hv', Option.bind_some]
     unfold Qb9
     by_cases e1 : (v : Int) = (k : Int)
     ·have n1 : ¬ (k : Int) < (v : Int) := by omega
      simp only [e1, decide_true, if_true]
      rw [QW (by omega)]
      simp only [Option.bind_some]
      rw [if_neg (by simp)]
      exact Ok.ret Z
     ·simp only [e1, decide_false, Bool.false_eq_true, if_false, Option.bind_some]
      by_cases e2 : (k : Int) < (v : Int)
      ·simp only [e2, decide_true, if_true, hv', Option.bind_some]
       rw [QW (by omega), QD (by omega) (by omega)]
       exact Ok.ret Z
      ·simp only [e2, decide_false, Bool.false_eq_true, if_false, Option.bind_some]
       refine Ok.ret ?_
       apply List.ext_getElem?
       intro j
       by_cases ej : j = q
       ·subst ej; rw [List.getElem?_set_self (by omega), hv']
       ·rw [List.getElem?_set_ne (Ne.symm ej)]
   ·simp only [hlt, decide_false, Bool.false_eq_true, if_false]
    refine ⟨_, Z, fun s' e => (by cases e), fun s' e => ?_, fun r e => (by cases e)⟩
    cases e
    have : L - m = 0 := by omega
    rw [this] at h4
    exact h4
  ·rintro ⟨l, g⟩ h
   simp only at h
   simp only [QI]
   exact Ok.ret ⟨Z, c, hb, by rw [hKd]; exact h⟩
end Go.Pw
/- -/
set_option maxHeartbeats 4000000
set_option maxRecDepth 100000
namespace Go.Pw
/-! ### which lists are classes -/
theorem Qoh {α : Type} {l : List α} {m : Nat} (h : m ≤ l.length) : cut l 0 (m : Int) = some (l.take m) := by
 unfold cut
 rw [if_pos (by omega)]
 simp
theorem Qlr {c : List Int} {n : Nat} (hn : n ≤ 1000000) (hl : c.length = n) : Ok (Kn c (n : Int)) fun r => (∃ K : Nat, KOK c n K ∧ r = ((K : Int), true)) ∨ ((¬ ∃ K, KOK c n K) ∧ r.2 = false) := by
 unfold Kn
 rw [if_neg (by simp [hl])]
 refine Ok.step (QbS (by omega) (by omega)) ?_
 refine Ok.ctl (fun i (s : Int × List Bool) => s.2.length = n ∧ (∀ j, j < i → ∃ k : Nat, c[j]? = some (k : Int) ∧ (k : Int) < s.1) ∧ (∃ M : Nat, s.1 = (M : Int) ∧ M ≤ n ∧ (M = 0 ∨ ∃ j, j < i ∧ c[j]? = some ((M : Int) - 1))) ∧ ∀ b : Nat, s.2[b]? = some true ↔ b < n ∧ ∃ j, j < i ∧ c[j]? = some (b : Int)) (fun r => r = (0, false) ∧ ¬ ∃ K, KOK c n K) ⟨by simp, fun j h => absurd h (Nat.not_lt_zero _), ⟨0, Z, Nat.zero_le _, .inl Z⟩, fun b => ?_⟩ ?_ ?_ ?_
 ·simp [List.getElem?_replicate]
 ·rintro i ⟨m, l⟩ hi ⟨h1, h2, ⟨M, h3, h4, h5⟩, h6⟩
  simp only at h1 h2 h3 h5 h6
  subst h3
  obtain ⟨v, hv⟩ := JP hi
  simp only [QI, Qo, hv, Option.bind_some]
  by_cases hb : v < 0 ∨ (n : Int) ≤ v
  ·rw [if_pos (by simpa using hb)]
   refine Ok.ret ⟨Z, ?_⟩
   rintro ⟨K, hK⟩
   obtain ⟨k, hk, hki⟩ := hK.rng i (by omega)
   rw [hv] at hki
   have := hK.le
   cases hki
   omega
  ·rw [if_neg (by simpa using hb)]
   obtain ⟨k, rfl⟩ : ∃ k : Nat, v = (k : Int) := ⟨v.toNat, by omega⟩
   obtain ⟨y, hy⟩ := JP (show k < l.length by omega)
   simp only [Qo, hy, Option.bind_some]
   rw [QW (by omega), QD (by omega) (by omega)]
   refine Ok.ret ⟨by simp [h1], fun j hj => ?_, ?_, fun b => ?_⟩
   ·by_cases e : j = i
    ·subst e; exact ⟨k, hv, by simp only; omega⟩
    ·obtain ⟨q, hq1, hq2⟩ := h2 j (by omega); exact ⟨q, hq1, by simp only; omega⟩
   ·by_cases hM : (M : Int) ≤ (k : Int) + 1
    ·exact ⟨k + 1, by simp only; rw [Int.max_eq_right hM]; rfl, by omega, .inr ⟨i, by omega, by rw [hv]; congr 1; omega⟩⟩
    ·refine ⟨M, by simp only; rw [Int.max_eq_left (by omega)], h4, ?_⟩
     rcases h5 with h5 | ⟨j, hj, hj2⟩
     ·exact .inl h5
     ·exact .inr ⟨j, by omega, hj2⟩
   ·simp only
    by_cases e : b = k
    ·subst e
     rw [List.getElem?_set_self (by omega)]
     simp only [true_iff]
     exact ⟨by omega, i, by omega, hv⟩
    ·rw [List.getElem?_set_ne (Ne.symm e), h6 b]
     constructor
     ·rintro ⟨a1, j, hj, hj2⟩; exact ⟨a1, j, by omega, hj2⟩
     ·rintro ⟨a1, j, hj, hj2⟩
      by_cases ej : j = i
      ·subst ej; rw [hv] at hj2; simp at hj2; omega
      ·exact ⟨a1, j, by omega, hj2⟩
 ·rintro r ⟨rfl, h⟩
  exact Ok.ret (.inr ⟨h, Z⟩)
 ·rintro ⟨m, l⟩ ⟨h1, h2, ⟨M, h3, h4, h5⟩, h6⟩
  simp only at h1 h2 h3 h5 h6
  rw [hl] at h2 h5 h6
  subst h3
  simp only [QI]
  rw [Qoh (by omega)]
  simp only [Option.bind_some]
  have hlt : (l.take M).length = M := by simp; omega
  rw [QdD (p := fun b => decide (l[b]? = some true)) (r := (0, false)) ?_]
  ·by_cases hall : ∀ b, b < M → l[b]? = some true
   ·rw [hlt, if_pos (List.all_eq_true.2 fun b hb => by simpa using hall b (by simpa using hb))]
    refine Ok.ret (.inl ⟨M, ⟨hl, fun i hi => ?_, fun b hb => ?_, h4⟩, Z⟩)
    ·obtain ⟨k, hk1, hk2⟩ := h2 i hi
     exact ⟨k, by omega, hk1⟩
    ·obtain ⟨_, j, hj, hj2⟩ := (h6 b).1 (hall b hb)
     exact ⟨j, hj, hj2⟩
   ·rw [hlt, if_neg ?_]
    ·refine Ok.ret (.inr ⟨?_, Z⟩)
     rintro ⟨K, hK⟩
     apply hall
     intro b hb
     have hMK : M ≤ K := by
      rcases h5 with h5 | ⟨j, hj, hj2⟩
      ·omega
      ·obtain ⟨k, hk, hkj⟩ := hK.rng j hj
       rw [hkj] at hj2; simp at hj2; omega
     obtain ⟨j, hj, hj2⟩ := hK.onto b (by omega)
     exact (h6 b).2 ⟨by omega, j, hj, hj2⟩
    ·intro h
     apply hall
     intro b hb
     have := List.all_eq_true.1 h b (by simpa using hb)
     simpa using this
  ·intro b hb
   obtain ⟨y, hy⟩ := JP (show b < l.length by omega)
   have : (l.take M)[b]? = some y := by rw [List.getElem?_take_of_lt (by omega), hy]
   simp only [Qo, this, hy, Option.bind_some, Option.some.injEq]
   cases y <;> simp
theorem KOK.uniq {c : List Int} {n K L : Nat} (h : KOK c n K) (k : KOK c n L) : K = L := by
 have key : ∀ {K L : Nat}, KOK c n K → KOK c n L → K ≤ L := by
  intro K L h k
  rcases Nat.eq_zero_or_pos K with h0 | h0
  ·omega
  ·obtain ⟨i, hi, hi2⟩ := h.onto (K - 1) (by omega)
   obtain ⟨q, hq, hq2⟩ := k.rng i hi
   rw [hi2] at hq2; simp at hq2; omega
 have := key h k; have := key k h; omega
/-! ### sorted edges, each once -/
theorem QkD (s : List Edge) : QbQ s = Qf7 (fun a b => eqs [a.From, a.Label, a.To] [b.From, b.Label, b.To]) ⟨0, 0, 0⟩ s := rfl
theorem Qod (a b : Edge) : eqs [a.From, a.Label, a.To] [b.From, b.Label, b.To] = true ↔ a = b := by
 obtain ⟨a1, a2, a3⟩ := a
 obtain ⟨b1, b2, b3⟩ := b
 simp [eqs]
theorem QnL {l : List Edge} (h : l.length ≤ 1000000) : Ok (Yx l) fun r => Srt r ∧ r.length ≤ l.length ∧ ∀ e, e ∈ r ↔ e ∈ l := by
 unfold Yx
 have hs : KE l = some (l.mergeSort fun x y => !decide (Qck y x < 0)) := by unfold KE; rw [if_pos (by omega)]
 rw [hs]
 simp only [Option.bind_some, QkD]
 have hlen : (l.mergeSort fun x y => !decide (Qck y x < 0)).length = l.length := List.length_mergeSort l
 have hp : (l.mergeSort fun x y => !decide (Qck y x < 0)).Pairwise (fun a b => ¬ EdLt b a) := by
  have : (l.mergeSort fun x y => !decide (Qck y x < 0)).Pairwise (fun x y => (!decide (Qck y x < 0)) = true) := by
   apply List.pairwise_mergeSort
   ·intro a b c h1 h2
    simp only [Bool.not_eq_true', decide_eq_false_iff_not, QdE] at *
    intro h3
    rcases Qdv a b with h | h | h
    ·exact h2 (h3.trans h)
    ·subst h; exact h2 h3
    ·exact h1 h
   ·intro a b
    simp only [Bool.or_eq_true, Bool.not_eq_true', decide_eq_false_iff_not, QdE]
    by_cases h : EdLt b a
    ·exact .inr fun h' => QaZ _ (h.trans h')
    ·exact .inl h
  refine this.imp ?_
  intro a b h
  simpa [QdE] using h
 refine Ok.bind ((Qfg Qod ⟨0, 0, 0⟩ _ (by rw [hlen]; omega)).mono ?_)
 rintro ⟨k, r⟩ ⟨h1, h2, h3⟩
 simp only at h1 h2 h3
 simp only [QI]
 refine Ok.must (by simp; omega) (Ok.ret ?_)
 rw [h3]
 refine ⟨(QeC (le := fun a b => ¬ EdLt b a) (lt := EdLt) (fun a b h ne => (Qdv a b).resolve_right fun h2 => h2.elim ne h) (fun a b c h1 h2 => ?_) (fun a b c h1 h2 h3 => ?_) _ none hp (by simp)).1, ?_, fun e => ?_⟩
 ·rcases Qdv a b with h | h | h
  ·exact h.trans h2
  ·subst h; exact h2
  ·exact absurd h h1
 ·rcases Qdv a b with h | h | h
  ·exact h2 (h3.trans h)
  ·subst h; exact h2 h3
  ·exact h1 h
 ·have := Qjl (l.mergeSort fun x y => !decide (Qck y x < 0)) none
  omega
 ·rw [QkT]
  exact (List.mergeSort_perm l _).mem_iff
/-! ### the quotient -/
def Qjb (c : List Int) (d : Edge) : Edge := ⟨(cN c d.From.toNat : Int), d.Label, (cN c d.To.toNat : Int)⟩
structure QRes (x : System) (c : List Int) (K : Nat) (y : System) : Prop where
 s : y.States = (K : Int)
 i : y.Init = (cN c x.Init.toNat : Int)
 cs : y.Costs = x.Costs
 gl : y.Goals.length = K
 g : ∀ b, b < K → y.Goals[b]? = some (QbA x c b)
 o : Srt y.Edges
 l : y.Edges.length ≤ x.Edges.length
 e : ∀ e, e ∈ y.Edges ↔ ∃ d ∈ x.Edges, e = Qjb c d
theorem KOK.clsOf {c : List Int} {n K : Nat} (h : KOK c n K) : ClsOf c n K := by
 refine ⟨h.len, fun v hv => ?_⟩
 obtain ⟨i, hi⟩ := List.mem_iff_getElem?.1 hv
 have hin : i < n := by have := (List.getElem?_eq_some_iff.1 hi).1; rw [h.len] at this; exact this
 obtain ⟨k, hk, hki⟩ := h.rng i hin
 rw [hi] at hki; cases hki
 exact ⟨k, Z, hk⟩
theorem QoB {x : System} (hv : VSys x) {c : List Int} {K : Nat} (hK : KOK c x.States.toNat K) : Ok (K9 x c) fun r => r.1 = none ∧ QRes x c K r.2 := by
 unfold K9
 have s1 := hv.s1; have s2 := hv.s2; have i0 := hv.i0; have i1 := hv.i1; have hg := hv.g; have hcl := hv.c; have he := hv.e
 obtain ⟨n, hn⟩ : ∃ n : Nat, x.States = (n : Int) := ⟨x.States.toNat, by omega⟩
 have hnt : x.States.toNat = n := by omega
 rw [hnt] at hK
 have hc := hK.clsOf
 have hKn := hK.le
 have hcls : Kn c x.States = some ((K : Int), true) := by
  rw [hn]
  obtain ⟨r, h1, h2⟩ := Qlr (n := n) (by omega) hK.len
  rw [h1]
  rcases h2 with ⟨L, hL, rfl⟩ | ⟨h, _⟩
  ·rw [hL.uniq hK]
  ·exact absurd ⟨K, hK⟩ h
 rw [hcls]
 simp only [Option.bind_some, QI, tV, Qdr.2 hv, Bool.not_true, Bool.false_eq_true, if_false]
 obtain ⟨q, hq⟩ : ∃ q : Nat, x.Init = (q : Int) := ⟨x.Init.toNat, by omega⟩
 have hci := (hc.get (i := q) (by omega)).1
 rw [hq, Qo, hci]
 have hclone : Qu x.Costs = some x.Costs := by
  unfold Qu
  rw [JB (by simp; omega)]
  simp
 simp only [Option.bind_some, hclone]
 refine Ok.step (QbS (by omega) (by omega)) (Ok.bind ?_)
 refine QQ (fun m (l : List Bool) => l.length = K ∧ ∀ b, b < K → ∃ z, l[b]? = some z ∧ (z = true ↔ ∃ i, i < m ∧ c[i]? = some (b : Int) ∧ x.Goals[i]? = some true)) ⟨by simp, fun b hb => ⟨false, by simp [hb], by simp⟩⟩ ?_ ?_
 ·rintro m l hm ⟨h1, h2⟩
  obtain ⟨g, hgm⟩ := JP hm
  have hcm := hc.get (i := m) (by omega)
  obtain ⟨z, hz, hz2⟩ := h2 _ hcm.2
  simp only [Qo, hgm, hcm.1, hz, Option.bind_some]
  have key : ∀ w : Bool, (w = true ↔ z = true ∨ g = true) → ((l.set (cN c m) w).length = K ∧ ∀ b, b < K → ∃ z, (l.set (cN c m) w)[b]? = some z ∧ (z = true ↔ ∃ i, i < m + 1 ∧ c[i]? = some (b : Int) ∧ x.Goals[i]? = some true)) := by
   intro w hw
   refine ⟨by simp [h1], fun b hb => ?_⟩
   by_cases e : b = cN c m
   ·subst e
    refine ⟨w, by rw [List.getElem?_set_self (by omega)], ?_⟩
    rw [hw, hz2]
    constructor
    ·rintro (⟨i, a1, a2, a3⟩ | h)
     ·exact ⟨i, by omega, a2, a3⟩
     ·exact ⟨m, by omega, hcm.1, by rw [hgm, h]⟩
    ·rintro ⟨i, a1, a2, a3⟩
     by_cases ei : i = m
     ·subst ei; rw [hgm] at a3; cases a3; exact .inr rfl
     ·exact .inl ⟨i, by omega, a2, a3⟩
   ·obtain ⟨z', b1, b2⟩ := h2 b hb
    refine ⟨z', by rw [List.getElem?_set_ne (Ne.symm e)]; exact b1, ?_⟩
    rw [b2]
    constructor
    ·rintro ⟨i, a1, a2, a3⟩; exact ⟨i, by omega, a2, a3⟩
    ·rintro ⟨i, a1, a2, a3⟩
     by_cases ei : i = m
     ·subst ei; rw [hcm.1] at a2; simp at a2; omega
     ·exact ⟨i, by omega, a2, a3⟩
  cases z with
  | true =>
   simp only [if_true]
   rw [QW (by omega)]
   exact Ok.ret (key true (by simp))
  | false =>
   simp only [Bool.false_eq_true, if_false]
   rw [QW (by omega)]
   exact Ok.ret (key g (by simp))
 ·rintro l ⟨h1, h2⟩
  have hloop : forS (fun i => fun (z : List Edge) => (Q9 x.Edges (i : Int)).bind fun d => (Q9 c d.From).bind fun a => (Q9 c d.To).bind fun b => (app 24 z [(⟨a, d.Label, b⟩ : Edge)]).bind fun z' => some z') x.Edges.length 0 [] = some (x.Edges.map (Qjb c)) := by
   have := QaV x.Edges (fun d => [Qjb c d]) (s0 := []) (B := fun i => fun (z : List Edge) => (Q9 x.Edges (i : Int)).bind fun d => (Q9 c d.From).bind fun a => (Q9 c d.To).bind fun b => (app 24 z [(⟨a, d.Label, b⟩ : Edge)]).bind fun z' => some z') ?_
   ·rw [List.nil_append, Qa7] at this; exact this
   ·intro i d s hd hs
    have hsl : s.length ≤ 65536 := by rw [hs, List.nil_append, Qa7, List.length_map, List.length_take]; omega
    obtain ⟨f, lb, t, rfl, hf, ht, _⟩ := Qbj hv (List.mem_of_getElem? hd)
    rw [hnt] at hf ht
    simp only [Qo, hd, (hc.get hf).1, (hc.get ht).1, Option.bind_some]
    rw [JB (by simp; omega)]
    simp [Qjb]
  rw [hloop]
  simp only [Option.bind_some]
  refine Ok.bind ((QnL (l := x.Edges.map (Qjb c)) (by simp; omega)).mono ?_)
  rintro es ⟨e1, e2, e3⟩
  refine Ok.ret ⟨Z, Z, by simp [hq], Z, h1, fun b hb => ?_, e1, by simpa using e2, fun e => ?_⟩
  ·obtain ⟨z, b1, b2⟩ := h2 b hb
   simp only
   rw [b1]
   congr 1
   rw [Bool.eq_iff_iff, b2, KW]
   constructor
   ·rintro ⟨i, _, a2, a3⟩; exact ⟨i, a2, a3⟩
   ·rintro ⟨i, a2, a3⟩; exact ⟨i, (List.getElem?_eq_some_iff.1 a3).1, a2, a3⟩
  ·simp only
   rw [e3]
   simp only [List.mem_map]
   constructor
   ·rintro ⟨d, hd, rfl⟩; exact ⟨d, hd, rfl⟩
   ·rintro ⟨d, hd, rfl⟩; exact ⟨d, hd, rfl⟩
theorem QRes.v {x y : System} (hv : VSys x) {c : List Int} {K : Nat} (hK : KOK c x.States.toNat K) (h : QRes x c K y) : VSys y := by
 have s1 := hv.s1; have s2 := hv.s2; have i0 := hv.i0; have i1 := hv.i1
 have hc := hK.clsOf
 have hi := (hc.get (i := x.Init.toNat) (by omega)).2
 have hle := hK.le
 refine ⟨by rw [h.s]; omega, by rw [h.s]; omega, by rw [h.i]; omega, by rw [h.i, h.s]; omega, by rw [h.gl, h.s], by rw [h.cs]; exact hv.c, by have := h.l; have := hv.e; omega, by rw [h.cs]; exact hv.cost, fun e he => ?_, fun i a b ha hb => ?_⟩
 ·obtain ⟨d, hd, rfl⟩ := (h.e e).1 he
  obtain ⟨f, l, t, rfl, hf, ht, hl⟩ := Qbj hv hd
  have h1 := (hc.get hf).2
  have h2 := (hc.get ht).2
  simp only [Qjb, Int.toNat_natCast, h.s, h.cs]
  omega
 ·have := List.pairwise_iff_getElem.1 h.o i (i + 1) (List.getElem?_eq_some_iff.1 ha).1 (List.getElem?_eq_some_iff.1 hb).1 (by omega)
  rw [(List.getElem?_eq_some_iff.1 ha).2, (List.getElem?_eq_some_iff.1 hb).2] at this
  exact this
theorem QRes.edge {x y : System} (hv : VSys x) {c : List Int} {K : Nat} (h : QRes x c K y) {u l v : Nat} : Qc8 y u l v ↔ ∃ i t, Qc8 x i l t ∧ cN c i = u ∧ cN c t = v := by
 unfold Qc8
 rw [h.e]
 constructor
 ·rintro ⟨d, hd, e⟩
  obtain ⟨f, l', t, rfl, _, _, _⟩ := Qbj hv hd
  simp only [Qjb, Int.toNat_natCast, Edge.mk.injEq] at e
  have : l' = l := by omega
  subst this
  exact ⟨f, t, hd, by omega, by omega⟩
 ·rintro ⟨i, t, he, rfl, rfl⟩
  exact ⟨_, he, by simp [Qjb]⟩
end Go.Pw
