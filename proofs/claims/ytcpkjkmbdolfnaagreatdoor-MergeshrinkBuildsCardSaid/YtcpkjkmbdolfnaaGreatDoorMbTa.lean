/- -/
import Derived.Test.YtcpkjkmbdolfnaaGreatDoorMbC
import Derived.Test.YtcpkjkmbdolfnaaGreatDoorBB
set_option maxHeartbeats 4000000
set_option linter.unusedSimpArgs false
set_option linter.unusedVariables false
namespace Go.Pw
def EdLt (a b : Edge) : Prop := a.From < b.From ∨ a.From = b.From ∧ (a.Label < b.Label ∨ a.Label = b.Label ∧ a.To < b.To)
structure VSys (x : System) : Prop where
 s1 : 1 ≤ x.States
 s2 : x.States ≤ 4096
 i0 : 0 ≤ x.Init
 i1 : x.Init < x.States
 g : (x.Goals.length : Int) = x.States
 c : x.Costs.length ≤ 4096
 e : x.Edges.length ≤ 65536
 cost : ∀ c ∈ x.Costs, 0 ≤ c ∧ c ≤ 1048576
 edge : ∀ d ∈ x.Edges, 0 ≤ d.From ∧ d.From < x.States ∧ 0 ≤ d.To ∧ d.To < x.States ∧ 0 ≤ d.Label ∧ d.Label < (x.Costs.length : Int)
 ord : ∀ (i : Nat) (a b : Edge), x.Edges[i]? = some a → x.Edges[i + 1]? = some b → EdLt a b
open Classical in
noncomputable def QjA (x : System) : Bool := decide (VSys x)
theorem Qa1 {x : System} : QjA x = true ↔ VSys x := by unfold QjA; simp
open Classical in
noncomputable def YQ (x : System) (i : Nat) : Bool := decide (∀ d, x.Edges[i]? = some d → 0 ≤ d.From ∧ d.From < x.States ∧ 0 ≤ d.To ∧ d.To < x.States ∧ 0 ≤ d.Label ∧ d.Label < (x.Costs.length : Int) ∧ ∀ a, 0 < i → x.Edges[i - 1]? = some a → EdLt a d)
open Classical in
noncomputable def Qee (x : System) (i : Nat) : Bool := decide (∀ c, x.Costs[i]? = some c → 0 ≤ c ∧ c ≤ 1048576)
theorem Qk3 (x : System) (h : ¬ (x.States < 1 ∨ 4096 < x.States ∨ x.Init < 0 ∨ x.States ≤ x.Init ∨ ¬ (x.Goals.length : Int) = x.States ∨ 4096 < (x.Costs.length : Int) ∨ 65536 < (x.Edges.length : Int))) :
  QjA x = ((List.range x.Costs.length).all (Qee x) && (List.range x.Edges.length).all (YQ x)) := by
 rw [Bool.eq_iff_iff, Qa1, Bool.and_eq_true, List.all_eq_true, List.all_eq_true]
 constructor
 ·intro hv
  constructor
  ·intro i hi
   simp only [Qee, decide_eq_true_eq]
   intro c hc
   exact hv.cost c (List.mem_of_getElem? hc)
  ·intro i hi
   simp only [YQ, decide_eq_true_eq]
   intro d hd
   obtain ⟨h1, h2, h3, h4, h5, h6⟩ := hv.edge d (List.mem_of_getElem? hd)
   refine ⟨h1, h2, h3, h4, h5, h6, fun a h0 ha => ?_⟩
   exact hv.ord (i - 1) a d ha (by rw [show i - 1 + 1 = i by omega]; exact hd)
 ·rintro ⟨h1, h2⟩
  refine ⟨by omega, by omega, by omega, by omega, by omega, by omega, by omega, ?_, ?_, ?_⟩
  ·intro c hc
   obtain ⟨i, hi⟩ := List.mem_iff_getElem?.1 hc
   have hlt := (List.getElem?_eq_some_iff.1 hi).1
   have := h1 i (by simpa using hlt)
   simp only [Qee, decide_eq_true_eq] at this
   exact this c hi
  ·intro d hd
   obtain ⟨i, hi⟩ := List.mem_iff_getElem?.1 hd
   have hlt := (List.getElem?_eq_some_iff.1 hi).1
   have := h2 i (by simpa using hlt)
   simp only [YQ, decide_eq_true_eq] at this
   obtain ⟨a, b, c, d', e, f, _⟩ := this d hi
   exact ⟨a, b, c, d', e, f⟩
  ·intro i a b ha hb
   have hlt := (List.getElem?_eq_some_iff.1 hb).1
   have := h2 (i + 1) (by simpa using hlt)
   simp only [YQ, decide_eq_true_eq] at this
   exact (this b hb).2.2.2.2.2.2 a (by omega) (by simpa using ha)
theorem QcB (a b : Edge) : Qbv a b < 0 ↔ EdLt a b := Qa2 a b
theorem Qy {α : Type} {xs : List α} {i : Nat} (h : i < xs.length) : ∃ y, xs[i]? = some y := ⟨xs[i], by simp [h]⟩
theorem Qn8 (x : System) {R : Type} (r : R) (j : Nat) (hj : j < x.Costs.length) :
  ((Qz x.Costs (j : Int)).bind fun c => if ((decide (c < 0)) || decide (1048576 < c)) then (some (Ctl.ret r)) else (some (Ctl.next ()))) = some (if Qee x j then .next () else .ret r) := by
 obtain ⟨c, hc⟩ := Qy hj
 rw [Qn, hc]
 simp only [Option.bind_some, Qee, hc, Option.some.injEq, forall_eq']
 by_cases h : 0 ≤ c ∧ c ≤ 1048576
 ·have h1 : ¬ c < 0 := by omega
  have h2 : ¬ 1048576 < c := by omega
  simp [h, h1, h2]
 ·have : c < 0 ∨ 1048576 < c := by omega
  simp [h, this]
theorem QkE (x : System) : ((decide (x.States < 1)) || ((decide (4096 < x.States)) || ((decide (x.Init < 0)) || ((decide (x.States ≤ x.Init)) || ((!decide ((x.Goals.length : Int) = x.States)) || ((decide (4096 < (x.Costs.length : Int))) || decide (65536 < (x.Edges.length : Int)))))))) =
  decide (x.States < 1 ∨ 4096 < x.States ∨ x.Init < 0 ∨ x.States ≤ x.Init ∨ ¬ (x.Goals.length : Int) = x.States ∨ 4096 < (x.Costs.length : Int) ∨ 65536 < (x.Edges.length : Int)) := by
 rw [Bool.eq_iff_iff]; simp
theorem Qn7 (x : System) (j : Nat) (hj : j < x.Edges.length) (hl : x.Edges.length ≤ 65536) (f : Edge → Edge → Option Bool) (hf : ∀ a b, f a b = some (!(open Classical in decide (EdLt a b)))) :
  ((Qz x.Edges (j : Int)).bind fun d =>
  (if decide (d.From < 0) then (some true)
  else (if decide (x.States ≤ d.From) then (some true)
  else (if decide (d.To < 0) then (some true)
  else (if decide (x.States ≤ d.To) then (some true)
  else (if decide (d.Label < 0) then (some true)
  else (if decide ((x.Costs.length : Int) ≤ d.Label) then (some true)
  else (if decide (0 < (j : Int)) then ((Qz x.Edges (IntKind.i64.wrap ((j : Int) - 1))).bind fun a => f a d)
  else (some false)))))))).bind (fun (z : Bool) => if z then (some (Ctl.ret false)) else (some (Ctl.next ())))) = some (if YQ x j then .next () else .ret false) := by
 obtain ⟨d, hd⟩ := Qy hj
 rw [Qn, hd]
 have hno : ¬ (0 ≤ d.From ∧ d.From < x.States ∧ 0 ≤ d.To ∧ d.To < x.States ∧ 0 ≤ d.Label ∧ d.Label < (x.Costs.length : Int)) → YQ x j = false := by
  intro hn
  cases hb : YQ x j with
  | false => rfl
  | true =>
   simp only [YQ, decide_eq_true_eq] at hb
   obtain ⟨a1, a2, a3, a4, a5, a6, _⟩ := hb d hd
   exact absurd ⟨a1, a2, a3, a4, a5, a6⟩ hn
 simp only [Option.bind_some]
 by_cases h1 : d.From < 0
 ·rw [hno (by omega)]; simp [h1]
 by_cases h2 : x.States ≤ d.From
 ·rw [hno (by omega)]; simp [h1, h2]
 by_cases h3 : d.To < 0
 ·rw [hno (by omega)]; simp [h1, h2, h3]
 by_cases h4 : x.States ≤ d.To
 ·rw [hno (by omega)]; simp [h1, h2, h3, h4]
 by_cases h5 : d.Label < 0
 ·rw [hno (by omega)]; simp [h1, h2, h3, h4, h5]
 by_cases h6 : (x.Costs.length : Int) ≤ d.Label
 ·rw [hno (by omega)]; simp [h1, h2, h3, h4, h5, h6]
 by_cases h7 : 0 < j
 ·obtain ⟨a, ha⟩ := Qy (show j - 1 < x.Edges.length by omega)
  have hw : IntKind.i64.wrap ((j : Int) - 1) = ((j - 1 : Nat) : Int) := by rw [QA (by omega) (by omega)]; omega
  have h7' : (0 : Int) < (j : Int) := by omega
  have he : YQ x j = true ↔ EdLt a d := by
   simp only [YQ, decide_eq_true_eq]
   constructor
   ·intro hh; exact (hh d hd).2.2.2.2.2.2 a h7 ha
   ·intro hlt d' hd'
    rw [hd] at hd'; cases hd'
    refine ⟨by omega, by omega, by omega, by omega, by omega, by omega, fun a' _ ha' => ?_⟩
    rw [ha] at ha'; cases ha'; exact hlt
  rw [hw, Qn, ha]
  simp only [Option.bind_some, hf, h1, h2, h3, h4, h5, h6, h7', decide_true, decide_false, if_true, Bool.false_eq_true, if_false]
  by_cases hlt : EdLt a d
  ·rw [he.2 hlt]; simp [hlt]
  ·have : YQ x j = false := by
    cases hb : YQ x j with
    | false => rfl
    | true => exact absurd (he.1 hb) hlt
   rw [this]; simp [hlt]
 ·have h7' : ¬ (0 : Int) < (j : Int) := by omega
  have he : YQ x j = true := by
   simp only [YQ, decide_eq_true_eq]
   intro d' hd'
   rw [hd] at hd'; cases hd'
   exact ⟨by omega, by omega, by omega, by omega, by omega, by omega, fun a' h0 _ => absurd h0 h7⟩
  rw [he]
  simp only [h1, h2, h3, h4, h5, h6, h7', decide_false, Bool.false_eq_true, if_false, if_true, Option.bind_some]
open Classical in
theorem tV (x : System) : JE x = some (QjA x) := by
 unfold JE
 rw [QkE]
 by_cases h : x.States < 1 ∨ 4096 < x.States ∨ x.Init < 0 ∨ x.States ≤ x.Init ∨ ¬ (x.Goals.length : Int) = x.States ∨ 4096 < (x.Costs.length : Int) ∨ 65536 < (x.Edges.length : Int)
 ·rw [if_pos (by simpa using h)]
  have : ¬ VSys x := fun hv => by have := hv.s1; have := hv.s2; have := hv.i0; have := hv.i1; have := hv.g; have := hv.c; have := hv.e; omega
  unfold QjA; simp [this]
 ·rw [if_neg (by simpa using h), Qk3 x h, YF (fun j hj => Qn8 x false j hj)]
  have hl : x.Edges.length ≤ 65536 := by omega
  rw [YF (fun j hj => Qn7 x j hj hl (fun a b => (Kk a b).bind fun y => some (decide (0 ≤ y))) (fun a b => by
   rw [Qfn]
   simp only [Option.bind_some, Option.some.injEq]
   have := QcB a b
   by_cases hlt : EdLt a b
   ·have h2 : ¬ 0 ≤ Qbv a b := by have := this.2 hlt; omega
    simp [hlt, h2]
   ·have h2 : 0 ≤ Qbv a b := by have h3 : ¬ Qbv a b < 0 := fun h => hlt (this.1 h); omega
    simp [hlt, h2]))]
  cases (List.range x.Costs.length).all (Qee x) <;> cases (List.range x.Edges.length).all (YQ x) <;> rfl
end Go.Pw
/- -/
set_option maxHeartbeats 4000000
namespace Go.Pw
theorem Qib {a b : ByteArray} (h : a.data.toList = b.data.toList) : a = b := by
 obtain ⟨⟨a⟩⟩ := a
 obtain ⟨⟨b⟩⟩ := b
 simp at h
 rw [h]
structure NumI (l : List ByteArray) (i : Nat) (out : List Int) (m : Qcl) : Prop where
 len : out.length = i
 cls : ∀ j, j < i → ∃ k : Nat, out[j]? = some (k : Int) ∧ QbY (eqL l) j k
 ml : m.length = Yw (eqL l) i
 hit : ∀ j k s, j < i → QbY (eqL l) j k → l[j]? = some s → Qcr m s = some (k : Int)
 miss : ∀ s, (∀ j, j < i → l[j]? ≠ some s) → Qcr m s = none
theorem Qf8 (l : List ByteArray) (hl : l.length ≤ 100000) (hs : ∀ s ∈ l, s.size ≤ 100000000) :
  Ok (JT l) fun r => ClsL (eqL l) l.length r.1 ∧ r.2 = (Yw (eqL l) l.length : Int) := by
 unfold JT
 refine Ok.bind (QO (fun i (s : List Int × Qcl) => NumI l i s.1 s.2) ⟨Z, fun j h => absurd h (Nat.not_lt_zero _), Z, fun j k s h => absurd h (Nat.not_lt_zero _), fun s _ => rfl⟩ ?_ ?_)
 ·rintro i ⟨out, m⟩ hi hI
  obtain ⟨x, hx⟩ := Qy hi
  have hxs := hs x (List.mem_of_getElem? hx)
  have hE := Kj l l.length
  have hml : m.length ≤ 100000 := by
   have := rnk_le (eqL l) i
   rw [hI.ml]; omega
  simp only [QM, Qn, hx, Option.bind_some]
  have hg : Qgj m x = some ((Qcr m x).getD 0, (Qcr m x).isSome) := by unfold Qgj; rw [if_pos (by simp only [maxLen]; omega)]
  rw [hg]
  simp only [Option.bind_some]
  have hlen := hI.len
  rcases QmD hE hi with ⟨hr, hc⟩ | ⟨hr, j, hj, hR, hjr, hci, hcj⟩
  ·have hmiss : Qcr m x = none := hI.miss x fun j hj e => hr j hj (by unfold eqL; rw [e, hx])
   have hp : Qgi m x (m.length : Int) = some (Qhn m x (m.length : Int)) := by unfold Qgi; rw [if_pos (by simp only [maxLen]; omega)]
   simp only [hmiss, Option.isSome_none, Bool.not_false, if_true, hp, Option.bind_some, QM]
   refine Ok.step (Jh (by simp only [List.length_singleton]; simp only at hlen; omega)) (Ok.ret ⟨?_, ?_, ?_, ?_, ?_⟩)
   ·simp only [List.length_append, List.length_singleton]; simp only at hlen; omega
   ·intro q hq
    simp only at hlen ⊢
    by_cases e : q = i
    ·subst e
     exact ⟨Yw (eqL l) q, by rw [List.getElem?_append_right (by omega), hlen, Nat.sub_self, hI.ml]; rfl, hc⟩
    ·obtain ⟨k, h1, h2⟩ := hI.cls q (by omega)
     exact ⟨k, by rw [List.getElem?_append_left (by omega)]; exact h1, h2⟩
   ·rw [Qf9, hmiss, Qbh]
    simp [hr, hI.ml]
   ·intro q k s hq hcq hqs
    rw [Qe5]
    by_cases e : q = i
    ·subst e
     rw [hx] at hqs; cases hqs
     rw [if_pos rfl, hI.ml, QeA hE hi hcq hc]
    ·have hqi : q < i := by omega
     have hne : ¬ x.data.toList = s.data.toList := fun e2 => hr q hqi (by unfold eqL; rw [hqs, hx, Qib e2])
     rw [if_neg hne]
     exact hI.hit q k s hqi hcq hqs
   ·intro s hall
    rw [Qe5]
    have hne : ¬ x.data.toList = s.data.toList := fun e2 => hall i (by omega) (by rw [hx, Qib e2])
    rw [if_neg hne]
    exact hI.miss s fun q hq => hall q (by omega)
  ·obtain ⟨y, hy⟩ := Qy (show j < l.length by omega)
   have hxy : y = x := by have : l[j]? = l[i]? := hR; rw [hy, hx] at this; exact Zu this
   subst hxy
   have hhit := hI.hit j _ y hj hcj hy
   simp only [hhit, Option.isSome_some, Bool.not_true, Bool.false_eq_true, if_false, Option.bind_some, QM, Option.getD_some]
   refine Ok.step (Jh (by simp only [List.length_singleton]; simp only at hlen; omega)) (Ok.ret ⟨?_, ?_, ?_, ?_, ?_⟩)
   ·simp only [List.length_append, List.length_singleton]; simp only at hlen; omega
   ·intro q hq
    simp only at hlen ⊢
    by_cases e : q = i
    ·subst e
     exact ⟨Yw (eqL l) j, by rw [List.getElem?_append_right (by omega), hlen, Nat.sub_self]; rfl, hci⟩
    ·obtain ⟨k, h1, h2⟩ := hI.cls q (by omega)
     exact ⟨k, by rw [List.getElem?_append_left (by omega)]; exact h1, h2⟩
   ·rw [Qbh]
    simp [hr, hI.ml]
   ·intro q k s hq hcq hqs
    by_cases e : q = i
    ·subst e
     rw [hx] at hqs; cases hqs
     rw [hhit, QeA hE hi hcq hci]
    ·exact hI.hit q k s (by omega) hcq hqs
   ·intro s hall
    exact hI.miss s fun q hq => hall q (by omega)
 ·rintro ⟨out, m⟩ hI
  simp only [QM]
  exact Ok.ret ⟨⟨hI.len, hI.cls⟩, by rw [hI.ml]⟩
end Go.Pw
/- -/
set_option maxHeartbeats 4000000
set_option maxRecDepth 100000
namespace Go.Pw
def Qb5 (n : Nat) : List UInt8 := if n < 10 then [UInt8.ofNat (48 + n)] else [UInt8.ofNat (48 + n / 10), UInt8.ofNat (48 + n % 10)]
def QiI (n : Nat) : ByteArray := ⟨(Qb5 n).toArray⟩
theorem Qm0 : ∀ k : Fin 100, (K4 (k.val : Int)).map (fun b => b.data.toList) = some (Qb5 k.val) := by decide +kernel
theorem Qin {n : Nat} (h : n < 100) : K4 (n : Int) = some (QiI n) := by
 have := Qm0 ⟨n, h⟩
 simp only at this
 obtain ⟨b, h1, h2⟩ := Option.map_eq_some_iff.1 this
 rw [h1]
 congr 1
 exact Qib (by rw [h2]; simp [QiI])
def Qoy : List UInt8 → Nat
 | [a] => a.toNat - 48
 | [a, b] => (a.toNat - 48) * 10 + (b.toNat - 48)
 | _ => 0
theorem Qda : ∀ k : Fin 100, Qoy (Qb5 k.val) = k.val ∧ (Qb5 k.val).all (fun b => decide (48 ≤ b.toNat) && decide (b.toNat ≤ 57)) = true ∧ 1 ≤ (Qb5 k.val).length ∧ (Qb5 k.val).length ≤ 2 := by decide +kernel
def QdN (b : UInt8) : Prop := 48 ≤ b.toNat ∧ b.toNat ≤ 57
theorem Qcw {n : Nat} (h : n < 100) : ∀ b ∈ Qb5 n, QdN b := by
 intro b hb
 have := List.all_eq_true.1 (Qda ⟨n, h⟩).2.1 b hb
 simpa [QdN] using this
theorem Qnn {n : Nat} (h : n < 100) : Qb5 n ≠ [] := by
 intro e
 have := (Qda ⟨n, h⟩).2.2.1
 simp only [e] at this
 simp at this
theorem QbH {n : Nat} (h : n < 100) : (Qb5 n).length ≤ 2 := (Qda ⟨n, h⟩).2.2.2
theorem Qgz {n m : Nat} (hn : n < 100) (hm : m < 100) (e : Qb5 n = Qb5 m) : n = m := by
 have h1 := (Qda ⟨n, hn⟩).1
 have h2 := (Qda ⟨m, hm⟩).1
 simp only at h1 h2
 rw [← h1, ← h2, e]
theorem Qd6 : ∀ {a b r q : List UInt8}, (∀ x ∈ a, QdN x) → (∀ x ∈ b, QdN x) → (∀ x, r.head? = some x → ¬ QdN x) → (∀ x, q.head? = some x → ¬ QdN x) → a ++ r = b ++ q → a = b ∧ r = q
 | [], [], _, _, _, _, _, _, e => ⟨rfl, e⟩
 | [], y :: b, r, q, _, hb, hr, _, e => by
  simp only [List.nil_append] at e
  exact absurd (hb y (by simp)) (hr y (by rw [e]; rfl))
 | x :: a, [], r, q, ha, _, _, hq, e => by
  simp only [List.nil_append] at e
  exact absurd (ha x (by simp)) (hq x (by rw [← e]; rfl))
 | x :: a, y :: b, r, q, ha, hb, hr, hq, e => by
  simp only [List.cons_append, List.cons.injEq] at e
  obtain ⟨h1, h2⟩ := Qd6 (fun z hz => ha z (by simp [hz])) (fun z hz => hb z (by simp [hz])) hr hq e.2
  exact ⟨by rw [e.1, h1], h2⟩
def YU : List (Nat × Nat) → List UInt8
 | [] => []
 | p :: ps => (32 :: Qb5 p.1) ++ (58 :: Qb5 p.2) ++ YU ps
theorem QcF (ps : List (Nat × Nat)) : ∀ x, (YU ps).head? = some x → ¬ QdN x := by
 intro x h
 cases ps with
 | nil => simp [YU] at h
 | cons p ps => simp [YU] at h; subst h; simp [QdN]
theorem Qix (ps qs : List (Nat × Nat)) : YU (ps ++ qs) = YU ps ++ YU qs := by
 induction ps with
 | nil => rfl
 | cons p ps ih => simp [YU, ih]
theorem QhH (ps : List (Nat × Nat)) (h : ∀ p ∈ ps, p.1 < 100 ∧ p.2 < 100) : (YU ps).length ≤ ps.length * 6 := by
 induction ps with
 | nil => simp [YU]
 | cons p ps ih =>
  have h1 := QbH (h p (by simp)).1
  have h2 := QbH (h p (by simp)).2
  have := ih fun q hq => h q (by simp [hq])
  simp only [YU, List.length_append, List.length_cons]
  omega
theorem QhI : ∀ {ps qs : List (Nat × Nat)}, (∀ p ∈ ps, p.1 < 100 ∧ p.2 < 100) → (∀ p ∈ qs, p.1 < 100 ∧ p.2 < 100) → YU ps = YU qs → ps = qs
 | [], [], _, _, _ => rfl
 | [], q :: qs, _, _, e => by simp [YU] at e
 | p :: ps, [], _, _, e => by simp [YU] at e
 | p :: ps, q :: qs, hp, hq, e => by
  obtain ⟨p1, p2⟩ := hp p (by simp)
  obtain ⟨q1, q2⟩ := hq q (by simp)
  simp only [YU, List.cons_append, List.append_assoc, List.cons.injEq, true_and] at e
  have nd : ∀ (l : List UInt8) x, (58 :: l).head? = some x → ¬ QdN x := by intro l x h; simp at h; subst h; simp [QdN]
  obtain ⟨h1, h2⟩ := Qd6 (Qcw p1) (Qcw q1) (nd _) (nd _) e
  simp only [List.cons.injEq, true_and] at h2
  obtain ⟨h3, h4⟩ := Qd6 (Qcw p2) (Qcw q2) (QcF ps) (QcF qs) h2
  have e1 := Qgz p1 q1 h1
  have e2 := Qgz p2 q2 h3
  rw [QhI (fun r hr => hp r (by simp [hr])) (fun r hr => hq r (by simp [hr])) h4, show p = q from Prod.ext e1 e2]
def Qc6 (c : Nat) (ps : List (Nat × Nat)) : List UInt8 := Qb5 c ++ YU ps
theorem QjW {c d : Nat} {ps qs : List (Nat × Nat)} (hc : c < 100) (hd : d < 100) (hp : ∀ p ∈ ps, p.1 < 100 ∧ p.2 < 100) (hq : ∀ p ∈ qs, p.1 < 100 ∧ p.2 < 100) (e : Qc6 c ps = Qc6 d qs) : c = d ∧ ps = qs := by
 obtain ⟨h1, h2⟩ := Qd6 (Qcw hc) (Qcw hd) (QcF ps) (QcF qs) e
 exact ⟨Qgz hc hd h1, QhI hp hq h2⟩
/-! ### bytes -/
theorem Qkn (l : List UInt8) : bytesOf ⟨l.toArray⟩ = l.map fun b => (b.toNat : Int) := by simp [bytesOf]
theorem QkZ (l : List UInt8) : u8s (l.map fun b => (b.toNat : Int)) = l := by
 simp only [u8s, List.map_map]
 conv => rhs; rw [← List.map_id l]
 apply List.map_congr_left
 intro b _
 simp
theorem Qjr {l : List UInt8} (h : l ≠ []) : Qgg (l.map fun b => (b.toNat : Int)) = some ⟨l.toArray⟩ := by
 unfold Qgg
 rw [if_pos, QkZ]
 refine ⟨by simpa using h, List.all_eq_true.2 ?_⟩
 intro n hn
 obtain ⟨b, _, rfl⟩ := List.mem_map.1 hn
 have := b.toNat_lt
 simp; omega
theorem QgU {l q : List UInt8} (h : l.length + q.length ≤ 140737488355328) : QjD (l.map fun b => (b.toNat : Int)) ⟨q.toArray⟩ = some ((l ++ q).map fun b => (b.toNat : Int)) := by
 unfold QjD
 rw [if_pos (by rw [List.length_map]; exact h), Qkn, List.map_append]
theorem Qfo {l q : List UInt8} (h : l.length + q.length ≤ 100000) : cat ⟨l.toArray⟩ ⟨q.toArray⟩ = some ⟨(l ++ q).toArray⟩ := by
 unfold cat
 rw [if_pos (by show l.length + q.length ≤ _; omega)]
 exact congrArg some (Qib (by simp))
end Go.Pw
/- -/
set_option maxHeartbeats 4000000
set_option maxRecDepth 100000
namespace Go.Pw
/-! ### pairs -/
def PrLt (a b : Arr2_int) : Prop := a.a0 < b.a0 ∨ a.a0 = b.a0 ∧ a.a1 < b.a1
def QmV (a b : Arr2_int) : Prop := ¬ PrLt b a
theorem Qj4 (a : Arr2_int) : ¬ PrLt a a := by unfold PrLt; omega
theorem QmL (a b : Arr2_int) : PrLt a b ∨ a = b ∨ PrLt b a := by
 obtain ⟨a1, a2⟩ := a
 obtain ⟨b1, b2⟩ := b
 simp only [PrLt, Arr2_int.mk.injEq]
 omega
theorem Qg8 {α : Type} {lt : α → α → Prop} (ir : ∀ a, ¬ lt a a) (tr : ∀ a b c, lt a b → lt b c → lt a c) : ∀ {l k : List α}, l.Pairwise lt → k.Pairwise lt → (∀ e, e ∈ l ↔ e ∈ k) → l = k
 | [], [], _, _, _ => rfl
 | [], b :: k, _, _, h => absurd ((h b).2 (by simp)) (by simp)
 | a :: l, [], _, _, h => absurd ((h a).1 (by simp)) (by simp)
 | a :: l, b :: k, hl, hk, h => by
  obtain ⟨h1, h2⟩ := List.pairwise_cons.1 hl
  obtain ⟨k1, k2⟩ := List.pairwise_cons.1 hk
  have hab : a = b := by
   rcases List.mem_cons.1 ((h a).1 (by simp)) with e | e
   ·exact e
   ·rcases List.mem_cons.1 ((h b).2 (by simp)) with e' | e'
    ·exact e'.symm
    ·exact absurd (tr _ _ _ (h1 b e') (k1 a e)) (ir a)
  subst hab
  congr 1
  refine Qg8 ir tr h2 k2 fun e => ?_
  constructor
  ·intro he
   rcases List.mem_cons.1 ((h e).1 (by simp [he])) with e1 | e1
   ·subst e1; exact absurd (h1 e he) (ir e)
   ·exact e1
  ·intro he
   rcases List.mem_cons.1 ((h e).2 (by simp [he])) with e1 | e1
   ·subst e1; exact absurd (k1 e he) (ir e)
   ·exact e1
noncomputable def QiB (l : List Arr2_int) : List Arr2_int := l.mergeSort fun x y => !decide (Qgf y x < 0)
theorem Qiu {l : List Arr2_int} (h : l.length < 4611686018427387904) : Qbl l = some (QiB l) := by unfold Qbl; rw [if_pos h]; rfl
theorem QmY (l : List Arr2_int) : (QiB l).Pairwise QmV := by
 have hp : (l.mergeSort fun x y => !decide (Qgf y x < 0)).Pairwise (fun x y => (!decide (Qgf y x < 0)) = true) := by
  apply List.pairwise_mergeSort
  ·intro a b c h1 h2
   simp only [Bool.not_eq_true', decide_eq_false_iff_not, QbI] at *
   omega
  ·intro a b
   simp only [Bool.or_eq_true, Bool.not_eq_true', decide_eq_false_iff_not, QbI]
   omega
 refine hp.imp ?_
 intro a b h
 simp only [Bool.not_eq_true', decide_eq_false_iff_not, QbI] at h
 exact h
theorem Qmy {l : List Arr2_int} {e : Arr2_int} : e ∈ QiB l ↔ e ∈ l := (List.mergeSort_perm l _).mem_iff
theorem Qe0 (l : List Arr2_int) : (QiB l).length = l.length := List.length_mergeSort l
theorem Qjy (s : List Arr2_int) : Jk s = Qe9 (fun a b => eqs [a.a0, a.a1] [b.a0, b.a1]) ⟨0, 0⟩ s := rfl
theorem Qm7 (a b : Arr2_int) : eqs [a.a0, a.a1] [b.a0, b.a1] = true ↔ a = b := by
 obtain ⟨a1, a2⟩ := a
 obtain ⟨b1, b2⟩ := b
 simp [eqs]
noncomputable def Qct (l : List Arr2_int) : List Arr2_int := dd none (QiB l)
theorem Qcy {l : List Arr2_int} {e : Arr2_int} : e ∈ Qct l ↔ e ∈ l := by unfold Qct; rw [QjL, Qmy]
theorem QiZ (l : List Arr2_int) : (Qct l).Pairwise PrLt :=
 (Qd7 (le := QmV) (lt := PrLt) (fun a b h ne => (QmL a b).resolve_right fun h2 => h2.elim ne h) (fun a b c h1 h2 => by unfold QmV PrLt at *; omega) (fun a b c h1 h2 => by unfold QmV PrLt at *; omega) (QiB l) none (QmY l) (by simp)).1
theorem Qlp {l k : List Arr2_int} (h : ∀ e, e ∈ l ↔ e ∈ k) : Qct l = Qct k :=
 Qg8 Qj4 (fun a b c h1 h2 => by unfold PrLt at *; omega) (QiZ l) (QiZ k) fun e => by rw [Qcy, Qcy, h]
theorem Qlo {l k : List Arr2_int} : Qct l = Qct k ↔ ∀ e, e ∈ l ↔ e ∈ k := ⟨fun h e => by rw [← Qcy, h, Qcy], Qlp⟩
/-! ### a system as its goals and edges -/
def Qap (x : System) (i l t : Nat) : Prop := (⟨(i : Int), (l : Int), (t : Int)⟩ : Edge) ∈ x.Edges
def Kw (x : System) (hv : VSys x) : TS where
 n := x.States.toNat
 goal := fun i => x.Goals[i]?.getD false
 edge := Qap x
 rng := fun i l t h => by have := hv.edge _ h; simp only at this; omega
theorem Y4 {x : System} (hv : VSys x) {d : Edge} (hd : d ∈ x.Edges) : ∃ i l t : Nat, d = ⟨(i : Int), (l : Int), (t : Int)⟩ ∧ i < x.States.toNat ∧ t < x.States.toNat ∧ l < x.Costs.length := by
 obtain ⟨h1, h2, h3, h4, h5, h6⟩ := hv.edge d hd
 refine ⟨d.From.toNat, d.Label.toNat, d.To.toNat, ?_, by omega, by omega, by omega⟩
 obtain ⟨f, l, t⟩ := d
 simp only [Edge.mk.injEq] at *
 omega
def ClsOf (cls : List Int) (n b : Nat) : Prop := cls.length = n ∧ ∀ c ∈ cls, ∃ k : Nat, c = (k : Int) ∧ k < b
def cN (cls : List Int) (i : Nat) : Nat := (cls[i]?.getD 0).toNat
theorem ClsOf.get {cls : List Int} {n b i : Nat} (h : ClsOf cls n b) (hi : i < n) : cls[i]? = some (cN cls i : Int) ∧ cN cls i < b := by
 obtain ⟨y, hy⟩ := QY (show i < cls.length by rw [h.1]; exact hi)
 obtain ⟨k, rfl, hk⟩ := h.2 y (List.mem_of_getElem? hy)
 unfold cN
 rw [hy]
 exact ⟨Z, hk⟩
theorem QdO {cls : List Int} {n b i j : Nat} (h : ClsOf cls n b) (hi : i < n) (hj : j < n) : cN cls i = cN cls j ↔ eqL cls i j := by
 unfold eqL
 rw [(h.get hi).1, (h.get hj).1]
 simp
 omega
def QmR (cls : List Int) (d : Edge) : Arr2_int := ⟨d.Label, (cN cls d.To.toNat : Int)⟩
def rwP (x : System) (cls : List Int) (i m : Nat) : List Arr2_int := ((x.Edges.take m).filter fun d => decide (d.From = (i : Int))).map (QmR cls)
theorem Qih (x : System) (cls : List Int) (i m : Nat) : (rwP x cls i m).length ≤ x.Edges.length := by
 unfold rwP
 rw [List.length_map]
 refine Nat.le_trans (List.length_filter_le _ _) ?_
 simp; omega
theorem Qew {x : System} (hv : VSys x) {cls : List Int} {i : Nat} {e : Arr2_int} : e ∈ rwP x cls i x.Edges.length ↔ ∃ l t : Nat, Qap x i l t ∧ e = ⟨(l : Int), (cN cls t : Int)⟩ := by
 unfold rwP
 rw [List.take_length]
 simp only [List.mem_map, List.mem_filter, decide_eq_true_eq]
 constructor
 ·rintro ⟨d, ⟨hd, hf⟩, rfl⟩
  obtain ⟨i', l, t, rfl, _, _, _⟩ := Y4 hv hd
  have hii : i' = i := by simp only at hf; omega
  subst hii
  exact ⟨l, t, hd, by simp [QmR]⟩
 ·rintro ⟨l, t, h, rfl⟩
  exact ⟨_, ⟨h, Z⟩, by simp [QmR]⟩
noncomputable def K1 (x : System) (cls : List Int) (i : Nat) : List (Nat × Nat) := (Qct (rwP x cls i x.Edges.length)).map fun p => (p.a0.toNat, p.a1.toNat)
theorem Qd2 {x : System} (hv : VSys x) {cls : List Int} {n b : Nat} (hc : ClsOf cls n b) (hn : n = x.States.toNat) {i : Nat} {e : Arr2_int} (h : e ∈ Qct (rwP x cls i x.Edges.length)) : ∃ l c : Nat, e = ⟨(l : Int), (c : Int)⟩ ∧ l < x.Costs.length ∧ c < b := by
 rw [Qcy, Qew hv] at h
 obtain ⟨l, t, he, rfl⟩ := h
 obtain ⟨_, _, _, e1, _, ht, hl⟩ := Y4 hv he
 simp only [Edge.mk.injEq] at e1
 exact ⟨l, _, Z, by omega, (hc.get (by rw [hn]; omega)).2⟩
theorem QgI {α β : Type} {f : α → β} : ∀ {l k : List α}, (∀ a ∈ l, ∀ b ∈ k, f a = f b → a = b) → l.map f = k.map f → l = k
 | [], [], _, _ => rfl
 | [], b :: k, _, h => by simp at h
 | a :: l, [], _, h => by simp at h
 | a :: l, b :: k, hi, h => by
  simp only [List.map_cons, List.cons.injEq] at h
  rw [hi a (by simp) b (by simp) h.1, QgI (fun c hc d hd => hi c (by simp [hc]) d (by simp [hd])) h.2]
theorem QgF {x : System} (hv : VSys x) {cls : List Int} {b : Nat} (hc : ClsOf cls x.States.toNat b) {i j : Nat} : K1 x cls i = K1 x cls j ↔ ∀ e, e ∈ rwP x cls i x.Edges.length ↔ e ∈ rwP x cls j x.Edges.length := by
 rw [← Qlo]
 constructor
 ·intro h
  refine QgI ?_ h
  intro a ha c hc' e
  obtain ⟨l, k, rfl, _, _⟩ := Qd2 hv hc rfl ha
  obtain ⟨l', k', rfl, _, _⟩ := Qd2 hv hc rfl hc'
  simp at e
  simp [e]
 ·intro h
  unfold K1
  rw [h]
theorem QiP {x : System} (hv : VSys x) {cls : List Int} {b : Nat} (hc : ClsOf cls x.States.toNat b) {i j : Nat} : (∀ e, e ∈ rwP x cls i x.Edges.length ↔ e ∈ rwP x cls j x.Edges.length) ↔ sig (Kw x hv) (eqL cls) i j := by
 have key : ∀ i j, (∀ e, e ∈ rwP x cls i x.Edges.length → e ∈ rwP x cls j x.Edges.length) ↔ Qgd (Kw x hv) (eqL cls) i j := by
  intro i j
  constructor
  ·intro h l t he
   have h1 := h ⟨(l : Int), (cN cls t : Int)⟩ ((Qew hv).2 ⟨l, t, he, rfl⟩)
   obtain ⟨l', u, he', e⟩ := (Qew hv).1 h1
   simp only [Arr2_int.mk.injEq] at e
   obtain ⟨e1, e2⟩ := e
   have : l' = l := by omega
   subst this
   refine ⟨u, he', (QdO hc ((Kw x hv).rng _ _ _ he).2 ((Kw x hv).rng _ _ _ he').2).1 (by omega)⟩
  ·intro h e he
   obtain ⟨l, t, h1, rfl⟩ := (Qew hv).1 he
   obtain ⟨u, h2, h3⟩ := h l t h1
   refine (Qew hv).2 ⟨l, u, h2, ?_⟩
   rw [(QdO hc ((Kw x hv).rng _ _ _ h1).2 ((Kw x hv).rng _ _ _ h2).2).2 h3]
 unfold sig
 rw [← key i j, ← key j i]
 exact ⟨fun h => ⟨fun e he => (h e).1 he, fun e he => (h e).2 he⟩, fun h e => ⟨h.1 e, h.2 e⟩⟩
theorem Qlh {x : System} (hv : VSys x) (hs : x.States ≤ 100) (hl : x.Costs.length ≤ 100) {cls : List Int} (hc : ClsOf cls x.States.toNat 100) :
  Ok (KK x cls) fun r => ClsL ((eqL cls).and (sig (Kw x hv) (eqL cls))) x.States.toNat r.1 ∧ r.2 = (Yw ((eqL cls).and (sig (Kw x hv) (eqL cls))) x.States.toNat : Int) := by
 unfold KK
 have s1 := hv.s1
 have he := hv.e
 obtain ⟨n, hn⟩ : ∃ n : Nat, x.States = (n : Int) := ⟨x.States.toNat, by omega⟩
 have hnt : x.States.toNat = n := by omega
 rw [hnt] at hc ⊢
 have hn100 : n ≤ 100 := by omega
 rw [hn]
 refine Ok.step (Qb0 (by omega) (by omega)) (Ok.bind ?_)
 refine QO (fun m (L : List (List Arr2_int)) => L.length = n ∧ ∀ i, i < n → L[i]? = some (rwP x cls i m)) ⟨by simp, fun i hi => by simp [hi, rwP]⟩ ?_ ?_
 ·rintro m L hm ⟨hL, hrow⟩
  obtain ⟨d, hd⟩ := QY hm
  obtain ⟨i, l, t, rfl, hi, ht, hlc⟩ := Y4 hv (List.mem_of_getElem? hd)
  rw [hnt] at hi ht
  have hct := (hc.get ht).1
  simp only [Qn, hd, Option.bind_some, hrow i hi, hct]
  refine Ok.step (Jh (by have := Qih x cls i m; simp; omega)) (Ok.step (QX (by omega)) (Ok.ret ⟨by simp [hL], fun j hj => ?_⟩))
  unfold rwP
  rw [List.take_add_one, hd]
  by_cases e : j = i
  ·subst e
   rw [List.getElem?_set_self (by omega)]
   simp [List.filter_append, QmR]
  ·rw [List.getElem?_set_ne (Ne.symm e), hrow j hj]
   have : ¬ ((i : Int) = (j : Int)) := by omega
   simp [List.filter_append, this, rwP]
 ·rintro L ⟨hL, hrow⟩
  refine Ok.step (Qb0 (by omega) (by omega)) (Ok.bind ?_)
  refine QO (fun m (t : List ByteArray × List (List Arr2_int)) => t.1.length = n ∧ t.2.length = n ∧ (∀ j, j < m → t.1[j]? = some ⟨(Qc6 (cN cls j) (K1 x cls j)).toArray⟩) ∧ ∀ j, m ≤ j → j < n → t.2[j]? = some (rwP x cls j x.Edges.length)) ⟨by simp, hL, fun j h => absurd h (Nat.not_lt_zero _), fun j _ hj => hrow j hj⟩ ?_ ?_
  ·rintro m ⟨T, M⟩ hm ⟨hT, hM, hdone, hleft⟩
   simp only at hT hM hdone hleft
   have hmn : m < n := by omega
   simp only [QM, Qn, hleft m (Nat.le_refl _) hmn, Option.bind_some]
   have hrl := Qih x cls m x.Edges.length
   rw [Qiu (by omega)]
   simp only [Option.bind_some]
   rw [QX (by omega)]
   have hcm := (hc.get hmn).1
   have hcb := (hc.get hmn).2
   simp only [Option.bind_some, hcm, Qin hcb]
   have ha0 := QgU (l := []) (q := Qb5 (cN cls m)) (by have := QbH hcb; simp; omega)
   simp only [List.map_nil, List.nil_append] at ha0
   have e0 : QiI (cN cls m) = ⟨(Qb5 (cN cls m)).toArray⟩ := rfl
   rw [e0, ha0]
   simp only [Option.bind_some]
   rw [List.getElem?_set_self (by omega)]
   simp only [Option.bind_some, Qjy]
   refine Ok.bind ((Qel Qm7 ⟨0, 0⟩ (QiB (rwP x cls m x.Edges.length)) (by rw [Qe0]; omega)).mono ?_)
   rintro ⟨k, R⟩ ⟨hk, hR, htk⟩
   simp only at hk hR htk
   simp only [QM]
   rw [QX (by simp; omega)]
   simp only [Option.bind_some]
   rw [Qe0] at hk
   refine Ok.must (by simp; omega) ?_
   have hnorm : R.take k = Qct (rwP x cls m x.Edges.length) := htk
   have hnlen : (Qct (rwP x cls m x.Edges.length)).length = k := by rw [← hnorm, List.length_take]; rw [Qe0] at hR; omega
   have hget : ∀ j, j < k → ∃ l c : Nat, R[j]? = some ⟨(l : Int), (c : Int)⟩ ∧ (K1 x cls m)[j]? = some (l, c) ∧ l < 100 ∧ c < 100 := by
    intro j hj
    obtain ⟨y, hy⟩ := QY (show j < (Qct (rwP x cls m x.Edges.length)).length by omega)
    obtain ⟨l, c, rfl, h1, h2⟩ := Qd2 hv hc hnt.symm (List.mem_of_getElem? hy)
    refine ⟨l, c, ?_, ?_, by omega, h2⟩
    ·rw [← hnorm, List.getElem?_take_of_lt hj] at hy; exact hy
    ·unfold K1; rw [List.getElem?_map, hy]; rfl
   refine Ok.bind (QO (fun j (b : List Int) => b = (Qb5 (cN cls m) ++ YU ((K1 x cls m).take j)).map fun c => (c.toNat : Int)) (by simp [YU]) ?_ ?_)
   ·rintro j b hj rfl
    have hjk : j < k := by omega
    obtain ⟨l, c, h1, h2, h3, h4⟩ := hget j hjk
    rw [List.getElem?_set_self (by simp; omega)]
    have hv2 : Qck R 0 k (j : Int) = some ⟨(l : Int), (c : Int)⟩ := by unfold Qck; rw [if_pos (by omega), show (0 : Int) + (j : Int) = (j : Int) by omega, Qn, h1]
    simp only [Option.bind_some, hv2, Qin h3, Qin h4]
    have d1 := QbH h3
    have d2 := QbH h4
    have d0 := QbH hcb
    have e1 : QiI l = ⟨(Qb5 l).toArray⟩ := rfl
    have e2 : QiI c = ⟨(Qb5 c).toArray⟩ := rfl
    have c1 := Qfo (l := [32]) (q := Qb5 l) (by simp; omega)
    have c2 := Qfo (l := [32] ++ Qb5 l) (q := [58]) (by simp; omega)
    have c3 := Qfo (l := [32] ++ Qb5 l ++ [58]) (q := Qb5 c) (by simp; omega)
    rw [e1, e2]
    rw [show (⟨#[32]⟩ : ByteArray) = ⟨([32] : List UInt8).toArray⟩ from rfl, show (⟨#[58]⟩ : ByteArray) = ⟨([58] : List UInt8).toArray⟩ from rfl, c1]
    simp only [Option.bind_some]
    rw [c2]
    simp only [Option.bind_some]
    rw [c3]
    simp only [Option.bind_some]
    have hpl := QhH ((K1 x cls m).take j) (fun p hp => by
     have hp := List.mem_of_mem_take hp
     obtain ⟨q, hq⟩ := List.mem_iff_getElem?.1 hp
     have hqk : q < k := by
      have := (List.getElem?_eq_some_iff.1 hq).1
      unfold K1 at this
      rw [List.length_map, hnlen] at this
      exact this
     obtain ⟨l', c', _, h6, h7, h8⟩ := hget q hqk
     rw [h6] at hq; cases hq
     exact ⟨h7, h8⟩)
    rw [List.length_take] at hpl
    refine Ok.step (QgU (by simp; omega)) (Ok.ret ?_)
    rw [List.take_add_one, h2]
    simp only [Option.toList_some, Qix, YU, List.append_nil]
    simp
   ·rintro b rfl
    have hfull : (K1 x cls m).take ((k : Int).toNat) = K1 x cls m := by
     refine List.take_of_length_le ?_
     unfold K1
     rw [List.length_map, hnlen]; omega
    rw [hfull, show Qb5 (cN cls m) ++ YU (K1 x cls m) = Qc6 (cN cls m) (K1 x cls m) from rfl]
    rw [Qjr (l := Qc6 (cN cls m) (K1 x cls m)) (fun e => Qnn hcb (List.append_eq_nil_iff.1 e).1)]
    simp only [Option.bind_some]
    obtain ⟨y, hy⟩ := QY (show m < T.length by omega)
    rw [hy]
    simp only [Option.bind_some]
    refine Ok.step (QX (by omega)) (Ok.ret ⟨by simp [hT], by simp [hM], fun j hj => ?_, fun j h1 h2 => ?_⟩)
    ·by_cases e : j = m
     ·subst e; simp only; rw [List.getElem?_set_self (by omega)]
     ·simp only; rw [List.getElem?_set_ne (Ne.symm e)]; exact hdone j (by omega)
    ·simp only
     rw [List.getElem?_set_ne (by omega), List.getElem?_set_ne (by omega)]
     exact hleft j (by omega) h2
  ·rintro ⟨T, M⟩ ⟨hT, hM, hdone, _⟩
   simp only at hT hM hdone
   rw [hL] at hdone
   simp only [QM]
   have hpb : ∀ j, j < n → ∀ p ∈ K1 x cls j, p.1 < 100 ∧ p.2 < 100 := by
    intro j hj p hp
    unfold K1 at hp
    obtain ⟨q, hq, rfl⟩ := List.mem_map.1 hp
    obtain ⟨l, c, rfl, h1, h2⟩ := Qd2 hv hc hnt.symm hq
    simp; omega
   have hsz : ∀ s ∈ T, s.size ≤ 100000000 := by
    intro s hs'
    obtain ⟨j, hj⟩ := List.mem_iff_getElem?.1 hs'
    have hjn : j < n := by have := (List.getElem?_eq_some_iff.1 hj).1; omega
    rw [hdone j hjn] at hj
    cases hj
    have h1 := QhH (K1 x cls j) (hpb j hjn)
    have h2 : (K1 x cls j).length ≤ 65536 := by
     unfold K1
     rw [List.length_map]
     have h3 := Qia (QiB (rwP x cls j x.Edges.length)) none
     have h4 := Qih x cls j x.Edges.length
     rw [Qe0] at h3
     unfold Qct
     omega
    have h3 := QbH (hc.get hjn).2
    show (Qc6 (cN cls j) (K1 x cls j)).length ≤ _
    unfold Qc6
    rw [List.length_append]
    omega
   refine Ok.bind ((Qf8 T (by omega) hsz).mono ?_)
   rintro ⟨out, k⟩ ⟨h1, h2⟩
   simp only at h1 h2
   rw [hT] at h1 h2
   have hiff : ∀ i j, i < n → j < n → (eqL T i j ↔ (eqL cls).and (sig (Kw x hv) (eqL cls)) i j) := by
    intro i j hi hj
    unfold eqL
    rw [hdone i hi, hdone j hj]
    have hc' : ClsOf cls x.States.toNat 100 := by rw [hnt]; exact hc
    constructor
    ·intro e
     simp only [Option.some.injEq, ByteArray.mk.injEq] at e
     have e' : Qc6 (cN cls i) (K1 x cls i) = Qc6 (cN cls j) (K1 x cls j) := by simpa using e
     obtain ⟨e1, e2⟩ := QjW (hc.get hi).2 (hc.get hj).2 (hpb i hi) (hpb j hj) e'
     exact ⟨(QdO hc hi hj).1 e1, (QiP hv hc').1 ((QgF hv hc').1 e2)⟩
    ·rintro ⟨e1, e2⟩
     rw [(QdO hc hi hj).2 e1, (QgF hv hc').2 ((QiP hv hc').2 e2)]
   refine Ok.ret ⟨h1.congr hiff, ?_⟩
   rw [h2, QaP hiff (Nat.le_refl _)]
end Go.Pw
/- -/
set_option maxHeartbeats 4000000
set_option maxRecDepth 100000
namespace Go.Pw
theorem QmM (a b : List Int) : Qaj a b = some (decide (a = b)) := Qjf a b
theorem QnU (b : Bool) : Jc b = if b then (⟨#[116, 114, 117, 101]⟩ : ByteArray) else (⟨#[102, 97, 108, 115, 101]⟩) := by
 have h := QaG b
 unfold Kh at h
 have h2 := YC b
 unfold JB at h2
 rw [← Zu h]
 cases b
 ·simpa using (Zu h2).symm
 ·simpa using (Zu h2).symm
theorem Qm5 {a b : Bool} (h : Jc a = Jc b) : a = b := by
 rw [QnU, QnU] at h
 cases a <;> cases b <;> simp at h <;> rfl
theorem Qlx (b : Bool) : (Jc b).size ≤ 5 := by rw [QnU]; cases b <;> decide
theorem ClsL.clsOf {R : Rel} {n b : Nat} {c : List Int} (h : ClsL R n c) (hn : n ≤ b) : ClsOf c n b := by
 refine ⟨h.1, fun y hy => ?_⟩
 obtain ⟨i, hi⟩ := List.mem_iff_getElem?.1 hy
 have hin : i < n := by have := (List.getElem?_eq_some_iff.1 hi).1; rw [h.1] at this; exact this
 obtain ⟨k, h1, h2⟩ := h.2 i hin
 rw [hi] at h1; cases h1
 have := QlZ hin h2
 have := Qkw R n
 exact ⟨k, Z, by omega⟩
theorem Qg2 {x : System} (hv : VSys x) (hs : x.States ≤ 100) (hl : x.Costs.length ≤ 100) : Ok (J7 x) fun r => r.2 = none ∧ IsBis (Kw x hv) r.1 := by
 unfold J7
 have s1 := hv.s1
 have hg := hv.g
 simp only [tV, Qa1.2 hv, Option.bind_some, Bool.not_true, Bool.false_eq_true, if_false]
 obtain ⟨n, hn⟩ : ∃ n : Nat, x.States = (n : Int) := ⟨x.States.toNat, by omega⟩
 have hnt : x.States.toNat = n := by omega
 have hXn : (Kw x hv).n = n := hnt
 have hmk : mk 16 (⟨#[]⟩ : ByteArray) x.States = some (List.replicate n ⟨#[]⟩) := by rw [hn]; exact Qb0 (by omega) (by omega)
 refine Ok.step hmk (Ok.bind ?_)
 refine QO (fun m (T : List ByteArray) => T.length = n ∧ ∀ j, j < m → T[j]? = some (Jc (x.Goals[j]?.getD false))) ⟨by simp, fun j h => absurd h (Nat.not_lt_zero _)⟩ ?_ ?_
 ·rintro m T hm ⟨hT, hd⟩
  obtain ⟨g, hgm⟩ := QY hm
  obtain ⟨y, hy⟩ := QY (show m < T.length by omega)
  simp only [Qn, hgm, hy, Option.bind_some]
  refine Ok.step (QX (by omega)) (Ok.ret ⟨by simp [hT], fun j hj => ?_⟩)
  by_cases e : j = m
  ·subst e; rw [List.getElem?_set_self (by omega), hgm]; rfl
  ·rw [List.getElem?_set_ne (Ne.symm e)]; exact hd j (by omega)
 ·rintro T ⟨hT, hd⟩
  have hgl : x.Goals.length = n := by omega
  rw [hgl] at hd
  have hsz : ∀ s ∈ T, s.size ≤ 100000000 := by
   intro s hs'
   obtain ⟨j, hj⟩ := List.mem_iff_getElem?.1 hs'
   have hjn : j < n := by have := (List.getElem?_eq_some_iff.1 hj).1; omega
   rw [hd j hjn] at hj; cases hj
   have := Qlx (x.Goals[j]?.getD false)
   omega
  refine Ok.bind ((Qf8 T (by omega) hsz).mono ?_)
  rintro ⟨c, k⟩ ⟨h1, h2⟩
  simp only at h1 h2
  rw [hT] at h1 h2
  have hgoal : ∀ i j, i < n → j < n → (eqL T i j ↔ Qfz (Kw x hv) i j) := by
   intro i j hi hj
   unfold eqL Qfz
   rw [hd i hi, hd j hj]
   exact ⟨fun e => Qm5 (Zu e), fun e => by rw [show x.Goals[i]?.getD false = x.Goals[j]?.getD false from e]⟩
  obtain ⟨e1, e2⟩ := (h1.congr hgoal).eqL (by have := QhN (Kw x hv); rw [hXn] at this; exact this)
  have hI : BisI (Kw x hv) c := by
   refine ⟨?_, ?_, by rw [hXn]; exact e2⟩
   ·rw [hXn]; exact fun i j hi hj q => (e1 i j hi hj).2 q
   ·intro S hS
    have := hS.goal
    rw [hXn] at this ⊢
    exact fun i j hi hj q => (e1 i j hi hj).1 (this i j hi hj q)
  have hk : k = (Yw (eqL c) n : Int) := by
   rw [h2, QaP (fun i j hi hj => (hgoal i j hi hj).trans (e1 i j hi hj)) (Nat.le_refl _)]
  simp only [QM]
  refine K3 (fun s : List Int × Int => BisI (Kw x hv) s.1 ∧ s.2 = (Yw (eqL s.1) n : Int)) (fun _ => False) (fun r => r.2 = none ∧ IsBis (Kw x hv) r.1) (fun s => n - s.2.toNat) ⟨hI, hk⟩ ?_ (fun r h => Ok.ret h) (fun _ h => h.elim)
  rintro ⟨c, k⟩ ⟨hI, hk⟩
  simp only at hI hk
  subst hk
  have hcl := hI.cls
  rw [hXn] at hcl
  simp only
  refine (Ok.bind ((Qlh hv hs hl (by rw [hnt]; exact hcl.clsOf (by omega))).mono ?_)).mono fun c hc => hc
  rintro ⟨d, k⟩ ⟨h3, h4⟩
  simp only at h3 h4
  rw [hnt] at h4
  have h3' : ClsL ((eqL c).and (sig (Kw x hv) (eqL c))) (Kw x hv).n d := h3
  have hE : Eqv (Kw x hv).n ((eqL c).and (sig (Kw x hv) (eqL c))) := (Kj c _).and (Qet (Kj c _))
  obtain ⟨e3, e4⟩ := h3'.eqL hE
  rw [hXn] at e3
  rw [QaP e3 (Nat.le_refl _)] at h4
  have hle := Qj6 h3'
  rw [hXn] at hle
  have hle2 := Qkw (eqL d) n
  simp only [QM]
  subst h4
  by_cases hkk : ((Yw (eqL d) n : Nat) : Int) = ((Yw (eqL c) n : Nat) : Int)
  ·rw [if_pos (by simpa using hkk)]
   refine ⟨_, Z, fun s' e => (by cases e), fun s' e => (by cases e), fun r e => ?_⟩
   cases e
   have hst : Yw (eqL c) (Kw x hv).n = Yw (eqL d) (Kw x hv).n := by rw [hXn]; omega
   exact ⟨Z, hI.stop h3' hst⟩
  ·rw [if_neg (by simpa using hkk)]
   refine ⟨_, Z, fun s' e => ?_, fun s' e => (by cases e), fun r e => (by cases e)⟩
   cases e
   exact ⟨⟨hI.next h3', Z⟩, by simp only; omega⟩
end Go.Pw
/- -/
set_option maxHeartbeats 4000000
set_option maxRecDepth 100000
namespace Go.Pw
open Classical in
noncomputable def KC (x : System) (cls : List Int) (s l c : Nat) : Bool := decide (∃ t, Qap x s l t ∧ cN cls t = c)
def QmS (x : System) (cls : List Int) (s l c : Nat) (j : Nat) : Bool := match x.Edges[j]? with
 | some d => decide (d.From = (s : Int)) && (decide (d.Label = (l : Int)) && decide ((cN cls d.To.toNat : Int) = (c : Int)))
 | none => false
theorem Qmz {x : System} (hv : VSys x) {cls : List Int} {b : Nat} (hc : ClsOf cls x.States.toNat b) (s l c : Nat) : JV x cls (s : Int) (l : Int) (c : Int) = some (KC x cls s l c) := by
 unfold JV
 have hd : ∀ j, j < x.Edges.length → ∃ i l' t : Nat, x.Edges[j]? = some ⟨(i : Int), (l' : Int), (t : Int)⟩ ∧ cls[t]? = some (cN cls t : Int) := by
  intro j hj
  obtain ⟨d, hd⟩ := QY hj
  obtain ⟨i, l', t, rfl, _, ht, _⟩ := Y4 hv (List.mem_of_getElem? hd)
  exact ⟨i, l', t, hd, (hc.get ht).1⟩
 rw [YF (p := fun j => !(QmS x cls s l c j)) (r := true) ?_]
 ·by_cases h : ∃ t, Qap x s l t ∧ cN cls t = c
  ·have hb : KC x cls s l c = true := by unfold KC; simp [h]
   obtain ⟨t, h1, h2⟩ := h
   obtain ⟨j, hj⟩ := List.mem_iff_getElem?.1 h1
   rw [hb, if_neg]
   intro hall
   have := List.all_eq_true.1 hall j (by have := (List.getElem?_eq_some_iff.1 hj).1; simpa using this)
   unfold QmS at this
   rw [hj] at this
   simp [h2] at this
  ·have hb : KC x cls s l c = false := by unfold KC; simp [h]
   rw [hb, if_pos]
   refine List.all_eq_true.2 fun j hj => ?_
   obtain ⟨i, l', t, h1, h2⟩ := hd j (by simpa using hj)
   unfold QmS
   rw [h1]
   simp only [Int.toNat_natCast]
   by_cases e1 : (i : Int) = (s : Int)
   ·by_cases e2 : (l' : Int) = (l : Int)
    ·by_cases e3 : (cN cls t : Int) = (c : Int)
     ·exact absurd ⟨t, by unfold Qap; rw [← e1, ← e2]; exact List.mem_of_getElem? h1, by omega⟩ h
     ·simp [e3]
    ·simp [e2]
   ·simp [e1]
 ·intro j hj
  obtain ⟨i, l', t, h1, h2⟩ := hd j hj
  simp only [Qn, h1, Option.bind_some, h2, QmS, Int.toNat_natCast]
  by_cases e1 : (i : Int) = (s : Int)
  ·by_cases e2 : (l' : Int) = (l : Int)
   ·by_cases e3 : (cN cls t : Int) = (c : Int) <;> simp [e1, e2, e3]
   ·simp [e1, e2]
  ·simp [e1]
noncomputable def QiK (x : System) (cls : List Int) (i k : Nat) (j : Nat) : Bool := match x.Edges[j]? with
 | some d => !(decide (d.From = (i : Int)) || decide (d.From = (k : Int))) || (KC x cls i d.Label.toNat (cN cls d.To.toNat) == KC x cls k d.Label.toNat (cN cls d.To.toNat))
 | none => true
open Classical in
noncomputable def QbG (x : System) (hv : VSys x) (cls : List Int) (i k : Nat) : Bool := decide (Qfz (Kw x hv) i k ∧ sig (Kw x hv) (eqL cls) i k)
theorem QcG {x : System} {cls : List Int} {s l c : Nat} : KC x cls s l c = true ↔ ∃ t, Qap x s l t ∧ cN cls t = c := by unfold KC; simp
theorem QmK {x : System} (hv : VSys x) {cls : List Int} {b : Nat} (hc : ClsOf cls x.States.toNat b) {i k : Nat} (hi : i < x.States.toNat) (hk : k < x.States.toNat) : Yl x cls (i : Int) (k : Int) = some (QbG x hv cls i k) := by
 unfold Yl
 have hg := hv.g
 have s1 := hv.s1
 obtain ⟨gi, hgi⟩ := QY (show i < x.Goals.length by omega)
 obtain ⟨gk, hgk⟩ := QY (show k < x.Goals.length by omega)
 have hgR : Qfz (Kw x hv) i k ↔ gi = gk := by
  show x.Goals[i]?.getD false = x.Goals[k]?.getD false ↔ _
  rw [hgi, hgk]; rfl
 simp only [Qn, hgi, hgk, Option.bind_some]
 by_cases hgg : gi = gk
 ·subst hgg
  simp only [beq_self_eq_true, Bool.not_true, Bool.false_eq_true, if_false]
  have hd : ∀ j, j < x.Edges.length → ∃ f l t : Nat, x.Edges[j]? = some ⟨(f : Int), (l : Int), (t : Int)⟩ ∧ cls[t]? = some (cN cls t : Int) := by
   intro j hj
   obtain ⟨d, hd⟩ := QY hj
   obtain ⟨f, l, t, rfl, _, ht, _⟩ := Y4 hv (List.mem_of_getElem? hd)
   exact ⟨f, l, t, hd, (hc.get ht).1⟩
  rw [YF (p := QiK x cls i k) (r := false) ?_]
  ·have hiff : ((List.range x.Edges.length).all (QiK x cls i k)) = true ↔ sig (Kw x hv) (eqL cls) i k := by
    rw [List.all_eq_true]
    have key : ∀ {i k : Nat}, (∀ l t, Qap x i l t → KC x cls i l (cN cls t) = KC x cls k l (cN cls t)) → Qgd (Kw x hv) (eqL cls) i k := by
     intro i k h l t he
     have h1 : KC x cls i l (cN cls t) = true := QcG.2 ⟨t, he, rfl⟩
     rw [h l t he] at h1
     obtain ⟨u, hu, e⟩ := QcG.1 h1
     exact ⟨u, hu, (QdO hc ((Kw x hv).rng _ _ _ he).2 ((Kw x hv).rng _ _ _ hu).2).1 e.symm⟩
    constructor
    ·intro h
     have h' : ∀ f l t : Nat, Qap x f l t → (f = i ∨ f = k) → KC x cls i l (cN cls t) = KC x cls k l (cN cls t) := by
      intro f l t he hf
      obtain ⟨j, hj⟩ := List.mem_iff_getElem?.1 he
      have := h j (by have := (List.getElem?_eq_some_iff.1 hj).1; simpa using this)
      unfold QiK at this
      rw [hj] at this
      have hf' : ((f : Int) = (i : Int)) ∨ ((f : Int) = (k : Int)) := by omega
      simp only [Int.toNat_natCast, Bool.or_eq_true, Bool.not_eq_true', Bool.or_eq_false_iff, decide_eq_false_iff_not, beq_iff_eq] at this
      rcases this with ⟨a1, a2⟩ | h
      ·exact absurd hf' (by omega)
      ·exact h
     exact ⟨key fun l t he => h' i l t he (.inl Z), key fun l t he => (h' k l t he (.inr Z)).symm⟩
    ·rintro ⟨h1, h2⟩ j hj
     obtain ⟨f, l, t, g1, g2⟩ := hd j (by simpa using hj)
     unfold QiK
     rw [g1]
     have he : Qap x f l t := List.mem_of_getElem? g1
     have hmono : ∀ {i k : Nat}, Qgd (Kw x hv) (eqL cls) i k → KC x cls i l (cN cls t) = true → KC x cls k l (cN cls t) = true := by
      intro i k h hl
      obtain ⟨u, hu, e⟩ := QcG.1 hl
      obtain ⟨w, hw, e2⟩ := h l u hu
      refine QcG.2 ⟨w, hw, ?_⟩
      rw [← e]
      exact ((QdO hc ((Kw x hv).rng _ _ _ hu).2 ((Kw x hv).rng _ _ _ hw).2).2 e2).symm
     have : KC x cls i l (cN cls t) = KC x cls k l (cN cls t) := by
      rw [Bool.eq_iff_iff]
      exact ⟨hmono h1, hmono h2⟩
     simp [this]
   by_cases hs : sig (Kw x hv) (eqL cls) i k
   ·rw [if_pos (hiff.2 hs)]
    have : QbG x hv cls i k = true := by unfold QbG; simp [hs, hgR]
    rw [this]
   ·rw [if_neg (fun h => hs (hiff.1 h))]
    have : QbG x hv cls i k = false := by unfold QbG; simp [hs]
    rw [this]
  ·intro j hj
   obtain ⟨f, l, t, h1, h2⟩ := hd j hj
   simp only [Qn, h1, Option.bind_some, h2, Qmz hv hc, QiK, Int.toNat_natCast]
   by_cases e : (f : Int) = (i : Int)
   ·simp only [e, decide_true, if_true, Option.bind_some, Bool.true_or, Bool.not_true, Bool.false_or]
    cases KC x cls i l (cN cls t) <;> cases KC x cls k l (cN cls t) <;> rfl
   ·by_cases e2 : (f : Int) = (k : Int)
    ·simp only [e, e2, decide_true, decide_false, if_true, Bool.false_eq_true, if_false, Option.bind_some, Bool.or_true, Bool.not_true, Bool.false_or]
     by_cases e3 : (k : Int) = (i : Int)
     ·exact absurd (e2.trans e3) e
     ·simp only [e3, decide_false, Bool.false_eq_true, if_false, Option.bind_some]
      cases KC x cls i l (cN cls t) <;> cases KC x cls k l (cN cls t) <;> rfl
    ·simp [e, e2]
 ·have hne : (gi == gk) = false := by simpa using hgg
  simp only [hne, Bool.not_false, if_true]
  have : QbG x hv cls i k = false := by unfold QbG; simp [hgR, hgg]
  rw [this]
def QcV (x : System) (hv : VSys x) (cls : List Int) : Rel := (eqL cls).and ((Qfz (Kw x hv)).and (sig (Kw x hv) (eqL cls)))
theorem Qmq (x : System) (hv : VSys x) (cls : List Int) : Eqv (Kw x hv).n (QcV x hv cls) := (Kj cls _).and ((QhN _).and (Qet (Kj cls _)))
theorem QkV (n : Nat) : ClsL (eqL (List.replicate n (0 : Int))) n (List.replicate n 0) := by
 refine ⟨by simp, fun i hi => ⟨0, by simp [hi], 0, Nat.zero_le _, ?_, fun j hj => absurd hj (Nat.not_lt_zero _), Z⟩⟩
 unfold eqL
 simp [hi, show 0 < n by omega]
theorem QhC {x : System} (hv : VSys x) (hs : x.States ≤ 4096) : Ok (JK x) fun c => IsBis (Kw x hv) c := by
 unfold JK
 have s1 := hv.s1
 obtain ⟨n, hn⟩ : ∃ n : Nat, x.States = (n : Int) := ⟨x.States.toNat, by omega⟩
 have hnt : x.States.toNat = n := by omega
 have hXn : (Kw x hv).n = n := hnt
 have hmk : mk 8 (0 : Int) x.States = some (List.replicate n 0) := by rw [hn]; exact Qb0 (by omega) (by omega)
 rw [hmk]
 simp only [Option.bind_some]
 refine K3 (fun c : List Int => QjT (Kw x hv) (eqL c) ∧ ClsL (eqL c) n c) (fun _ => False) (fun c => IsBis (Kw x hv) c) (fun c => n - Yw (eqL c) n) ⟨?_, QkV n⟩ ?_ (fun r h => Ok.ret h) (fun _ h => h.elim)
 ·intro T _
  rw [hXn]
  intro i j hi hj _
  unfold eqL
  simp [hi, hj]
 ·rintro c ⟨hco, hcl⟩
  have hc : ClsOf c x.States.toNat 4096 := by rw [hnt]; exact hcl.clsOf (by omega)
  have hE := Qmq x hv c
  rw [hXn] at hE
  refine (Ok.bind (QO (fun m (t : Int × List Int) => t.2.length = n ∧ (∀ q, q < m → ∃ k : Nat, t.2[q]? = some (k : Int) ∧ QbY (QcV x hv c) q k) ∧ t.1 = (Yw (QcV x hv c) m : Int)) ⟨by simp, fun q h => absurd h (Nat.not_lt_zero _), Z⟩ ?_ ?_)).mono fun c hc => hc
  ·rintro m ⟨k, l⟩ hm ⟨hl, hd, hk⟩
   simp only at hl hd hk
   simp only [List.length_replicate] at hm
   obtain ⟨y, hy⟩ := QY (show m < l.length by omega)
   simp only [QM, Qn, hy, Option.bind_some]
   rw [QX (by omega)]
   simp only [Option.bind_some]
   refine Ok.must (by simp; omega) ?_
   refine Ok.bind (QO (fun j (l' : List Int) => l'.length = n ∧ (∀ q, q ≠ m → l'[q]? = l[q]?) ∧ ((l'[m]? = some (-1) ∧ ∀ q, q < j → ¬ QcV x hv c q m) ∨ ∃ q kq : Nat, q < j ∧ q < m ∧ QcV x hv c q m ∧ Kt (QcV x hv c) q ∧ l'[m]? = some (kq : Int) ∧ QbY (QcV x hv c) q kq))
    ⟨by simp [hl], fun q hq => by rw [List.getElem?_set_ne (Ne.symm hq)], .inl ⟨by rw [List.getElem?_set_self (by omega)], fun q h => absurd h (Nat.not_lt_zero _)⟩⟩ ?_ ?_)
   ·rintro j l' hj ⟨h1, h2, h3⟩
    have hjm : j < m := by omega
    rcases h3 with ⟨h3, h4⟩ | ⟨q, kq, hq, hqm, hR, hrep, h3, h4⟩
    ·simp only [h3, Option.bind_some]
     rw [if_pos (by decide)]
     have hcm := (hc.get (i := m) (by omega)).1
     have hcj := (hc.get (i := j) (by omega)).1
     simp only [hcm, hcj, Option.bind_some]
     by_cases e : (cN c m : Int) = (cN c j : Int)
     ·rw [if_pos (by simpa using e), QmK hv hc (by omega) (by omega)]
      simp only [Option.bind_some]
      have hcc : eqL c m j := (QdO hc (by omega) (by omega)).1 (by omega)
      by_cases ha : QbG x hv c m j = true
      ·have hR : QcV x hv c j m := by
        unfold QbG at ha
        simp only [decide_eq_true_eq] at ha
        exact ⟨Eq.symm hcc, Eq.symm ha.1, ha.2.2, ha.2.1⟩
       have hrep : Kt (QcV x hv c) j := fun q hq hqR => h4 q (by omega) (hE.trans q j m (by omega) (by omega) (by omega) hqR hR)
       obtain ⟨kj, g1, g2⟩ := hd j (by omega)
       have g1' : l'[j]? = some (kj : Int) := by rw [h2 j (by omega)]; exact g1
       simp only [ha, if_true, g1', Option.bind_some]
       rw [QX (by omega)]
       refine Ok.ret ⟨by simp [h1], fun q hq => by rw [List.getElem?_set_ne (Ne.symm hq)]; exact h2 q hq, .inr ⟨j, kj, by omega, hjm, hR, hrep, by rw [List.getElem?_set_self (by omega)], g2⟩⟩
      ·have ha' : QbG x hv c m j = false := by simpa using ha
       simp only [ha', Bool.false_eq_true, if_false, Option.bind_some]
       refine Ok.ret ⟨h1, h2, .inl ⟨h3, fun q hq hR => ?_⟩⟩
       by_cases eq : q = j
       ·subst eq
        apply ha
        unfold QbG
        simp only [decide_eq_true_eq]
        exact ⟨Eq.symm hR.2.1, hR.2.2.2, hR.2.2.1⟩
       ·exact h4 q (by omega) hR
     ·rw [if_neg (by simpa using e)]
      simp only [Option.bind_some, Bool.false_eq_true, if_false]
      refine Ok.ret ⟨h1, h2, .inl ⟨h3, fun q hq hR => ?_⟩⟩
      by_cases eq : q = j
      ·subst eq
       have := (QdO hc (i := q) (j := m) (by omega) (by omega)).2 hR.1
       omega
      ·exact h4 q (by omega) hR
    ·have hno : ¬ ((kq : Int) < 0) := by omega
     simp only [h3, Option.bind_some, hno, decide_false, Bool.false_eq_true, if_false]
     exact Ok.ret ⟨h1, h2, .inr ⟨q, kq, by omega, hqm, hR, hrep, h3, h4⟩⟩
   ·rintro l' ⟨h1, h2, h3⟩
    have hmt : ((m : Int)).toNat = m := by omega
    rw [hmt] at h3
    have hdone : ∀ q, q < m → ∃ k : Nat, l'[q]? = some (k : Int) ∧ QbY (QcV x hv c) q k := by
     intro q hq
     rw [h2 q (by omega)]
     exact hd q hq
    rcases h3 with ⟨h3, h4⟩ | ⟨q, kq, hq, hqm, hR, hrep, h3, h4⟩
    ·have hrep : Kt (QcV x hv c) m := fun q hq => h4 q hq
     simp only [h3, Option.bind_some]
     rw [if_pos (by decide), QX (by omega)]
     have hkb := Qkw (QcV x hv c) m
     simp only [Option.bind_some, QM]
     refine Ok.ret ⟨by simp [h1], fun q hq => ?_, ?_⟩
     ·by_cases e : q = m
      ·subst e
       exact ⟨Yw (QcV x hv c) q, by rw [List.getElem?_set_self (by omega), hk], q, Nat.le_refl _, hE.refl q (by omega), hrep, Z⟩
      ·rw [List.getElem?_set_ne (Ne.symm e)]; exact hdone q (by omega)
     ·rw [hk, Qbh, QA (by omega) (by omega)]
      simp [hrep]
    ·have hno : ¬ ((kq : Int) < 0) := by omega
     simp only [h3, Option.bind_some, hno, decide_false, Bool.false_eq_true, if_false, QM]
     have hnr : ¬ Kt (QcV x hv c) m := fun h => h q hqm hR
     obtain ⟨r, a1, a2, a3, a4⟩ := h4
     have hrq : r = q := by
      rcases Nat.lt_or_ge r q with hlt | hge
      ·exact absurd a2 (hrep r hlt)
      ·omega
     subst hrq
     refine Ok.ret ⟨h1, fun p hp => ?_, ?_⟩
     ·by_cases e : p = m
      ·subst e
       exact ⟨kq, h3, r, by omega, hR, hrep, a4⟩
      ·exact hdone p (by omega)
     ·rw [hk, Qbh]; simp [hnr]
  ·rintro ⟨k, l⟩ ⟨hl, hd, hk⟩
   simp only at hl hd hk
   simp only [List.length_replicate] at hd
   simp only [QM, QmM, Option.bind_some]
   have hL : ClsL (QcV x hv c) n l := ⟨hl, hd⟩
   obtain ⟨e1, e2⟩ := hL.eqL hE
   by_cases e : l = c
   ·subst e
    simp only [decide_true, if_true]
    refine ⟨_, Z, fun s' e => (by cases e), fun s' e => (by cases e), fun r e => ?_⟩
    cases e
    refine ⟨⟨Kj l _, ?_, ?_⟩, hco, by rw [hXn]; exact hcl⟩
    ·rw [hXn]; exact fun i j hi hj q => ((e1 i j hi hj).2 q).2.1
    ·rw [hXn]; exact fun i j hi hj q => ((e1 i j hi hj).2 q).2.2
   ·simp only [e, decide_false, Bool.false_eq_true, if_false]
    have hle : Yw (eqL c) n ≤ Yw (QcV x hv c) n := Qfg (Kj c _) hE (fun i j hi hj q => q.1) _ (Nat.le_refl _)
    have hcg := QaP e1 (Nat.le_refl n)
    have hne : Yw (eqL c) n ≠ Yw (QcV x hv c) n := by
     intro h
     have h2 := QiR (Kj c n) hE (fun i j hi hj q => q.1) h
     exact e ((hL.congr fun i j hi hj => (h2 i j hi hj).symm).uniq (Kj c n) hcl)
    have hb := Qkw (eqL l) n
    refine ⟨_, Z, fun s' e => ?_, fun s' e => (by cases e), fun r e => (by cases e)⟩
    cases e
    refine ⟨⟨?_, e2⟩, by omega⟩
    intro T hT
    have h1 := hco T hT
    have h2 := hT.goal
    have h3 := hT.sig
    rw [hXn] at h1 h2 h3 ⊢
    intro i j hi hj q
    exact (e1 i j hi hj).1 ⟨h1 i j hi hj q, h2 i j hi hj q, Qgq (by rw [hXn]; exact h1) i j (h3 i j hi hj q)⟩
end Go.Pw
