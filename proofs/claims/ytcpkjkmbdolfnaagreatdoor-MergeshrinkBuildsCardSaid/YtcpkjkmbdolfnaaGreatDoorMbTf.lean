/- -/
import Derived.Test.YtcpkjkmbdolfnaaGreatDoorMbTe
set_option maxHeartbeats 4000000
set_option linter.unusedSimpArgs false
set_option linter.unusedVariables false
namespace Go.Pw
theorem QmZ {n : Int} (h0 : 1 ≤ n) (h1 : n ≤ 4096) : Ok (JJ n) fun r => 1 ≤ r ∧ r * r ≤ n := by
 unfold JJ
 refine K3 (fun r => 0 ≤ r ∧ r ≤ 64 ∧ r * r ≤ n) (fun r => 1 ≤ r ∧ r * r ≤ n) (fun _ => False) (fun r => (64 - r).toNat) ⟨by omega, by omega, by omega⟩ ?_ (fun _ h => h.elim) (fun s h => Ok.ret h)
 rintro r ⟨a, b, c⟩
 have hb : (r + 1) * (r + 1) ≤ 65 * 65 := Int.mul_le_mul (by omega) (by omega) (by omega) (by omega)
 have hp : 0 ≤ (r + 1) * (r + 1) := Int.mul_nonneg (by omega) (by omega)
 have w1 : IntKind.i64.wrap (r + 1) = r + 1 := QA (by omega) (by omega)
 rw [w1, QA (by omega) (by omega)]
 by_cases hl : (r + 1) * (r + 1) ≤ n
 ·simp only [hl, decide_true, if_true]
  have hr : r + 1 ≤ 64 := by
   rcases Int.lt_or_le (r + 1) 65 with h | h
   ·omega
   ·have : 65 * 65 ≤ (r + 1) * (r + 1) := Int.mul_le_mul h h (by omega) (by omega)
    omega
  exact ⟨_, Z, fun s' e => by cases e; exact ⟨⟨by omega, by omega, hl⟩, by omega⟩, fun s' e => (by cases e), fun r e => (by cases e)⟩
 ·simp only [hl, decide_false, Bool.false_eq_true, if_false]
  refine ⟨_, Z, fun s' e => (by cases e), fun s' e => ?_, fun r e => (by cases e)⟩
  cases e
  refine ⟨?_, c⟩
  rcases Int.lt_or_le 0 r with h | h
  ·omega
  ·have : r = 0 := by omega
   subst this
   omega
def stV (s : List Int) (i : Nat) (st : mergeshrink_stage) (a : Int) : Option Int :=
 (Qz s st.variable_).bind fun x => (Qz st.class_ x).bind fun c =>
 if decide ((i : Int) = 0) then some c else (Qz st.after a).bind fun b => some (IntKind.i64.wrap ((IntKind.i64.wrap (b * st.states)) + c))
def vf (s : List Int) : Nat → List mergeshrink_stage → Int → Option Int
 | _, [], a => some a
 | i, st :: l, a => (stV s i st a).bind (vf s (i + 1) l)
theorem QfU (s : List Int) (st : mergeshrink_stage) : ∀ (l : List mergeshrink_stage) (i : Nat) (a : Int), vf s i (l ++ [st]) a = (vf s i l a).bind (stV s (i + l.length) st)
 | [], i, a => by
  simp only [List.nil_append, vf, List.length_nil, Nat.add_zero, Option.bind_some]
  cases stV s i st a <;> rfl
 | u :: l, i, a => by
  simp only [List.cons_append, vf, List.length_cons]
  cases stV s i u a with
  | none => rfl
  | some b => simp only [Option.bind_some]; rw [QfU s st l (i + 1) b, show i + 1 + l.length = i + (l.length + 1) by omega]
def VOK (t : Task) (zs : List mergeshrink_stage) (F : List Int → Nat) : Prop := ∀ s, StateOK t.Vars s → vf s 0 zs 0 = some (F s : Int)
theorem Qmk {a : mergeshrink_Abstraction} {s : List Int} {k : Nat} {d : Int} (hs : StateOK a.vars s) (hv : vf s 0 a.stages 0 = some (k : Int)) (hd : a.distance[k]? = some d) : Q0 a s = some d := by
 classical
 have hp : Qaf a.vars s = some (decide (StateOK a.vars s)) := QiO a.vars s
 refine Ok.eq ?_
 unfold Q0
 rw [hp]
 simp only [hs, decide_true, Option.bind_some, Bool.not_true, Bool.false_eq_true, if_false]
 refine Ok.bind (QO (fun i (b : Int) => vf s 0 (a.stages.take i) 0 = some b) Z ?_ ?_)
 ·intro i b hi h
  obtain ⟨st, hst⟩ := Qy (xs := a.stages) (i := i) hi
  have hsn := QG hst
  have hall : a.stages = a.stages.take (i + 1) ++ a.stages.drop (i + 1) := (List.take_append_drop _ _).symm
  have hstep : ∃ y, stV s i st b = some y := by
   have h2 : vf s 0 (a.stages.take (i + 1)) 0 ≠ none := by
    intro hno
    have : ∀ (l k : List mergeshrink_stage) (j : Nat) (b : Int), vf s j l b = none → vf s j (l ++ k) b = none := by
     intro l
     induction l with
     | nil => intro k j b h; simp [vf] at h
     | cons u l ih =>
      intro k j b h
      simp only [List.cons_append, vf] at h ⊢
      cases hu : stV s j u b with
      | none => rfl
      | some y => rw [hu] at h; simp only [Option.bind_some] at h ⊢; exact ih k (j + 1) y h
    have := this _ (a.stages.drop (i + 1)) 0 0 hno
    rw [← hall, hv] at this
    cases this
   rw [hsn, QfU, h] at h2
   simp only [Option.bind_some, List.length_take, Nat.zero_add, Nat.min_eq_left (Nat.le_of_lt hi)] at h2
   exact Option.ne_none_iff_exists'.1 h2
  obtain ⟨y, hy⟩ := hstep
  refine ⟨y, ?_, ?_⟩
  ·rw [Qn, hst]
   simp only [Option.bind_some]
   rw [← hy]
   unfold stV
   cases Qz s st.variable_ with
   | none => rfl
   | some x =>
    simp only [Option.bind_some]
    cases Qz st.class_ x with
    | none => rfl
    | some c =>
     simp only [Option.bind_some]
     split
     ·rfl
     ·cases Qz st.after b <;> rfl
  ·rw [hsn, QfU, h]
   simp only [Option.bind_some, List.length_take, Nat.zero_add, Nat.min_eq_left (Nat.le_of_lt hi)]
   exact hy
 ·intro b h
  rw [List.take_length, hv] at h
  obtain rfl := Zu h
  rw [Qn, hd]
  exact Ok.ret Z
end Go.Pw
/- -/
set_option maxHeartbeats 8000000
namespace Go.Pw
inductive Full (t : Task) : List Int → List mergeshrink_stage → System → Prop
 | one {v : Int} {y : System} : AtomRes t v y → Full t [v] [⟨v, idL y.States.toNat, [], y.States⟩] y
 | snoc {L : List Int} {zs : List mergeshrink_stage} {x y z : System} {v : Int} : Full t L zs x → AtomRes t v y → ProdRes x y z → Full t (L ++ [v]) (zs ++ [⟨v, idL y.States.toNat, idL x.States.toNat, y.States⟩]) z
theorem Full.uniq {t : Task} {L : List Int} {zs zs' : List mergeshrink_stage} {x x' : System} (h : Full t L zs x) (k : Full t L zs' x') : zs = zs' ∧ x = x' := by
 induction h generalizing zs' x' with
 | @one v y hy =>
  generalize hK : [v] = K at k
  cases k with
  | @one v' y' hy' => simp at hK; subst hK; have := hy.uniq hy'; subst this; exact ⟨rfl, rfl⟩
  | @snoc L zs x y z v' h1 h2 h3 =>
   have : L = [] := by
    have := congrArg List.length hK
    simp at this
    exact this
   subst this
   generalize hN : ([] : List Int) = N at h1
   cases h1 <;> simp at hN
 | @snoc L zs x y z v h1 h2 h3 ih =>
  generalize hK : L ++ [v] = K at k
  cases k with
  | @one v' y' hy' =>
   have : L = [] := by
    have := congrArg List.length hK
    simp at this
    exact this
   subst this
   generalize hN : ([] : List Int) = N at h1
   cases h1 <;> simp at hN
  | @snoc L' zs' x' y' z' v' k1 k2 k3 =>
   obtain ⟨e1, e2⟩ := List.append_inj' hK rfl
   simp at e2
   subst e1; subst e2
   obtain ⟨e3, e4⟩ := ih k1
   subst e3; subst e4
   have := h2.uniq k2
   subst this
   have := h3.uniq k3
   subst this
   exact ⟨Z, Z⟩
theorem caps {X y most root : Int} (hX : 1 ≤ X) (hX2 : X ≤ 100) (hy : 1 ≤ y) (hy2 : y ≤ 64) (hm : 1 ≤ most) (hm2 : most ≤ 4096) (hr : 1 ≤ root) (hr2 : root * root ≤ most) :
  Ok ((if decide (most < (IntKind.i64.wrap (X * y))) then ((if decide (X ≤ root) then ((must (!decide (X = 0))).bind fun u100 => some (X, IntKind.i64.wrap (most.tdiv X)))
   else ((if decide (y ≤ root) then ((must (!decide (y = 0))).bind fun u101 => some (IntKind.i64.wrap (most.tdiv y), y)) else (some (root, root))).bind (QM fun (left100 : Int) (right100 : Int) => some (left100, right100)))).bind (QM fun (left101 : Int) (right101 : Int) => some (left101, right101)))
   else (some (X, y)))) fun r => 1 ≤ r.1 ∧ 1 ≤ r.2 ∧ r.1 * r.2 ≤ most ∧ (X * y ≤ most → r.1 = X ∧ r.2 = y) := by
 have hb : X * y ≤ 100 * 64 := Int.mul_le_mul hX2 hy2 (by omega) (by omega)
 have hp : 0 ≤ X * y := Int.mul_nonneg (by omega) (by omega)
 have hrm : root ≤ root * root := by
  have := Int.mul_le_mul_of_nonneg_left hr (show 0 ≤ root by omega)
  omega
 have dv : ∀ q : Int, 1 ≤ q → q ≤ root → 1 ≤ most.tdiv q ∧ q * most.tdiv q ≤ most ∧ most.tdiv q ≤ most := by
  intro q h1 h2
  rw [Int.tdiv_eq_ediv_of_nonneg (by omega)]
  have e := Int.mul_ediv_add_emod most q
  have e1 := Int.emod_nonneg most (show q ≠ 0 by omega)
  have e2 := Int.emod_lt_of_pos most (show 0 < q by omega)
  have h3 : 1 ≤ most / q := (Int.le_ediv_iff_mul_le (by omega)).2 (by omega)
  have h4 := Int.ediv_le_self q (show 0 ≤ most by omega)
  exact ⟨h3, by omega, h4⟩
 rw [QA (show -9223372036854775808 ≤ X * y by omega) (by omega)]
 by_cases h : most < X * y
 ·simp only [h, decide_true, if_true]
  by_cases h1 : X ≤ root
  ·obtain ⟨d1, d2, d3⟩ := dv X hX h1
   simp only [h1, decide_true, if_true, must, show ¬ X = 0 by omega, decide_false, Bool.not_false, Option.bind_some, QM]
   rw [QA (by omega) (by omega)]
   exact Ok.ret ⟨hX, d1, d2, fun h' => by omega⟩
  ·simp only [h1, decide_false, Bool.false_eq_true, if_false]
   by_cases h2 : y ≤ root
   ·obtain ⟨d1, d2, d3⟩ := dv y hy h2
    simp only [h2, decide_true, if_true, must, show ¬ y = 0 by omega, decide_false, Bool.not_false, Option.bind_some, QM]
    rw [QA (by omega) (by omega)]
    exact Ok.ret ⟨d1, hy, by simp only; rw [Int.mul_comm]; exact d2, fun h' => by omega⟩
   ·simp only [h2, decide_false, Bool.false_eq_true, if_false, Option.bind_some, QM]
    exact Ok.ret ⟨hr, hr, hr2, fun h' => by omega⟩
 ·simp only [h, decide_false, Bool.false_eq_true, if_false]
  exact Ok.ret ⟨hX, hy, by simp only; omega, fun _ => ⟨Z, Z⟩⟩
end Go.Pw
/- -/
set_option maxHeartbeats 8000000
namespace Go.Pw
structure CRes (t : Task) (L : List Int) (most : Int) (zs : List mergeshrink_stage) (ex : Bool) (x : System) (F : List Int → Nat) : Prop where
 i : CInv t L x F
 v : VOK t zs F
 n : zs.length = L.length
 e : ex = true → CEx t L x F
 m : x.States ≤ most
 f : Ke t.Vars ≤ most → ex = true ∧ x.States = YS t L ∧ Full t L zs x
abbrev CSt := List mergeshrink_stage × Bool × Int × Int × List Int × List Edge × List Bool
def Qfy (st : CSt) : System := ⟨st.2.2.1, st.2.2.2.1, st.2.2.2.2.1, st.2.2.2.2.2.1, st.2.2.2.2.2.2⟩
structure OrdOK (t : Task) (order : List Int) : Prop where
 d : order.Nodup
 r : ∀ w ∈ order, 0 ≤ w ∧ w < (t.Vars.length : Int)
theorem Qg7 {l : List Int} (h : l.Nodup) {i : Nat} {v : Int} (hv : l[i]? = some v) : (l.take i ++ [v]).Nodup := by
 rw [← QG hv]
 exact h.sublist (List.take_sublist _ _)
theorem QfX {t : Task} {v : Int} {s : List Int} (hs : StateOK t.Vars s) (h0 : 0 ≤ v) (h1 : v < (t.Vars.length : Int)) : Qz s v = some (Qes v s : Int) := by
 unfold Qz
 rw [if_pos h0]
 exact (Qc8 hs h0 h1).1
theorem Qf3 {t : Task} {v : Int} {y : System} {most : Int} {c : List Int} {ex : Bool} {G : List Int → Nat} {zy : System} {ex0 : Bool} (h0 : 0 ≤ v) (h1 : v < (t.Vars.length : Int)) (hy : AtomRes t v y) (hp : Ke t.Vars ≤ 100) (ht : SmallT t) (hm : 1 ≤ most) (he0 : ex0 = true)
  (hr : SmRes t [v] y (Qes v) ex0 most c zy ex G) : CRes t [v] most [⟨v, c, [], zy.States⟩] ex zy G := by
 have hd := Kf ht.g.v h0 h1
 have hpd : YS t [v] ≤ Ke t.Vars := Qdw ht.g.v (by simp) (by simpa using ⟨h0, h1⟩)
 rw [Qbi] at hpd
 refine ⟨hr.i, fun s hs => ?_, Z, fun h => hr.xx (Qd9 ht h0 h1 hy).2 h, by have := hr.m; omega, fun hle => ?_⟩
 ·simp only [vf, stV, QfX hs h0 h1, Option.bind_some, hr.g s hs]
  simp
 ·obtain ⟨e1, e2, e3⟩ := hr.n (by rw [hy.s]; omega)
  subst e1; subst e2; subst e3
  exact ⟨he0, by rw [Qbi]; exact hy.s, Full.one hy⟩
theorem QgA {t : Task} {L : List Int} {v : Int} {x y x' y' z : System} {most left right : Int} {c1 c2 : List Int} {ex ex1 ex2 : Bool} {F G1 G2 : List Int → Nat} {zs : List mergeshrink_stage} (hL0 : L ≠ []) (hLr : ∀ w ∈ L, 0 ≤ w ∧ w < (t.Vars.length : Int)) (hvL : v ∉ L) (hLn : (L ++ [v]).Nodup) (h0 : 0 ≤ v) (h1 : v < (t.Vars.length : Int)) (hp : Ke t.Vars ≤ 100) (ht : SmallT t)
  (hx : CRes t L most zs ex x F) (hy : AtomRes t v y) (l1 : 1 ≤ left) (r1 : 1 ≤ right) (hlr : left * right ≤ most) (hlx : x.States * y.States ≤ most → left = x.States ∧ right = y.States)
  (hr1 : SmRes t L x F ex left c1 x' ex1 G1) (hr2 : SmRes t [v] y (Qes v) ex1 right c2 y' ex2 G2) (hz : ProdRes x' y' z) (hs : x'.States * y'.States ≤ 4096) (hl : z.Edges.length ≤ 65536) :
  CRes t (L ++ [v]) most (zs ++ [⟨v, c2, c1, y'.States⟩]) ex2 z (fun s => G1 s * y'.States.toNat + G2 s) := by
 have hd := Kf ht.g.v h0 h1
 have hca := Qd9 ht h0 h1 hy
 have s1 := hr1.i.v.s1
 have s2 := hr2.i.v.s1
 have hpd : YS t (L ++ [v]) ≤ Ke t.Vars := Qdw ht.g.v hLn fun w hw => by
  rcases List.mem_append.1 hw with h | h
  ·exact hLr w h
  ·simp at h; subst h; exact ⟨h0, h1⟩
 have hpv : YS t (L ++ [v]) = YS t L * JO t.Vars v := by rw [Qce, Qbi]
 have hpL := Qgs ht.g hLr
 have hxn := hx.i.n
 have b1 : x'.States ≤ 100 := by
  have := hr1.s
  have : YS t L ≤ YS t L * JO t.Vars v := by
   have := Int.mul_le_mul_of_nonneg_left hd.1 (show 0 ≤ YS t L by omega)
   omega
  omega
 have b2 : y'.States ≤ 64 := by have := hr2.s; have := hy.s; omega
 have hcx := Ql0 ht hLr h0 h1 hr1.i hr2.i hz hs hl
 refine ⟨hcx, fun s hs => ?_, by simp [hx.n], fun h => ?_, ?_, fun hle => ?_⟩
 ·rw [QfU, hx.v s hs]
  have hne : ¬ ((0 + zs.length : Nat) : Int) = 0 := by
   have : 0 < L.length := List.length_pos_iff.2 hL0
   have := hx.n
   omega
  simp only [Option.bind_some, stV, QfX hs h0 h1, hr2.g s hs, hne, decide_false, Bool.false_eq_true, if_false, hr1.g s hs]
  have a1 := hr1.i.r s hs
  have a2 := hr2.i.r s hs
  have hb : (G1 s : Int) * y'.States ≤ 100 * 64 := Int.mul_le_mul (by omega) b2 (by omega) (by omega)
  have hb0 : 0 ≤ (G1 s : Int) * y'.States := Int.mul_nonneg (by omega) (by omega)
  rw [QA (show -9223372036854775808 ≤ (G1 s : Int) * y'.States by omega) (by omega), QA (by omega) (by omega)]
  have e : y'.States = (y'.States.toNat : Int) := by omega
  rw [e]
  simp
 ·have e1 := hr2.e h
  have e0 := hr1.e e1
  exact QmF ht hLr h0 h1 hvL hr1.i hr2.i hz (hr1.xx (hx.e e0) e1) (hr2.xx hca.2 h)
 ·rw [hz.s]
  have := hr1.m
  have := hr2.m
  have : x'.States * y'.States ≤ left * right := Int.mul_le_mul (by omega) (by omega) (by omega) (by omega)
  omega
 ·obtain ⟨f1, f2, f3⟩ := hx.f hle
  have hxy : x.States * y.States ≤ most := by rw [f2, hy.s, ← hpv]; omega
  obtain ⟨rfl, rfl⟩ := hlx hxy
  obtain ⟨e1, e2, e3⟩ := hr1.n (Int.le_refl _)
  obtain ⟨e4, e5, e6⟩ := hr2.n (Int.le_refl _)
  subst e1; subst e2; subst e3; subst e4; subst e5; subst e6
  exact ⟨f1, by rw [hz.s, f2, hy.s, hpv], Full.snoc f3 hy hz⟩
theorem Qk6 {t : Task} {L : List Int} {v : Int} {x y : System} {F G : List Int → Nat} (ht : SmallT t) (hp : Ke t.Vars ≤ 100) (hLr : ∀ w ∈ L, 0 ≤ w ∧ w < (t.Vars.length : Int)) (hLn : (L ++ [v]).Nodup) (h0 : 0 ≤ v) (h1 : v < (t.Vars.length : Int)) (hx : CInv t L x F) (hy : CInv t [v] y G) {l : Nat} (hl : l < x.Costs.length) :
  (Jl x l).length * (Jl y l).length ≤ 8192 := by
 have hcl : x.Costs.length = t.Ops.length := by rw [hx.c, List.length_map]
 obtain ⟨o, ho⟩ := Qy (xs := t.Ops) (i := l) (by omega)
 have hd := Kf ht.g.v h0 h1
 have hpL := Qgs ht.g hLr
 have hpd : YS t (L ++ [v]) ≤ Ke t.Vars := Qdw ht.g.v hLn fun w hw => by
  rcases List.mem_append.1 hw with h | h
  ·exact hLr w h
  ·simp at h; subst h; exact ⟨h0, h1⟩
 have hpv : YS t (L ++ [v]) = YS t L * JO t.Vars v := by rw [Qce, Qbi]
 refine ((hx.b l o ho).mul (hy.b l o ho)).top ?_ ?_
 ·rw [← QfD]
  exact Nat.le_trans (Qnm o hLn) (ht.ne o (List.mem_of_getElem? ho))
 ·rw [Qbi]
  have e : (YS t L * JO t.Vars v).toNat = (YS t L).toNat * (JO t.Vars v).toNat := Int.toNat_mul (by omega) (by omega)
  rw [← e, ← hpv]
  omega
end Go.Pw
/- -/
set_option maxHeartbeats 8000000
namespace Go.Pw
def LI (t : Task) (order : List Int) (most : Int) (i : Nat) (st : CSt) : Prop := (i = 0 → st.1 = [] ∧ st.2.1 = true) ∧ (0 < i → ∃ F, CRes t (order.take i) most st.1 st.2.1 (Qfy st) F)
theorem Qd5 {t : Task} (ht : GoodT t) : ∀ o ∈ t.Ops, o.Name.size ≤ 9223372036854775807 := fun o ho => by have := (ht.op o ho).nm; omega
theorem Qi0 {t : Task} (ht : SmallT t) (hp : Ke t.Vars ≤ 100) (h8 : t.Ops.length ≤ 8) {order : List Int} (ho : OrdOK t order) (hne : 0 < order.length) {most : Int} (hm : 1 ≤ most) (hm2 : most ≤ 4096) (vars : List Int) :
  Ok (QB ⟨vars, [], [], true⟩ t order most) fun r => r.1 = none ∧ ∃ F, CRes t order most r.2.2.1 r.2.2.2 r.2.1 F := by
 have hn := Qd5 ht.g
 unfold QB
 have hz : ¬ (order.length : Int) = 0 := by omega
 simp only [hz, decide_false, Bool.false_eq_true, if_false]
 obtain ⟨root, hroot, hr1, hr2⟩ := QmZ hm hm2
 refine Ok.step hroot ?_
 refine Ok.ctl (LI t order most) (fun _ => False) ⟨fun _ => ⟨Z, Z⟩, fun h => absurd h (Nat.lt_irrefl _)⟩ ?_ (fun _ h => h.elim) ?_
 ·rintro i ⟨zs, ex, S, I, C, E, Gl⟩ hi ⟨hI0, hI1⟩
  simp only at hI0 hI1
  obtain ⟨v, hv⟩ := Qy hi
  have hvm := ho.r v (List.mem_of_getElem? hv)
  have h0 := hvm.1
  have h1 := hvm.2
  have hd := Kf ht.g.v h0 h1
  have htk := QG hv
  have hnd := Qg7 ho.d hv
  have hvL : v ∉ order.take i := by
   intro h
   have := (List.nodup_append.1 hnd).2.2 v h
   simp at this
  have hLr : ∀ w ∈ order.take i, 0 ≤ w ∧ w < (t.Vars.length : Int) := fun w hw => ho.r w (List.mem_of_mem_take hw)
  simp only [un7, Qn, hv, Option.bind_some]
  obtain ⟨⟨e, y⟩, hat, ha1, _⟩ := QhS (t := t) (v := v) hn
  obtain ⟨he, hy⟩ | ⟨_, _, hno⟩ := ha1 ⟨ht.g, h0, h1⟩
  rotate_left
  ·exact absurd (ht.room h0 h1) hno
  simp only at he hy
  subst he
  have hca := Qd9 ht h0 h1 hy
  have hys := hy.s
  have hyc : y.Costs.length = t.Ops.length := by rw [hy.c, List.length_map]
  refine Ok.step hat ?_
  simp only [QM, Option.isSome_none, Bool.false_eq_true, if_false]
  by_cases hi0 : i = 0
  ·subst hi0
   obtain ⟨rfl, rfl⟩ := hI0 rfl
   simp only [Int.natCast_zero, decide_true, if_true]
   obtain ⟨⟨c, e, y', ex'⟩, hr, h2, G, hG⟩ := QbC hca.1 (by omega) (by omega) ⟨vars, [], [], true⟩ most
   simp only at h2 hG
   subst h2
   refine Ok.step hr ?_
   simp only [un4, Option.isSome_none, Bool.false_eq_true, if_false]
   rw [Jh (by simp)]
   refine Ok.ret ⟨fun h => by omega, fun _ => ⟨G, ?_⟩⟩
   have := Qf3 h0 h1 hy hp ht hm rfl hG
   rw [htk]
   exact this
  ·simp only [show ¬ (i : Int) = 0 by omega, decide_false, Bool.false_eq_true, if_false]
   obtain ⟨F, hF⟩ := hI1 (by omega)
   have hX := hF.i.v.s1
   have hLne : order.take i ≠ [] := by
    intro h
    have := congrArg List.length h
    rw [List.length_take, Nat.min_eq_left (by omega)] at this
    simp only [List.length_nil] at this
    omega
   have hpL : YS t (order.take i) ≤ Ke t.Vars := Qdw ht.g.v ((List.nodup_append.1 hnd).1) hLr
   have hXn := hF.i.n
   have hXc : (Qfy (zs, ex, S, I, C, E, Gl)).Costs.length = t.Ops.length := by rw [hF.i.c, List.length_map]
   obtain ⟨⟨left, right⟩, hcap, l1, r1, hlr, hlx⟩ := caps (X := S) (y := y.States) (most := most) (root := root) hX (show S ≤ 100 by have : S ≤ YS t (order.take i) := hXn; omega) (by omega) (by omega) hm hm2 hr1 hr2
   refine Ok.step hcap ?_
   simp only at l1 r1 hlr hlx
   simp only [QM]
   obtain ⟨⟨c1, e, x', ex1⟩, hs1, h2, G1, hG1⟩ := QbC hF.i (show S ≤ 100 by have : S ≤ YS t (order.take i) := hXn; omega) (by omega) ⟨vars, zs, [], ex⟩ left
   simp only at h2 hG1
   subst h2
   refine Ok.step hs1 ?_
   simp only [un4, Option.isSome_none, Bool.false_eq_true, if_false]
   obtain ⟨⟨c2, e, y', ex2⟩, hs2, h2, G2, hG2⟩ := QbC hca.1 (by omega) (by omega) ⟨vars, zs, [], ex1⟩ right
   simp only at h2 hG2
   subst h2
   refine Ok.step hs2 ?_
   simp only [un4, Option.isSome_none, Bool.false_eq_true, if_false]
   have hzl := hF.n
   have hol : (order.take i).length ≤ t.Vars.length := Qac ((List.nodup_append.1 hnd).1) hLr
   have hnv := ht.nv
   rw [Jh (by simp; omega)]
   simp only [Option.bind_some]
   have hg1 := hG1.s
   have hg2 := hG2.s
   have q1 := hG1.i.v.s1
   have q2 := hG2.i.v.s1
   have hsx : (Qfy (zs, ex, S, I, C, E, Gl)).States = S := rfl
   have hss : x'.States * y'.States ≤ 4096 := by
    have h1 : x'.States ≤ 100 := by omega
    have : x'.States * y'.States ≤ left * right := Int.mul_le_mul (by have := hG1.m; omega) (by have := hG2.m; omega) (by omega) (by omega)
    omega
   have hcc : x'.Costs = y'.Costs := by rw [hG1.i.c, hG2.i.c]
   have hxl : x'.Costs.length = t.Ops.length := by rw [hG1.i.c, List.length_map]
   refine Ok.bind (Ok.mono (Qf6 hG1.i.v hG2.i.v hcc hss (C := 8192) (fun l hl => Qk6 ht hp hLr hnd h0 h1 hG1.i hG2.i hl) (by omega)) ?_)
   rintro ⟨e, z⟩ ⟨h2, hz, hzE⟩
   simp only at h2 hz hzE
   subst h2
   simp only [QM, Option.isSome_none, Bool.false_eq_true, if_false]
   have := QgA hLne hLr hvL hnd h0 h1 hp ht hF hy l1 r1 hlr hlx hG1 hG2 hz hss (by omega)
   rw [← htk] at this
   exact Ok.ret ⟨fun h => by omega, fun _ => ⟨_, this⟩⟩
 ·rintro ⟨zs, ex, S, I, C, E, Gl⟩ ⟨_, hI1⟩
  simp only at hI1
  obtain ⟨F, hF⟩ := hI1 hne
  rw [List.take_length] at hF
  exact Ok.ret ⟨Z, F, hF⟩
end Go.Pw
/- -/
set_option maxHeartbeats 8000000
namespace Go.Pw
theorem Qmg (xs ys : List Int) : QZ xs ys = some (decide (xs = ys)) := Qjf xs ys
theorem Qkf (n : Nat) : (idL n).Pairwise fun a b => a ≤ b := by
 unfold idL
 refine List.pairwise_map.2 (List.Pairwise.imp ?_ (List.pairwise_lt_range (n := n)))
 intro a b h; omega
theorem Qfk (n : Nat) : (idL n).Nodup := by
 unfold idL
 refine List.pairwise_map.2 (List.Pairwise.imp ?_ (List.nodup_range (n := n)))
 intro a b h e; omega
theorem QfY {n : Nat} {w : Int} : w ∈ idL n ↔ 0 ≤ w ∧ w < (n : Int) := by
 simp only [idL, List.mem_map, List.mem_range]
 constructor
 ·rintro ⟨i, hi, rfl⟩; omega
 ·rintro ⟨h0, h1⟩; exact ⟨w.toNat, by omega, by omega⟩
theorem Qh9 {l : List Int} {n : Nat} (h : l.length * 8 ≤ 140737488351232) : ∃ k, JC l = some k ∧ (k = idL n ↔ l.Perm (idL n)) := by
 obtain ⟨k, h1, h2, h3⟩ := Qdc (l := l) (by omega)
 refine ⟨k, ?_, fun e => e ▸ h2.symm, fun hp => ?_⟩
 ·unfold JC QcH
  rw [if_pos h]
  simp only [Option.bind_some, h1]
 ·exact List.Perm.eq_of_pairwise (fun a b _ _ h1 h2 => by omega) h3 (Qkf n) (h2.trans hp)
theorem QiY {t : Task} {order : List Int} (h : order.Perm (idL t.Vars.length)) : OrdOK t order :=
 ⟨h.nodup_iff.2 (Qfk _), fun w hw => QfY.1 (h.mem_iff.1 hw)⟩
theorem Qll {t : Task} {order : List Int} (h : order.Perm (idL t.Vars.length)) : YS t order = Ke t.Vars := by
 unfold YS
 rw [Qe3 (h.map _)]
 congr 1
 apply List.ext_getElem?
 intro i
 by_cases hi : i < t.Vars.length
 ·rw [List.getElem?_map, Qio hi, QfZ hi]; rfl
 ·rw [List.getElem?_eq_none (by rw [List.length_map, Qdy]; omega), List.getElem?_eq_none (by omega)]
structure BRes (t : Task) (order : List Int) (most : Int) (a : mergeshrink_Abstraction) (x : System) (F : List Int → Nat) : Prop where
 vars : a.vars = t.Vars
 c : CRes t order (max 1 (min most 4096)) a.stages a.exact x F
 d : SP (Kz x true) (QdD x) x.States.toNat a.distance
theorem Qjl {t : Task} (ht : SmallT t) (hp : Ke t.Vars ≤ 100) (h8 : t.Ops.length ≤ 8) (hn : 0 < t.Vars.length) {order : List Int} (hl : order.length * 8 ≤ 140737488351232) (most : Int) :
  (¬ order.Perm (idL t.Vars.length) → QR t order most = some (none, some 2)) ∧ (order.Perm (idL t.Vars.length) → ∃ a x F, QR t order most = some (some a, none) ∧ BRes t order most a x F) := by
 have hnm := Qd5 ht.g
 obtain ⟨e, he, hg⟩ := Qg1 t hnm
 have := hg.2 ht.g
 subst this
 obtain ⟨k, hk1, hk2⟩ := Qh9 (l := order) (n := t.Vars.length) hl
 have hnv := ht.nv
 unfold QR
 rw [he, hk1, QfW (by omega)]
 simp only [Option.bind_some, Option.isSome_none, Bool.false_eq_true, if_false, Qmg]
 by_cases h : k = idL t.Vars.length
 ·refine ⟨fun h' => absurd (hk2.1 h) h', fun hperm => ?_⟩
  simp only [h, decide_true, Bool.not_true, Bool.false_eq_true, if_false]
  have hlen : order.length = t.Vars.length := by rw [hperm.length_eq, Qdy]
  have hcl : Qx t.Vars = some t.Vars := by
   unfold Qx
   rw [Jh (by simp; omega)]
   rfl
  rw [hcl]
  simp only [Option.bind_some]
  obtain ⟨⟨e, x, zs, ex⟩, hr, h2, F, hF⟩ := Qi0 ht hp h8 (QiY hperm) (by omega) (most := max 1 (min most 4096)) (by omega) (by omega) t.Vars
  simp only at h2 hF
  subst h2
  obtain ⟨⟨d, e⟩, hd, h3, h4⟩ := QkG hF.i.v
  simp only at h3 h4
  subst h3
  refine ⟨⟨t.Vars, zs, d, ex⟩, x, F, ?_, Z, hF, h4⟩
  rw [hr]
  simp only [Option.bind_some, un4, Option.isSome_none, Bool.false_eq_true, if_false]
  rw [hd]
  rfl
 ·refine ⟨fun _ => ?_, fun hperm => absurd (hk2.2 hperm) h⟩
  simp only [h, decide_false, Bool.not_false, if_true]
section
variable {t : Task} {order : List Int} {most : Int} {a : mergeshrink_Abstraction} {x : System} {F : List Int → Nat}
theorem BRes.val (h : BRes t order most a x F) {s : List Int} (hs : StateOK t.Vars s) : ∃ d, a.distance[F s]? = some d ∧ Q0 a s = some d := by
 obtain ⟨d, hd⟩ := Qy (xs := a.distance) (i := F s) (by rw [h.d.len]; exact h.c.i.r s hs)
 exact ⟨d, hd, Qmk (by rw [h.vars]; exact hs) (h.c.v s hs) hd⟩
theorem QlR (a : mergeshrink_Abstraction) : QE a = (a.distance.length : Int) := by
 have h := Jy a
 unfold Jj at h
 exact (Zu h).symm
theorem QkF (a : mergeshrink_Abstraction) : QI a = a.exact := by
 have h := Jr a
 unfold Jg at h
 exact (Zu h).symm
theorem BRes.size (h : BRes t order most a x F) : (a.distance.length : Int) = x.States := by
 have := h.c.i.v.s1
 rw [h.d.len]; omega
theorem BRes.le (ht : SmallT t) (h : BRes t order most a x F) {k : List Int} (hk : SP (BA t) (QfF t) (Ke t.Vars).toNat k) {s : List Int} (hs : StateOK t.Vars s) :
  ∃ d b, Q0 a s = some d ∧ a.distance[F s]? = some d ∧ k[(rk t.Vars s).toNat]? = some b ∧ 0 ≤ d ∧ d ≤ b ∧ (QlH t → order.Perm (idL t.Vars.length) → a.exact = true → d = b) := by
 obtain ⟨d, b, h1, h2, h3, h4, h5⟩ := Qm9 ht h.c.i h.d hk hs
 obtain ⟨d', e1, e2⟩ := h.val hs
 rw [h1] at e1
 cases e1
 exact ⟨d, b, e2, h1, h2, h3, h4, fun ho hperm hx => h5 ho (fun w hw => hperm.mem_iff.2 (QfY.2 (by omega))) (h.c.e hx)⟩
end
end Go.Pw
