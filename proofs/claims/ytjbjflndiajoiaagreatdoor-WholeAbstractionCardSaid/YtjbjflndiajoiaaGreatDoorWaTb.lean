/- -/
import Derived.Test.YtjbjflndiajoiaaGreatDoorWaTa
import Derived.Test.YtjbjflndiajoiaaGreatDoorBB
set_option maxHeartbeats 4000000
set_option linter.unusedSimpArgs false
set_option linter.unusedVariables false
namespace Go.Pw
/-! ### small words -/
theorem QnV (s : List Int) (v : Int) : Ok (JD s v) fun n => 0 ≤ n ↔ v ∈ s := by
 unfold JD
 refine Ok.ctl (fun i _ => v ∉ s.take i) (fun n => 0 ≤ n ∧ v ∈ s) (by simp) ?_ ?_ ?_
 ·rintro i _ hi h
  obtain ⟨x, hx⟩ := Qt hi
  simp only [Qo, hx, Option.bind_some]
  by_cases e : v = x
  ·simp only [e, decide_true, if_true]
   exact Ok.ret ⟨by omega, List.mem_of_getElem? hx⟩
  ·simp only [e, decide_false, Bool.false_eq_true, if_false]
   refine Ok.ret ?_
   show v ∉ s.take (i + 1)
   rw [Q6 hx]
   simp [h, e]
 ·rintro r ⟨h1, h2⟩
  exact Ok.ret ⟨fun _ => h2, fun _ => h1⟩
 ·intro _ h
  rw [List.take_length] at h
  exact Ok.ret ⟨fun h => by omega, fun h' => absurd h' h⟩
theorem QbH (s : List Int) (v : Int) : QC s v = some (decide (v ∈ s)) := by
 unfold QC
 obtain ⟨n, hn, h⟩ := QnV s v
 rw [hn]
 simp only [Option.bind_some, Option.some.injEq]
 by_cases h1 : v ∈ s
 ·simp [h1, h.2 h1]
 ·have : ¬ 0 ≤ n := fun h2 => h1 (h.1 h2)
  simp [h1, this]
theorem Qlp (s : List Int) (v : Int) : JC s v = some (decide (v ∈ s)) := QbH s v
open Classical in
theorem Qqq (f : List Fact) (v : Int) : Qa9 f v = some (decide (∃ x ∈ f, x.Var = v)) := by
 unfold Qa9 Qau
 have h1 : Ok (Ky f v) fun n => (0 ≤ n ↔ ∃ x ∈ f, x.Var = v) := by
  unfold Ky
  refine Ok.ctl (fun i _ => ¬ ∃ x ∈ f.take i, x.Var = v) (fun n => 0 ≤ n ∧ ∃ x ∈ f, x.Var = v) (by simp) ?_ ?_ ?_
  ·rintro i _ hi h
   obtain ⟨x, hx⟩ := Qt hi
   have ht : Yy x v = decide (x.Var = v) := by
    have := QcL x v
    unfold Yz at this
    exact (Zu this).symm
   simp only [Qo, hx, Option.bind_some, ht]
   by_cases hb : x.Var = v
   ·simp only [hb, decide_true, if_true]
    exact Ok.ret ⟨by omega, x, List.mem_of_getElem? hx, hb⟩
   ·simp only [hb, decide_false, Bool.false_eq_true, if_false]
    refine Ok.ret ?_
    show ¬ ∃ x ∈ f.take (i + 1), x.Var = v
    rw [Q6 hx]
    rintro ⟨y, hy, e⟩
    rcases List.mem_append.1 hy with hy | hy
    ·exact h ⟨y, hy, e⟩
    ·simp only [List.mem_singleton] at hy; subst hy; exact hb e
  ·rintro r ⟨h1, h2⟩
   exact Ok.ret ⟨fun _ => h2, fun _ => h1⟩
  ·intro _ h
   rw [List.take_length] at h
   exact Ok.ret ⟨fun h => by omega, fun h' => absurd h' h⟩
 obtain ⟨n, hn, h2⟩ := h1
 rw [hn]
 simp only [Option.bind_some, Option.some.injEq]
 by_cases h3 : ∃ x ∈ f, x.Var = v
 ·simp only [h3, h2.2 h3, decide_true]
 ·have : ¬ 0 ≤ n := fun h => h3 (h2.1 h)
  simp only [h3, this, decide_false]
theorem QbP {l : List Int} {n : Nat} (hn : l.Nodup) (h : ∀ w ∈ l, 0 ≤ w ∧ w < (n : Int)) : l.length ≤ n := by
 have := nodup_short' (n := n) (L := l.map Int.toNat) ?_ ?_
 ·simpa using this
 ·refine List.pairwise_map.2 (List.Pairwise.imp_of_mem ?_ hn)
  intro a b ha hb hne e
  have := h a ha
  have := h b hb
  exact hne (by omega)
 ·intro x hx
  obtain ⟨y, hy, rfl⟩ := List.mem_map.1 hx
  have := h y hy
  omega
/-! ### the variables outside -/
theorem Qep {l : List Int} (h : l.length < 4611686018427387904) : ∃ k, Qab l = some k ∧ k.Perm l ∧ k.Pairwise fun a b => a ≤ b := by
 unfold Qab
 rw [if_pos h]
 refine ⟨_, Z, List.mergeSort_perm l _, ?_⟩
 have hp : (l.mergeSort fun x y => decide (x ≤ y)).Pairwise (fun x y => decide (x ≤ y) = true) := by
  apply List.pairwise_mergeSort
  ·intro a b c h1 h2
   simp only [decide_eq_true_eq] at *
   omega
  ·intro a b
   simp only [Bool.or_eq_true, decide_eq_true_eq]
   omega
 exact hp.imp fun h => by simpa using h
/-! ### combinations of values -/
def Ka (vars : List Int) (w : Int) : Int := vars[w.toNat]?.getD 0
def JW : List Int → Int
 | [] => 1
 | x :: l => x * JW l
theorem QbF (l k : List Int) : JW (l ++ k) = JW l * JW k := by
 induction l with
 | nil => simp [JW]
 | cons x l ih => simp only [List.cons_append, JW, ih, Int.mul_assoc]
theorem QbN {l : List Int} (h : ∀ x ∈ l, 1 ≤ x) : 1 ≤ JW l := by
 induction l with
 | nil => simp [JW]
 | cons x l ih =>
  have h1 := h x (by simp)
  have h2 := ih fun y hy => h y (by simp [hy])
  simp only [JW]
  have : 1 * 1 ≤ x * JW l := Int.mul_le_mul h1 h2 (by omega) (by omega)
  omega
theorem Qhx {l k : List Int} (h : l.Perm k) : JW l = JW k := by
 induction h with
 | nil => rfl
 | cons x _ ih => simp only [JW, ih]
 | swap x y l => simp only [JW]; rw [← Int.mul_assoc, ← Int.mul_assoc, Int.mul_comm y x]
 | trans _ _ h1 h2 => rw [h1, h2]
theorem Qdh {l k : List Int} (hl : ∀ x ∈ l, 1 ≤ x) (hk : ∀ x ∈ k, 1 ≤ x) : JW l ≤ JW (l ++ k) := by
 rw [QbF]
 have h1 := QbN hl
 have h2 := QbN hk
 have : JW l * 1 ≤ JW l * JW k := Int.mul_le_mul_of_nonneg_left h2 (by omega)
 omega
theorem Y6 {t : Task} (hv : ∀ n ∈ t.Vars, 1 ≤ n ∧ n ≤ 64) {w : Int} (h0 : 0 ≤ w) (h1 : w < (t.Vars.length : Int)) : 1 ≤ Ka t.Vars w ∧ Ka t.Vars w ≤ 64 := by
 obtain ⟨d, hd⟩ := Qt (xs := t.Vars) (i := w.toNat) (by omega)
 have := hv d (List.mem_of_getElem? hd)
 unfold Ka
 rw [hd]
 exact this
theorem Qh4 {t : Task} (hv : ∀ n ∈ t.Vars, 1 ≤ n ∧ n ≤ 64) {l : List Int} (hl : ∀ w ∈ l, 0 ≤ w ∧ w < (t.Vars.length : Int)) :
  Ok (K6 t l) fun r => (JW (l.map (Ka t.Vars)) ≤ 4096 ∧ r = (JW (l.map (Ka t.Vars)), true)) ∨ (4096 < JW (l.map (Ka t.Vars)) ∧ r = (0, false)) := by
 have hall : ∀ k : List Int, (∀ w ∈ k, w ∈ l) → ∀ x ∈ k.map (Ka t.Vars), 1 ≤ x := by
  intro k hk x hx
  obtain ⟨w, hw, rfl⟩ := List.mem_map.1 hx
  have := hl w (hk w hw)
  exact (Y6 hv this.1 this.2).1
 unfold K6
 refine Ok.ctl (fun i n => n = JW ((l.take i).map (Ka t.Vars)) ∧ n ≤ 4096) (fun r => 4096 < JW (l.map (Ka t.Vars)) ∧ r = (0, false)) ⟨by simp [JW], by omega⟩ ?_ ?_ ?_
 ·rintro i n hi ⟨h1, h2⟩
  obtain ⟨w, hw⟩ := Qt hi
  have hwm := List.mem_of_getElem? hw
  have hr := hl w hwm
  have hd := Y6 hv hr.1 hr.2
  have hp := QbN (hall (l.take i) fun w hw => List.mem_of_mem_take hw)
  rw [← h1] at hp
  have e1 : Q9 t.Vars w = some (Ka t.Vars w) := Qfw hr.1 hr.2
  have hm : JW ((l.take (i + 1)).map (Ka t.Vars)) = n * Ka t.Vars w := by
   rw [Q6 hw, List.map_append, QbF, ← h1]
   simp [JW]
  have b1 : n * Ka t.Vars w ≤ 4096 * 64 := Int.mul_le_mul h2 hd.2 (by omega) (by omega)
  have b0 : 0 ≤ n * Ka t.Vars w := Int.mul_nonneg (by omega) (by omega)
  simp only [Qo, hw, e1, Option.bind_some, QD (n := n * Ka t.Vars w) (by omega) (by omega)]
  by_cases h3 : 4096 < n * Ka t.Vars w
  ·simp only [h3, decide_true, if_true]
   refine Ok.ret ⟨?_, Z⟩
   have h4 := Qdh (hall (l.take (i + 1)) fun w hw => List.mem_of_mem_take hw) (hall (l.drop (i + 1)) fun w hw => List.mem_of_mem_drop hw)
   rw [← List.map_append, List.take_append_drop] at h4
   omega
  ·simp only [h3, decide_false, Bool.false_eq_true, if_false]
   exact Ok.ret ⟨hm.symm, by omega⟩
 ·rintro r h
  exact Ok.ret (.inr h)
 ·rintro n ⟨h1, h2⟩
  rw [List.take_length] at h1
  exact Ok.ret (.inl ⟨by omega, by rw [h1]⟩)
/-! ### put -/
def QbD (vars : List Int) : List Int → List Int → Int → List Int
 | [], s, _ => s
 | w :: r, s, k => QbD vars r (s.set w.toNat (k % Ka vars w)) (k / Ka vars w)
def Qbe (vars : List Int) : List Int → (Int → Int) → Int
 | [], _ => 0
 | w :: r, a => a w + Ka vars w * Qbe vars r a
theorem Qkl {vars : List Int} : ∀ (r s : List Int) (k : Int), (QbD vars r s k).length = s.length
 | [], _, _ => rfl
 | w :: r, s, k => by unfold QbD; rw [Qkl r]; simp
theorem Qel {vars : List Int} : ∀ {r s : List Int} {k : Int} {w : Nat}, (∀ x ∈ r, 0 ≤ x) → (w : Int) ∉ r → (QbD vars r s k)[w]? = s[w]?
 | [], _, _, _, _, _ => rfl
 | x :: r, s, k, w, h, hw => by
  unfold QbD
  rw [Qel (fun y hy => h y (by simp [hy])) (fun hm => hw (by simp [hm])), List.getElem?_set_ne]
  intro e
  have := h x (by simp)
  exact hw (by simp; left; omega)
theorem QlE {vars : List Int} : ∀ {r s : List Int} {k : Int}, r.Nodup → (∀ x ∈ r, 0 ≤ x ∧ x.toNat < s.length ∧ 1 ≤ Ka vars x) → ∀ x ∈ r, ∃ y, (QbD vars r s k)[x.toNat]? = some y ∧ 0 ≤ y ∧ y < Ka vars x
 | [], _, _, _, _, x, hx => by simp at hx
 | w :: r, s, k, hn, h, x, hx => by
  obtain ⟨hnw, hnr⟩ := List.nodup_cons.1 hn
  unfold QbD
  by_cases hxr : x ∈ r
  ·exact QlE hnr (fun y hy => by have := h y (by simp [hy]); simpa using this) x hxr
  ·rcases List.mem_cons.1 hx with rfl | hx
   ·have hr := h x (by simp)
    refine ⟨k % Ka vars x, ?_, Int.emod_nonneg _ (by omega), Int.emod_lt_of_pos _ (by omega)⟩
    rw [Qel (fun y hy => (h y (by simp [hy])).1) (by rw [Int.toNat_of_nonneg hr.1]; exact hnw), List.getElem?_set_self hr.2.1]
   ·exact absurd hx hxr
theorem Qjw {vars : List Int} {a : Int → Int} : ∀ {r : List Int}, (∀ x ∈ r, 0 ≤ a x ∧ a x < Ka vars x) → 0 ≤ Qbe vars r a ∧ Qbe vars r a < JW (r.map (Ka vars))
 | [], _ => by simp [Qbe, JW]
 | w :: r, h => by
  have h1 := h w (by simp)
  obtain ⟨h2, h3⟩ := Qjw (vars := vars) (a := a) (r := r) fun y hy => h y (by simp [hy])
  simp only [Qbe, JW, List.map_cons]
  have h4 : 0 ≤ Ka vars w * Qbe vars r a := Int.mul_nonneg (by omega) h2
  have h5 : Ka vars w * (Qbe vars r a + 1) ≤ Ka vars w * JW (r.map (Ka vars)) := Int.mul_le_mul_of_nonneg_left (by omega) (by omega)
  rw [Int.mul_add, Int.mul_one] at h5
  omega
theorem Qkk {vars : List Int} {a : Int → Int} : ∀ {r s : List Int}, r.Nodup → (∀ x ∈ r, 0 ≤ x ∧ x.toNat < s.length ∧ 0 ≤ a x ∧ a x < Ka vars x) → ∀ x ∈ r, (QbD vars r s (Qbe vars r a))[x.toNat]? = some (a x)
 | [], _, _, _, x, hx => by simp at hx
 | w :: r, s, hn, h, x, hx => by
  obtain ⟨hnw, hnr⟩ := List.nodup_cons.1 hn
  have hw := h w (by simp)
  have hmod : (a w + Ka vars w * Qbe vars r a) % Ka vars w = a w := by rw [Int.add_mul_emod_self_left]; exact Int.emod_eq_of_lt hw.2.2.1 hw.2.2.2
  have hdiv : (a w + Ka vars w * Qbe vars r a) / Ka vars w = Qbe vars r a := by rw [Int.add_mul_ediv_left _ _ (by omega), Int.ediv_eq_zero_of_lt hw.2.2.1 hw.2.2.2, Int.zero_add]
  simp only [Qbe, QbD, hmod, hdiv]
  by_cases hxr : x ∈ r
  ·exact Qkk hnr (fun y hy => by have := h y (by simp [hy]); simpa using this) x hxr
  ·rcases List.mem_cons.1 hx with rfl | hx
   ·rw [Qel (fun y hy => (h y (by simp [hy])).1) (by rw [Int.toNat_of_nonneg hw.1]; exact hnw), List.getElem?_set_self hw.2.1]
   ·exact absurd hx hxr
theorem QhG {t : Task} (hv : ∀ n ∈ t.Vars, 1 ≤ n ∧ n ≤ 64) {l : List Int} (hl : ∀ w ∈ l, 0 ≤ w ∧ w < (t.Vars.length : Int)) : ∀ (m : Nat) (s : List Int) (k : Int), m ≤ l.length → s.length = t.Vars.length → 0 ≤ k → k ≤ 4611686018427387904 →
  ∃ q, forS (fun i => QI fun (s : List Int) (n : Int) => (Q9 l ((l.length - 1 - i : Nat) : Int)).bind fun v => (Q9 t.Vars v).bind fun d => (must (!decide (d = 0))).bind fun _ => (JL s v (n.tmod d)).bind fun s' => some (s', IntKind.i64.wrap (n.tdiv d))) m (l.length - m) (s, k) = some (QbD t.Vars (l.take m).reverse s k, q)
 | 0, s, k, _, _, _, _ => ⟨k, rfl⟩
 | m + 1, s, k, hm, hs, h0, h1 => by
  obtain ⟨w, hw⟩ := Qt (xs := l) (i := m) (by omega)
  have hr := hl w (List.mem_of_getElem? hw)
  have hd := Y6 hv hr.1 hr.2
  have e1 : Q9 t.Vars w = some (Ka t.Vars w) := Qfw hr.1 hr.2
  have e0 : l.length - 1 - (l.length - (m + 1)) = m := by omega
  have hm0 : must (!decide (Ka t.Vars w = 0)) = some () := by unfold must; rw [if_pos (by simp; omega)]
  have ht1 : k.tmod (Ka t.Vars w) = k % Ka t.Vars w := Int.tmod_eq_emod_of_nonneg h0
  have ht2 : k.tdiv (Ka t.Vars w) = k / Ka t.Vars w := Int.tdiv_eq_ediv_of_nonneg h0
  have hq0 : 0 ≤ k / Ka t.Vars w := Int.ediv_nonneg h0 (by omega)
  have hq1 : k / Ka t.Vars w ≤ k := Int.ediv_le_self _ h0
  have hset : JL s w (k % Ka t.Vars w) = some (s.set w.toNat (k % Ka t.Vars w)) := by unfold JL; rw [if_pos ⟨hr.1, by omega⟩]
  obtain ⟨q, hq⟩ := QhG hv hl m (s.set w.toNat (k % Ka t.Vars w)) (k / Ka t.Vars w) (by omega) (by simpa using hs) hq0 (by omega)
  refine ⟨q, ?_⟩
  rw [Q6 hw, List.reverse_append, List.reverse_singleton, List.singleton_append]
  simp only [forS, QI, e0, Qo, hw, e1, hm0, Option.bind_some, ht1, ht2, hset, QD (n := k / Ka t.Vars w) (by omega) (by omega), QbD]
  rw [show l.length - (m + 1) + 1 = l.length - m by omega]
  exact hq
theorem QkR {t : Task} (hv : ∀ n ∈ t.Vars, 1 ≤ n ∧ n ≤ 64) {l : List Int} (hl : ∀ w ∈ l, 0 ≤ w ∧ w < (t.Vars.length : Int)) (hb : l.length ≤ 4096) {s : List Int} {k : Int} (hs : s.length = t.Vars.length) (h0 : 0 ≤ k) (h1 : k ≤ 4611686018427387904) : Qfv t l s k = some (QbD t.Vars l.reverse s k) := by
 obtain ⟨q, hq⟩ := QhG hv hl l.length s k (Nat.le_refl _) hs h0 h1
 rw [Nat.sub_self, List.take_length] at hq
 unfold Qfv
 have hm : must (decide (l.length ≤ 17592186044415)) = some () := by unfold must; rw [if_pos (by simp; omega)]
 rw [hm]
 simp only [Option.bind_some]
 rw [hq]
 rfl
/-! ### conditions and effects -/
def Ki (f : List Fact) (s : List Int) : Prop := ∀ x ∈ f, s[x.Var.toNat]? = some x.Val
open Classical in
theorem Qjh {vars s : List Int} {f : List Fact} (hf : FactsOK vars f) (hs : s.length = vars.length) : Y7 f s = some (decide (Ki f s)) := by
 unfold Y7
 rw [Ya (r := false) (fun x => s[x.Var.toNat]? = some x.Val)]
 ·by_cases h : Ki f s
  ·rw [decide_eq_true h]; exact if_pos h
  ·rw [decide_eq_false h]; exact if_neg h
 ·intro i x hx
  have hr := hf.r x (List.mem_of_getElem? hx)
  unfold InR at hr
  obtain ⟨y, hy⟩ := Qt (xs := s) (i := x.Var.toNat) (by omega)
  have e1 : Q9 s x.Var = some y := by unfold Q9; rw [if_pos hr.1, hy]
  have a1 : ¬ x.Var < 0 := by omega
  have a2 : ¬ (s.length : Int) ≤ x.Var := by omega
  simp only [Qo, hx, Option.bind_some, a1, a2, e1, hy, decide_false, Bool.false_eq_true, if_false, Option.some.injEq]
  by_cases h : y = x.Val <;> simp [h]
open Classical in
theorem Qn8 {vars s : List Int} {f : List Fact} (hf : FactsOK vars f) (hs : s.length = vars.length) : Qbt f s = some (decide (Ki f s)) := Qjh hf hs
open Classical in
noncomputable def QcT (effs : List Effect) (v : Int) (s : List Int) : Int := effs.foldl (fun c e => if e.Var = v ∧ Ki e.When s then e.Val else c) (s[v.toNat]?.getD 0)
open Classical in
theorem Qc3 (effs : List Effect) (e : Effect) (v : Int) (s : List Int) : QcT (effs ++ [e]) v s = if e.Var = v ∧ Ki e.When s then e.Val else QcT effs v s := by simp [QcT]
theorem QhS {v : Int} {s s' : List Int} (h0 : s[v.toNat]? = s'[v.toNat]?) {effs : List Effect} (h : ∀ e ∈ effs, e.Var = v → (Ki e.When s ↔ Ki e.When s')) : QcT effs v s = QcT effs v s' := by
 unfold QcT
 rw [h0]
 generalize s'[v.toNat]?.getD 0 = c
 induction effs generalizing c with
 | nil => rfl
 | cons e effs ih =>
  simp only [List.foldl_cons]
  have he : (e.Var = v ∧ Ki e.When s) ↔ (e.Var = v ∧ Ki e.When s') := by
   constructor
   ·rintro ⟨h1, h2⟩; exact ⟨h1, (h e (by simp) h1).1 h2⟩
   ·rintro ⟨h1, h2⟩; exact ⟨h1, (h e (by simp) h1).2 h2⟩
  classical
  refine Eq.trans (congrArg (fun z => List.foldl _ z effs) ?_) (ih (fun e' he' => h e' (by simp [he'])) _)
  by_cases hc : e.Var = v ∧ Ki e.When s
  ·rw [if_pos hc, if_pos (he.1 hc)]
  ·rw [if_neg hc, if_neg fun h => hc (he.2 h)]
theorem QhR {vars : List Int} {v : Int} {s : List Int} {x : Int} (hx : s[v.toNat]? = some x) (h0 : 0 ≤ x) (h1 : x < Ka vars v) {effs : List Effect} (h : ∀ e ∈ effs, InR vars ⟨e.Var, e.Val⟩) : 0 ≤ QcT effs v s ∧ QcT effs v s < Ka vars v := by
 classical
 have key : ∀ (l : List Effect) (c : Int), (∀ e ∈ l, InR vars ⟨e.Var, e.Val⟩) → 0 ≤ c → c < Ka vars v → 0 ≤ l.foldl (fun c e => if e.Var = v ∧ Ki e.When s then e.Val else c) c ∧ l.foldl (fun c e => if e.Var = v ∧ Ki e.When s then e.Val else c) c < Ka vars v := by
  intro l
  induction l with
  | nil => exact fun c _ h0 h1 => ⟨h0, h1⟩
  | cons e l ih =>
   intro c h h0 h1
   simp only [List.foldl_cons]
   have he := h e (by simp)
   by_cases hc : e.Var = v ∧ Ki e.When s
   ·rw [if_pos hc]
    refine ih _ (fun e' he' => h e' (by simp [he'])) he.2.2.1 ?_
    have := he.2.2.2
    rw [← hc.1]
    exact this
   ·rw [if_neg hc]
    exact ih _ (fun e' he' => h e' (by simp [he'])) h0 h1
 unfold QcT
 rw [hx]
 exact key effs x h h0 h1
end Go.Pw
/- -/
set_option maxHeartbeats 8000000
namespace Go.Pw
theorem Qj2 {vars : List Int} {w : Nat} (h : w < vars.length) : vars[w]? = some (Ka vars (w : Int)) := by
 obtain ⟨d, hd⟩ := Qt h
 unfold Ka
 rw [Int.toNat_natCast, hd]
 rfl
theorem StateOK.at {vars s : List Int} (h : StateOK vars s) {w : Int} (h0 : 0 ≤ w) (h1 : w < (vars.length : Int)) : ∃ x, s[w.toNat]? = some x ∧ 0 ≤ x ∧ x < Ka vars w := by
 obtain ⟨x, hx⟩ := Qt (xs := s) (i := w.toNat) (by rw [h.len]; omega)
 have := Qj2 (vars := vars) (w := w.toNat) (by omega)
 rw [Int.toNat_of_nonneg h0] at this
 exact ⟨x, hx, h.r _ _ _ hx this⟩
theorem StateOK.set {vars s : List Int} (h : StateOK vars s) {w : Int} {x : Int} (h0 : 0 ≤ x) (h1 : x < Ka vars w) : StateOK vars (s.set w.toNat x) := by
 refine ⟨by simp [h.len], fun i y d hy hd => ?_⟩
 by_cases e : w.toNat = i
 ·have hlt := (List.getElem?_eq_some_iff.1 hy).1
  simp only [List.length_set] at hlt
  subst e
  rw [List.getElem?_set_self hlt] at hy
  cases hy
  unfold Ka at h1
  rw [hd] at h1
  exact ⟨h0, h1⟩
 ·rw [List.getElem?_set_ne e] at hy
  exact h.r i y d hy hd
theorem Qmj {l : List Int} (hl : l.length ≤ 4096) : Ok ((Qab l).bind fun k => (Jr k).bind <| QI fun (n : Nat) (r : List Int) => (must (decide (n ≤ r.length))).bind fun _ => some (r.take n)) fun r => r.Pairwise (fun a b => a < b) ∧ (∀ x, x ∈ r ↔ x ∈ l) ∧ r.length ≤ l.length := by
 obtain ⟨k, hk, hp, hs⟩ := Qep (l := l) (by omega)
 rw [hk]
 simp only [Option.bind_some]
 have hlen := hp.length_eq
 obtain ⟨⟨n, r⟩, hc, h1, h2, h3⟩ := Qfg (eq := fun a b : Int => decide (a = b)) (by simp) 0 k (by omega)
 simp only at h1 h2 h3
 have hc' : Jr k = some (n, r) := hc
 rw [hc']
 simp only [Option.bind_some, QI]
 refine Ok.must (by simp; omega) (Ok.ret ?_)
 rw [h3]
 refine ⟨(QeC (le := fun a b => a ≤ b) (lt := fun a b => a < b) (by intro a b h hne; omega) (by intro a b c h h'; omega) (by intro a b c h h'; omega) k none hs (by simp)).1, fun x => ?_, ?_⟩
 ·rw [QkT, hp.mem_iff]
 ·have := Qjl k none
  omega
/-! ### patterns -/
structure PatOK (t : Task) (p : List Int) : Prop where
 r : ∀ w ∈ p, 0 ≤ w ∧ w < (t.Vars.length : Int)
 n : p.Nodup
theorem PatOK.rev {t : Task} {p : List Int} (h : PatOK t p) : PatOK t p.reverse := ⟨fun w hw => h.r w (List.mem_reverse.1 hw), (List.reverse_perm p).nodup_iff.2 h.n⟩
theorem PatOK.len {t : Task} {p : List Int} (h : PatOK t p) : p.length ≤ t.Vars.length := QbP h.n h.r
theorem PatOK.dm {t : Task} {p : List Int} (h : PatOK t p) (hv : ∀ n ∈ t.Vars, 1 ≤ n ∧ n ≤ 64) : ∀ x ∈ p.map (Ka t.Vars), 1 ≤ x := by
 intro x hx
 obtain ⟨w, hw, rfl⟩ := List.mem_map.1 hx
 exact (Y6 hv (h.r w hw).1 (h.r w hw).2).1
def vl (s : List Int) (w : Int) : Int := s[w.toNat]?.getD 0
def nP (t : Task) (p : List Int) (s : List Int) : Int := Qbe t.Vars p.reverse (vl s)
theorem QeP {vars s : List Int} (h : StateOK vars s) {w : Int} (h0 : 0 ≤ w) (h1 : w < (vars.length : Int)) : s[w.toNat]? = some (vl s w) ∧ 0 ≤ vl s w ∧ vl s w < Ka vars w := by
 obtain ⟨x, hx, a, b⟩ := h.at h0 h1
 unfold vl
 rw [hx]
 exact ⟨Z, a, b⟩
theorem Qju (t : Task) (p : List Int) : JW (p.reverse.map (Ka t.Vars)) = JW (p.map (Ka t.Vars)) := Qhx ((List.reverse_perm p).map _)
theorem Qeg {t : Task} {p s : List Int} (hp : PatOK t p) (hs : StateOK t.Vars s) : 0 ≤ nP t p s ∧ nP t p s < JW (p.map (Ka t.Vars)) := by
 rw [← Qju]
 exact Qjw fun x hx => (QeP hs (hp.rev.r x hx).1 (hp.rev.r x hx).2).2
theorem QbG {vars : List Int} {a b : Int → Int} : ∀ {r : List Int}, (∀ x ∈ r, a x = b x) → Qbe vars r a = Qbe vars r b
 | [], _ => rfl
 | w :: r, h => by simp only [Qbe]; rw [h w (by simp), QbG fun x hx => h x (by simp [hx])]
theorem Qkn {vars : List Int} : ∀ {r s : List Int} {k : Int}, r.Nodup → (∀ x ∈ r, 0 ≤ x ∧ x.toNat < s.length ∧ 1 ≤ Ka vars x) → 0 ≤ k → k < JW (r.map (Ka vars)) → Qbe vars r (vl (QbD vars r s k)) = k
 | [], s, k, _, _, h0, h1 => by simp [JW] at h1; simp [Qbe]; omega
 | w :: r, s, k, hn, h, h0, h1 => by
  obtain ⟨hnw, hnr⟩ := List.nodup_cons.1 hn
  have hw := h w (by simp)
  simp only [List.map_cons, JW] at h1
  have hq0 : 0 ≤ k / Ka vars w := Int.ediv_nonneg h0 (by omega)
  have hq1 : k / Ka vars w < JW (r.map (Ka vars)) := Int.ediv_lt_of_lt_mul (by omega) (by rw [Int.mul_comm]; exact h1)
  have ih := Qkn (vars := vars) (r := r) (s := s.set w.toNat (k % Ka vars w)) (k := k / Ka vars w) hnr (fun y hy => by have := h y (by simp [hy]); simpa using this) hq0 hq1
  have hs' : (s.set w.toNat (k % Ka vars w)).length = s.length := by simp
  simp only [QbD, Qbe]
  rw [ih]
  have hv : vl (QbD vars r (s.set w.toNat (k % Ka vars w)) (k / Ka vars w)) w = k % Ka vars w := by
   unfold vl
   rw [Qel (fun y hy => (h y (by simp [hy])).1) (by rw [Int.toNat_of_nonneg hw.1]; exact hnw), List.getElem?_set_self hw.2.1]
   rfl
  rw [hv]
  exact Int.emod_add_mul_ediv k (Ka vars w)
theorem Qgc {t : Task} {p s s' : List Int} (hp : PatOK t p) (hs : StateOK t.Vars s) (hs' : StateOK t.Vars s') (h : nP t p s = nP t p s') : ∀ w ∈ p, s[w.toNat]? = s'[w.toNat]? := by
 intro w hw
 have hz : ∀ {σ : List Int}, StateOK t.Vars σ → (QbD t.Vars p.reverse s (nP t p σ))[w.toNat]? = some (vl σ w) := fun {σ} hσ =>
  Qkk hp.rev.n (fun x hx => ⟨(hp.rev.r x hx).1, by rw [hs.len]; have := hp.rev.r x hx; omega, (QeP hσ (hp.rev.r x hx).1 (hp.rev.r x hx).2).2⟩) w (List.mem_reverse.2 hw)
 have h1 := hz hs
 have h2 := hz hs'
 rw [h, h2] at h1
 rw [(QeP hs (hp.r w hw).1 (hp.r w hw).2).1, (QeP hs' (hp.r w hw).1 (hp.r w hw).2).1]
 exact h1.symm
theorem QaX {l : List Int} (hl : ∀ x ∈ l, 1 ≤ x) (i : Nat) : JW (l.take i) ≤ JW l := by
 have := Qdh (l := l.take i) (k := l.drop i) (fun x hx => hl x (List.mem_of_mem_take hx)) (fun x hx => hl x (List.mem_of_mem_drop hx))
 rwa [List.take_append_drop] at this
theorem Qgl {t : Task} {p s : List Int} (hv : ∀ n ∈ t.Vars, 1 ≤ n ∧ n ≤ 64) (hp : PatOK t p) (hb : JW (p.map (Ka t.Vars)) ≤ 4096) (hs : ∀ w ∈ p, s[w.toNat]? = some (vl s w) ∧ 0 ≤ vl s w ∧ vl s w < Ka t.Vars w) : JX t p s = some (nP t p s) := by
 refine Ok.eq ?_
 unfold JX
 refine Ok.bind (QQ (fun i n => n = Qbe t.Vars (p.take i).reverse (vl s)) (by simp [Qbe]) ?_ ?_)
 ·rintro i n hi rfl
  obtain ⟨w, hw⟩ := Qt hi
  have hwm := List.mem_of_getElem? hw
  have hr := hp.r w hwm
  have hd := Y6 hv hr.1 hr.2
  obtain ⟨h1, h2, h3⟩ := hs w hwm
  have e1 : Q9 t.Vars w = some (Ka t.Vars w) := Qfw hr.1 hr.2
  have e2 : Q9 s w = some (vl s w) := by unfold Q9; rw [if_pos hr.1, h1]
  have hlt := Qjw (vars := t.Vars) (a := vl s) (r := (p.take i).reverse) fun x hx => (hs x (List.mem_of_mem_take (List.mem_reverse.1 hx))).2
  have hle : JW ((p.take i).reverse.map (Ka t.Vars)) ≤ 4096 := by
   rw [Qju, List.map_take]
   exact Int.le_trans (QaX (hp.dm hv) i) hb
  have b1 : Qbe t.Vars (p.take i).reverse (vl s) * Ka t.Vars w ≤ 4096 * 64 := Int.mul_le_mul (by omega) hd.2 (by omega) (by omega)
  have b0 : 0 ≤ Qbe t.Vars (p.take i).reverse (vl s) * Ka t.Vars w := Int.mul_nonneg hlt.1 (by omega)
  simp only [Qo, hw, e1, e2, Option.bind_some]
  rw [QD (n := Qbe t.Vars (p.take i).reverse (vl s) * Ka t.Vars w) (by omega) (by omega), QD (by omega) (by omega)]
  refine Ok.ret ?_
  rw [Q6 hw, List.reverse_append, List.reverse_singleton, List.singleton_append]
  simp only [Qbe]
  rw [Int.mul_comm, Int.add_comm]
 ·rintro n rfl
  rw [List.take_length]
  exact Ok.ret Z
/-! ### the variables outside -/
def Qka (o : Op) (p : List Int) (w : Int) : Prop := w ∉ p ∧ (¬ ∃ x ∈ o.Pre, x.Var = w) ∧ ∃ e ∈ o.Effs, e.Var ∈ p ∧ ∃ f ∈ e.When, f.Var = w
theorem Qk9 {vars : List Int} {o : Op} {p : List Int} (ho : OpOK vars o) (hn : vars.length ≤ 64) : Ok (Yf o p) fun l => l.Nodup ∧ ∀ w, w ∈ l ↔ Qka o p w := by
 classical
 unfold Yf
 refine Ok.bind (QQ (fun i l => l.Nodup ∧ (∀ w ∈ l, 0 ≤ w ∧ w < (vars.length : Int)) ∧ ∀ w, w ∈ l ↔ w ∉ p ∧ (¬ ∃ x ∈ o.Pre, x.Var = w) ∧ ∃ e ∈ o.Effs.take i, e.Var ∈ p ∧ ∃ f ∈ e.When, f.Var = w) ⟨by simp, by simp, by simp⟩ ?_ ?_)
 ·rintro i l hi ⟨g1, g2, g3⟩
  obtain ⟨e, he⟩ := Qt hi
  have hem := List.mem_of_getElem? he
  simp only [Qo, he, Option.bind_some, QbH]
  by_cases h1 : e.Var ∈ p
  ·simp only [h1, decide_true, Bool.not_true, Bool.false_eq_true, if_false]
   refine Ok.bind (QQ (fun j k => k.Nodup ∧ (∀ w ∈ k, 0 ≤ w ∧ w < (vars.length : Int)) ∧ ∀ w, w ∈ k ↔ w ∈ l ∨ w ∉ p ∧ (¬ ∃ x ∈ o.Pre, x.Var = w) ∧ ∃ f ∈ e.When.take j, f.Var = w) ⟨g1, g2, by simp⟩ ?_ ?_)
   ·rintro j k hj ⟨f1, f2, f3⟩
    obtain ⟨f, hf⟩ := Qt hj
    have hfm := List.mem_of_getElem? hf
    have hfr := (ho.eff e hem).1.r f hfm
    have hkl := QbP f1 f2
    simp only [Qo, hf, Option.bind_some, QbH, Qlp, Qqq]
    have hstep : ∀ w, (∃ g ∈ e.When.take (j + 1), g.Var = w) ↔ (∃ g ∈ e.When.take j, g.Var = w) ∨ f.Var = w := by
     intro w
     rw [Q6 hf]
     constructor
     ·rintro ⟨g, hg, rfl⟩
      rcases List.mem_append.1 hg with hg | hg
      ·exact .inl ⟨g, hg, Z⟩
      ·simp only [List.mem_singleton] at hg; subst hg; exact .inr rfl
     ·rintro (⟨g, hg, rfl⟩ | rfl)
      ·exact ⟨g, List.mem_append_left _ hg, Z⟩
      ·exact ⟨f, by simp, Z⟩
    have hstay : (f.Var ∈ p ∨ (∃ x ∈ o.Pre, x.Var = f.Var) ∨ f.Var ∈ k) → ∀ w, w ∈ k ↔ w ∈ l ∨ w ∉ p ∧ (¬ ∃ x ∈ o.Pre, x.Var = w) ∧ ∃ f ∈ e.When.take (j + 1), f.Var = w := by
     intro h w
     rw [hstep, f3]
     constructor
     ·rintro (h | ⟨h2, h3, h4⟩)
      ·exact .inl h
      ·exact .inr ⟨h2, h3, .inl h4⟩
     ·rintro (h2 | ⟨h2, h3, h4 | rfl⟩)
      ·exact .inl h2
      ·exact .inr ⟨h2, h3, h4⟩
      ·rcases h with h | h | h
       ·exact absurd h h2
       ·exact absurd h h3
       ·exact (f3 _).1 h
    by_cases h2 : f.Var ∈ p
    ·simp only [h2, decide_true, Bool.not_true, Bool.false_eq_true, if_false, Option.bind_some]
     exact Ok.ret ⟨f1, f2, hstay (.inl h2)⟩
    by_cases h3 : ∃ x ∈ o.Pre, x.Var = f.Var
    ·simp only [h2, h3, decide_true, decide_false, Bool.not_true, Bool.not_false, if_true, Bool.false_eq_true, if_false, Option.bind_some]
     exact Ok.ret ⟨f1, f2, hstay (.inr (.inl h3))⟩
    by_cases h4 : f.Var ∈ k
    ·simp only [h2, h3, h4, decide_true, decide_false, Bool.not_true, Bool.not_false, if_true, Bool.false_eq_true, if_false, Option.bind_some]
     exact Ok.ret ⟨f1, f2, hstay (.inr (.inr h4))⟩
    simp only [h2, h3, h4, decide_true, decide_false, Bool.not_true, Bool.not_false, if_true, Bool.false_eq_true, if_false, Option.bind_some]
    rw [JB (by simp only [List.length_singleton]; omega)]
    refine Ok.ret ⟨?_, ?_, fun w => ?_⟩
    ·exact List.nodup_append.2 ⟨f1, by simp, by rintro a ha b hb rfl; simp only [List.mem_singleton] at hb; subst hb; exact h4 ha⟩
    ·intro w hw
     rcases List.mem_append.1 hw with hw | hw
     ·exact f2 w hw
     ·simp only [List.mem_singleton] at hw; subst hw; exact ⟨hfr.1, hfr.2.1⟩
    ·rw [hstep, List.mem_append, f3, List.mem_singleton]
     constructor
     ·rintro ((h | ⟨h5, h6, h7⟩) | rfl)
      ·exact .inl h
      ·exact .inr ⟨h5, h6, .inl h7⟩
      ·exact .inr ⟨h2, h3, .inr Z⟩
     ·rintro (h | ⟨h5, h6, h7 | rfl⟩)
      ·exact .inl (.inl h)
      ·exact .inl (.inr ⟨h5, h6, h7⟩)
      ·exact .inr Z
   ·rintro k ⟨f1, f2, f3⟩
    rw [List.take_length] at f3
    refine Ok.ret ⟨f1, f2, fun w => ?_⟩
    rw [f3, g3, Q6 he]
    constructor
    ·rintro (⟨h2, h3, e', he', h4⟩ | ⟨h2, h3, h4⟩)
     ·exact ⟨h2, h3, e', List.mem_append_left _ he', h4⟩
     ·exact ⟨h2, h3, e, by simp, h1, h4⟩
    ·rintro ⟨h2, h3, e', he', h4, h5⟩
     rcases List.mem_append.1 he' with he' | he'
     ·exact .inl ⟨h2, h3, e', he', h4, h5⟩
     ·simp only [List.mem_singleton] at he'; subst he'; exact .inr ⟨h2, h3, h5⟩
  ·simp only [h1, decide_false, Bool.not_false, if_true]
   refine Ok.ret ⟨g1, g2, fun w => ?_⟩
   rw [g3, Q6 he]
   constructor
   ·rintro ⟨h2, h3, e', he', h4⟩
    exact ⟨h2, h3, e', List.mem_append_left _ he', h4⟩
   ·rintro ⟨h2, h3, e', he', h4, h5⟩
    rcases List.mem_append.1 he' with he' | he'
    ·exact ⟨h2, h3, e', he', h4, h5⟩
    ·simp only [List.mem_singleton] at he'; subst he'; exact absurd h4 h1
 ·rintro l ⟨g1, g2, g3⟩
  have hl := QbP g1 g2
  obtain ⟨k, hk, hp, _⟩ := Qep (l := l) (by omega)
  rw [hk]
  simp only [Option.bind_some]
  rw [List.take_length] at g3
  exact Ok.ret ⟨hp.nodup_iff.2 g1, fun w => by rw [hp.mem_iff, g3]; rfl⟩
end Go.Pw
/- -/
set_option maxHeartbeats 4000000
namespace Go.Pw
theorem Qhu {h : List pdb_item} {i k : Nat} (hi : i < h.length) (hk : k < h.length) : Ok (J9 h (i : Int) (k : Int)) fun r => r.Perm h := by
 unfold J9
 obtain ⟨a, ha⟩ := Qt hi
 obtain ⟨b, hb⟩ := Qt hk
 have e1 := (List.getElem?_eq_some_iff.1 ha).2
 have e2 := (List.getElem?_eq_some_iff.1 hb).2
 simp only [Qo, ha, hb, Option.bind_some, QW hi]
 obtain ⟨c, hc⟩ := Qt (xs := h.set i b) (i := k) (by simpa using hk)
 simp only [hc, Option.bind_some, QW (show k < (h.set i b).length by simpa using hk)]
 refine Ok.ret ?_
 rw [← e1, ← e2]
 exact List.set_set_perm hi hk
theorem Qhv {h : List pdb_item} {i k : Nat} (hi : i < h.length) (hk : k < h.length) : ∃ b, JA h (i : Int) (k : Int) = some b := by
 unfold JA
 obtain ⟨a, ha⟩ := Qt hi
 obtain ⟨b, hb⟩ := Qt hk
 simp only [Qo, ha, hb, Option.bind_some]
 exact ⟨_, Z⟩
theorem Qp5 (h : List pdb_item) : JI h = (h.length : Int) := by
 have e := Yr h
 unfold Yg at e
 exact (Zu e).symm
theorem QpL {h : List pdb_item} {j : Nat} (hj : j < h.length) (hl : h.length ≤ 70368744177664) : Ok (Qag h (j : Int)) fun r => r.Perm h := by
 unfold Qag
 refine Yu (fun s => ∃ n : Nat, s.1 = (n : Int) ∧ n < s.2.length ∧ s.2.Perm h) (fun s => s.2.Perm h) (fun _ => False) (fun s => s.1.toNat) ⟨j, Z, hj, List.Perm.refl _⟩ ?_ (fun _ h => h.elim) (fun s hs => Ok.ret hs)
 rintro ⟨_, l⟩ ⟨n, rfl, hn, hp⟩
 simp only at hn hp
 have hlen := hp.length_eq
 have w1 : IntKind.i64.wrap ((n : Int) - 1) = (n : Int) - 1 := QD (by omega) (by omega)
 by_cases h0 : n = 0
 ·subst h0
  refine ⟨.brk (0, l), ?_, by simp, fun s' e => by cases e; exact hp, by simp⟩
  rfl
 ·have w2 : IntKind.i64.wrap (((n : Int) - 1).tdiv 2) = ((((n - 1) / 2 : Nat)) : Int) := by
   have : ((n : Int) - 1).tdiv 2 = ((((n - 1) / 2 : Nat)) : Int) := by
    rw [Int.tdiv_eq_ediv_of_nonneg (by omega)]; omega
   rw [this]; exact QD (by omega) (by omega)
  have hne : ¬ ((((n - 1) / 2 : Nat)) : Int) = (n : Int) := by omega
  obtain ⟨b, hb⟩ := Qhv (h := l) hn (show (n - 1) / 2 < l.length by omega)
  simp only [QI, w1, w2, hne, decide_false, Bool.false_eq_true, if_false, hb, Option.bind_some]
  cases b with
  | false => exact ⟨.brk ((n : Int), l), rfl, by simp, fun s' e => by cases e; exact hp, by simp⟩
  | true =>
   obtain ⟨r, hr, hr2⟩ := Qhu (h := l) (show (n - 1) / 2 < l.length by omega) hn
   simp only [Bool.not_true, Bool.false_eq_true, if_false, hr, Option.bind_some]
   refine ⟨_, Z, fun s' e => ?_, by simp, by simp⟩
   cases e
   exact ⟨⟨(n - 1) / 2, Z, by rw [hr2.length_eq]; omega, hr2.trans hp⟩, by simp only [Int.toNat_natCast]; omega⟩
theorem Qki {h : List pdb_item} {x : pdb_item} (hl : h.length ≤ 8796093022206) : Ok (Kl h x) fun r => r.Perm (x :: h) := by
 unfold Kl Qat
 rw [JB (by simp; omega)]
 simp only [Option.bind_some, Qp5]
 have w : IntKind.i64.wrap (((h ++ [x]).length : Int) - 1) = (h.length : Int) := by
  rw [QD] <;> simp <;> omega
 rw [w]
 refine Ok.bind ((QpL (h := h ++ [x]) (j := h.length) (by simp) (by simp; omega)).mono fun r hr => Ok.ret ?_)
 exact hr.trans (List.perm_append_comm (l₁ := h) (l₂ := [x]))
theorem QnC {h : List pdb_item} {m : Nat} (hm : m ≤ h.length) (hl : h.length ≤ 70368744177664) (h1 : 0 < h.length) : Ok (Y1 h 0 (m : Int)) fun r => r.2.Perm h := by
 unfold Y1
 refine Yu (fun s => ∃ n : Nat, s.1 = (n : Int) ∧ n < s.2.length ∧ s.2.Perm h) (fun s => s.2.Perm h) (fun _ => False) (fun s => h.length - s.1.toNat) ⟨0, Z, h1, List.Perm.refl _⟩ ?_ (fun _ h => h.elim) (fun s hs => Ok.ret hs)
 rintro ⟨_, l⟩ ⟨n, rfl, hn, hp⟩
 simp only at hn hp
 have hlen := hp.length_eq
 have w1 : IntKind.i64.wrap (2 * (n : Int)) = 2 * (n : Int) := QD (by omega) (by omega)
 have w2 : IntKind.i64.wrap (2 * (n : Int) + 1) = ((2 * n + 1 : Nat) : Int) := by rw [QD (by omega) (by omega)]; omega
 have w3 : IntKind.i64.wrap (((2 * n + 1 : Nat) : Int) + 1) = ((2 * n + 2 : Nat) : Int) := by rw [QD (by omega) (by omega)]; omega
 by_cases hmb : (m : Int) ≤ ((2 * n + 1 : Nat) : Int)
 ·refine ⟨.brk ((n : Int), l), ?_, by simp, fun s' e => by cases e; exact hp, by simp⟩
  simp only [QI, w1, w2, hmb, decide_true, Bool.true_or, if_true]
 ·have hneg : ¬ ((2 * n + 1 : Nat) : Int) < 0 := by omega
  simp only [QI, w1, w2, w3, hmb, hneg, decide_false, Bool.or_false, Bool.false_eq_true, if_false]
  have key : ∀ j : Nat, n < j → j < m → ∃ c : Ctl (Int × List pdb_item) (Bool × List pdb_item), ((JA l (j : Int) (n : Int)).bind fun (y101 : Bool) =>
    if !y101 then (some (Ctl.brk ((n : Int), l)))
    else ((J9 l (n : Int) (j : Int)).bind fun (l101 : (List pdb_item)) =>
    some (Ctl.next ((j : Int), l101)))) = some c ∧ (∀ s', c = .next s' → (∃ n : Nat, s'.1 = (n : Int) ∧ n < s'.2.length ∧ s'.2.Perm h) ∧ h.length - s'.1.toNat < h.length - n) ∧ (∀ s', c = .brk s' → s'.2.Perm h) ∧ (∀ r, c = .ret r → False) := by
   intro j hj1 hj2
   obtain ⟨b, hb⟩ := Qhv (h := l) (show j < l.length by omega) hn
   rw [hb]
   simp only [Option.bind_some]
   cases b with
   | false => exact ⟨.brk ((n : Int), l), rfl, by simp, fun s' e => by cases e; exact hp, by simp⟩
   | true =>
    obtain ⟨r, hr, hr2⟩ := Qhu (h := l) hn (show j < l.length by omega)
    simp only [Bool.not_true, Bool.false_eq_true, if_false, hr, Option.bind_some]
    refine ⟨_, Z, fun s' e => ?_, by simp, by simp⟩
    cases e
    exact ⟨⟨j, Z, by rw [hr2.length_eq]; omega, hr2.trans hp⟩, by simp only [Int.toNat_natCast]; omega⟩
  by_cases h2 : ((2 * n + 2 : Nat) : Int) < (m : Int)
  ·obtain ⟨b, hb⟩ := Qhv (h := l) (show 2 * n + 2 < l.length by omega) (show 2 * n + 1 < l.length by omega)
   simp only [h2, decide_true, if_true, hb, Option.bind_some]
   cases b with
   | true => simp only [if_true, Option.bind_some]; exact key (2 * n + 2) (by omega) (by omega)
   | false => simp only [Bool.false_eq_true, if_false, Option.bind_some]; exact key (2 * n + 1) (by omega) (by omega)
  ·simp only [h2, decide_false, Bool.false_eq_true, if_false, Option.bind_some]
   exact key (2 * n + 1) (by omega) (by omega)
theorem QoC {h : List pdb_item} (h1 : 0 < h.length) (hl : h.length ≤ 70368744177664) : Ok (YN h) fun r => (r.1 :: r.2).Perm h := by
 unfold YN
 have w : IntKind.i64.wrap ((h.length : Int) - 1) = ((h.length - 1 : Nat) : Int) := by rw [QD (by omega) (by omega)]; omega
 simp only [Qp5, w]
 refine Ok.bind ((Qhu (h := h) (i := 0) (k := h.length - 1) h1 (by omega)).mono fun l hl1 => ?_)
 have e1 := hl1.length_eq
 refine Ok.bind ((QnC (h := l) (m := h.length - 1) (by omega) (by omega) (by omega)).mono ?_)
 rintro ⟨b, k⟩ hk
 simp only at hk
 have e2 := hk.length_eq
 simp only [QI]
 unfold QaE
 have w2 : IntKind.i64.wrap ((k.length : Int) - 1) = ((k.length - 1 : Nat) : Int) := by rw [QD (by omega) (by omega)]; omega
 obtain ⟨x, hx⟩ := Qt (xs := k) (i := k.length - 1) (by omega)
 have hv : Qa3 k 0 ((k.length - 1 : Nat) : Int) = some (k.length - 1) := by
  unfold Qa3
  rw [if_pos ⟨by omega, by omega, by omega, by omega⟩]
  simp
 have hm : must (decide (k.length - 1 ≤ k.length)) = some () := by unfold must; rw [if_pos (by simp)]
 simp only [w2, Qo, hx, hv, hm, Option.bind_some]
 refine Ok.ret ?_
 have hsn := Q6 hx
 rw [show k.length - 1 + 1 = k.length by omega, List.take_length] at hsn
 have : (x :: k.take (k.length - 1)).Perm k := by
  conv => rhs; rw [hsn]
  exact List.perm_append_comm (l₁ := [x]) (l₂ := k.take (k.length - 1))
 exact this.trans (hk.trans hl1)
end Go.Pw
/- -/
set_option maxHeartbeats 8000000
namespace Go.Pw
def fin (l : List Int) : Nat := (l.filter fun x => decide (x < Inf)).length
theorem QpP (l : List Int) : fin l ≤ l.length := List.length_filter_le _ _
theorem QlM : ∀ {l : List Int} {u : Nat} {y z : Int}, l[u]? = some y → z < Inf → fin (l.set u z) = fin l + (if y < Inf then 0 else 1)
 | [], u, y, z, h, _ => by simp at h
 | a :: l, 0, y, z, h, h0 => by
  simp only [List.getElem?_cons_zero, Option.some.injEq] at h
  subst h
  simp only [fin, List.set_cons_zero, List.filter_cons, h0, decide_true, if_true, List.length_cons]
  by_cases h1 : a < Inf
  ·simp only [h1, decide_true, if_true, List.length_cons]; try omega
  ·simp only [h1, decide_false, Bool.false_eq_true, if_false]
 | a :: l, u + 1, y, z, h, h0 => by
  have := QlM (l := l) (u := u) (y := y) (z := z) (by simpa using h) h0
  simp only [fin, List.set_cons_succ, List.filter_cons] at *
  by_cases h1 : a < Inf
  ·simp only [h1, decide_true, if_true, List.length_cons]; omega
  ·simp only [h1, decide_false, Bool.false_eq_true, if_false]; exact this
def pot (l : List Int) : Nat := (l.map fun x => min x.toNat 536870913).sum
theorem QlF : ∀ {l : List Int} {u : Nat} {y z : Int}, l[u]? = some y → 0 ≤ z → z < y → z ≤ 536870912 → pot (l.set u z) < pot l
 | [], u, y, z, h, _, _, _ => by simp at h
 | a :: l, 0, y, z, h, h0, h1, h2 => by
  simp only [List.getElem?_cons_zero, Option.some.injEq] at h
  subst h
  simp only [pot, List.set_cons_zero, List.map_cons, List.sum_cons]
  omega
 | a :: l, u + 1, y, z, h, h0, h1, h2 => by
  have := QlF (l := l) (u := u) (y := y) (z := z) (by simpa using h) h0 h1 h2
  simp only [pot, List.set_cons_succ, List.map_cons, List.sum_cons] at *
  omega
theorem Qkm (l : List Int) (z : Int) : pot (l ++ [z]) = pot l + min z.toNat 536870913 := by simp [pot]
theorem QoL {n : Nat} {x : System} (h : WS n x) : Ok ((mk 24 ([] : (List Edge)) x.States).bind fun l100 =>
 (forS (fun i100 => fun (l101 : (List (List Edge))) => (Q9 x.Edges (i100 : Int)).bind fun x101 =>
 (Q9 l101 x101.To).bind fun row100 =>
 (app 24 row100 [x101]).bind fun l102 =>
 (JL l101 x101.To l102).bind fun l103 =>
 some l103) (x.Edges.length) 0 l100)) fun L => L.length = n ∧ ∀ v, v < n → ∃ row, L[v]? = some row ∧ row.length ≤ 65536 ∧ ∀ d, d ∈ row ↔ d ∈ x.Edges ∧ d.To = (v : Int) := by
 have hn := h.n1
 have he := h.e
 rw [h.s]
 refine Ok.step (QbS (by omega) (by omega)) ?_
 refine QQ (fun i L => L.length = n ∧ ∀ v, v < n → ∃ row, L[v]? = some row ∧ row.length ≤ i ∧ ∀ d, d ∈ row ↔ d ∈ x.Edges.take i ∧ d.To = (v : Int)) ?_ ?_ ?_
 ·exact ⟨by simp, fun v hv => ⟨[], by simp [hv], by simp, by simp⟩⟩
 ·rintro i L hi ⟨h1, h2⟩
  obtain ⟨d, hd⟩ := Qt hi
  obtain ⟨f, t, lb, rfl, hf, ht, c, hc, c0, c1⟩ := h.edge d (List.mem_of_getElem? hd)
  obtain ⟨row, hrow, hlen, hmem⟩ := h2 t ht
  simp only [Qo, hd, hrow, Option.bind_some]
  refine Ok.step (JB (by simp only [List.length_singleton]; omega)) (Ok.step (QW (by omega)) (Ok.ret ⟨by simp [h1], fun v hv => ?_⟩))
  rw [Q6 hd]
  by_cases e : v = t
  ·subst e
   refine ⟨row ++ [⟨(f : Int), (lb : Int), (v : Int)⟩], by simp [h1, hv], by simp; omega, fun a => ?_⟩
   rw [List.mem_append, hmem, List.mem_singleton, List.mem_append, List.mem_singleton]
   constructor
   ·rintro (⟨a1, a2⟩ | rfl)
    ·exact ⟨.inl a1, a2⟩
    ·exact ⟨.inr Z, Z⟩
   ·rintro ⟨a1 | a1, a2⟩
    ·exact .inl ⟨a1, a2⟩
    ·exact .inr a1
  ·obtain ⟨row', hrow', hlen', hmem'⟩ := h2 v hv
   refine ⟨row', by rw [List.getElem?_set_ne (Ne.symm e)]; exact hrow', by omega, fun a => ?_⟩
   rw [hmem', List.mem_append, List.mem_singleton]
   constructor
   ·rintro ⟨a1, a2⟩
    exact ⟨.inl a1, a2⟩
   ·rintro ⟨a1 | rfl, a2⟩
    ·exact ⟨a1, a2⟩
    ·simp only at a2; omega
 ·rintro L ⟨h1, h2⟩
  refine ⟨h1, fun v hv => ?_⟩
  obtain ⟨row, hrow, hlen, hmem⟩ := h2 v hv
  refine ⟨row, hrow, by omega, fun a => ?_⟩
  rw [hmem, List.take_length]
structure HS (A : QgI) (src : Nat → Prop) (n : Nat) (d : List Int) (h : List pdb_item) : Prop where
 ds : Dst A src n d
 b : ∀ (v : Nat) (a : Int), d[v]? = some a → a < Inf → a ≤ (fin d : Int) * 1048576
 it : ∀ q ∈ h, ∃ (v : Nat) (a : Int), q.state = (v : Int) ∧ d[v]? = some a ∧ a ≤ q.dist ∧ q.dist < Inf
theorem HS.sub {A : QgI} {src : Nat → Prop} {n : Nat} {d : List Int} {h k : List pdb_item} (hs : HS A src n d h) (hk : ∀ q ∈ k, q ∈ h) : HS A src n d k := ⟨hs.ds, hs.b, fun q hq => hs.it q (hk q hq)⟩
def Act (A : QgI) (d : List Int) (h : List pdb_item) (v : Nat) : Prop := ∀ a, d[v]? = some a → (⟨a, (v : Int)⟩ : pdb_item) ∈ h ∨ Qjf A d v
theorem QnG {n : Nat} {x : System} (h : WS n x) (h512 : n ≤ 512) : Ok (YJ x x.Costs) (SP (Kz x true) (Qd5 x) n) := by
 have hg := h.g
 have hA : AOK (Kz x true) (Qd5 x) n := h.aok true fun i hi => by
  have := (List.getElem?_eq_some_iff.1 hi).1
  omega
 have hI : (Inf : Int) = 1125899906842624 := rfl
 unfold YJ
 obtain ⟨L, hL, hL1, hL2⟩ := QoL h
 obtain ⟨L0, hL0, hL0'⟩ := V hL
 refine Ok.step hL0 (Ok.step hL0' ?_)
 rw [h.s]
 refine Ok.step (QbS (by omega) (by omega)) (Ok.bind ?_)
 rw [hg]
 refine QQ (fun i s => s.1.length = n ∧ (∀ j, j < i → s.1[j]? = some (if x.Goals[j]? = some true then 0 else Inf)) ∧ (∀ q ∈ s.2, ∃ j : Nat, j < i ∧ x.Goals[j]? = some true ∧ q = ⟨0, (j : Int)⟩) ∧ (∀ j : Nat, j < i → x.Goals[j]? = some true → (⟨0, (j : Int)⟩ : pdb_item) ∈ s.2) ∧ s.2.length + pot (s.1.take i) ≤ i * 536870913) ⟨by simp, by simp, by simp, by simp, by simp [pot]⟩ ?_ ?_
 ·rintro i ⟨l, hp⟩ hi ⟨h1, h2, h3, h4, h5⟩
  simp only at h1 h2 h3 h4 h5
  obtain ⟨g, hgi⟩ := Qt (xs := x.Goals) (i := i) (by omega)
  obtain ⟨y, hy⟩ := Qt (xs := l) (i := i) (by omega)
  have htk : ∀ z : Int, (l.set i z).take (i + 1) = l.take i ++ [z] := fun z => by
   rw [Q6 (x := z) (by rw [List.getElem?_set_self (by omega)]), List.take_set_of_le (Nat.le_refl i)]
  simp only [QI, Qo, hgi, hy, Option.bind_some, QW (show i < l.length by omega)]
  obtain ⟨y2, hy2⟩ := Qt (xs := l.set i Inf) (i := i) (by simp; omega)
  cases g with
  | true =>
   simp only [if_true, hy2, Option.bind_some, QW (show i < (l.set i (1125899906842624 : Int)).length by simp; omega), List.set_set]
   obtain ⟨r, hr, hr2⟩ := Qki (h := hp) (x := ⟨0, (i : Int)⟩) (by have : i * 536870913 ≤ 512 * 536870913 := Nat.mul_le_mul_right _ (by omega); omega)
   rw [hr]
   simp only [Option.bind_some]
   refine Ok.ret ⟨by simp [h1], fun j hj => ?_, fun q hq => ?_, fun j hj hg => ?_, ?_⟩
   ·by_cases e : j = i
    ·subst e; rw [List.getElem?_set_self (by omega), if_pos hgi]
    ·rw [List.getElem?_set_ne (Ne.symm e)]; exact h2 j (by omega)
   ·rcases List.mem_cons.1 (hr2.mem_iff.1 hq) with rfl | hq
    ·exact ⟨i, by omega, hgi, Z⟩
    ·obtain ⟨j, a1, a2, a3⟩ := h3 q hq
     exact ⟨j, by omega, a2, a3⟩
   ·refine hr2.mem_iff.2 ?_
    by_cases e : j = i
    ·subst e; simp
    ·exact List.mem_cons_of_mem _ (h4 j (by omega) hg)
   ·simp only
    rw [htk, Qkm, hr2.length_eq, List.length_cons]
    simp only [Int.toNat_zero]
    omega
  | false =>
   simp only [Bool.false_eq_true, if_false, Option.bind_some]
   refine Ok.ret ⟨by simp [h1], fun j hj => ?_, fun q hq => ?_, fun j hj hg => ?_, ?_⟩
   ·by_cases e : j = i
    ·subst e; rw [List.getElem?_set_self (by omega), if_neg (by rw [hgi]; simp)]
    ·rw [List.getElem?_set_ne (Ne.symm e)]; exact h2 j (by omega)
   ·obtain ⟨j, a1, a2, a3⟩ := h3 q hq
    exact ⟨j, by omega, a2, a3⟩
   ·by_cases e : j = i
    ·subst e; rw [hgi] at hg; cases hg
    ·exact h4 j (by omega) hg
   ·simp only
    rw [htk, Qkm]
    have : min (Int.toNat 1125899906842624) 536870913 = 536870913 := by decide
    omega
 rintro ⟨d0, q0⟩ ⟨hd1, hd2, hq1, hq2, hr0⟩
 simp only at hd1 hd2 hq1 hq2 hr0
 rw [List.take_of_length_le (by omega)] at hr0
 have hlt : ∀ {l : List Int} {v : Nat} {a : Int}, l.length = n → l[v]? = some a → v < n := fun e hv => by have := (List.getElem?_eq_some_iff.1 hv).1; omega
 have hD0 : Dst (Kz x true) (Qd5 x) n d0 := by
  refine ⟨hd1, fun i y hy => ?_, fun i hi => ?_, fun i y hy hlt' => ?_⟩
  ·rw [hd2 i (hlt hd1 hy)] at hy
   cases hy
   split <;> omega
  ·have hi' : x.Goals[i]? = some true := hi
   rw [hd2 i (hA.s i hi), if_pos hi']
  ·rw [hd2 i (hlt hd1 hy)] at hy
   by_cases hs : x.Goals[i]? = some true
   ·rw [if_pos hs] at hy; cases hy; exact .base hs
   ·rw [if_neg hs] at hy; cases hy; omega
 have hB : n * 536870913 ≤ 512 * 536870913 := Nat.mul_le_mul_right _ h512
 refine Yu (fun s : List Int × List pdb_item => HS (Kz x true) (Qd5 x) n s.1 s.2 ∧ (∀ v, Act (Kz x true) s.1 s.2 v) ∧ s.2.length + pot s.1 ≤ n * 536870913) (fun s => SP (Kz x true) (Qd5 x) n s.1) (fun _ => False) (fun s => 2 * tot s.1 + s.2.length)
  ⟨⟨hD0, fun v a hv hlt' => ?_, fun q hq => ?_⟩, fun v a hv => ?_, hr0⟩ ?_ (fun _ h => h.elim) ?_
 ·simp only at hv
  rw [hd2 v (hlt hd1 hv)] at hv
  by_cases hs : x.Goals[v]? = some true
  ·rw [if_pos hs] at hv; cases hv; omega
  ·rw [if_neg hs] at hv; cases hv; omega
 ·obtain ⟨j, a1, a2, rfl⟩ := hq1 q hq
  exact ⟨j, 0, Z, by simp only; rw [hd2 j a1, if_pos a2], Int.le_refl _, by simp [Inf]⟩
 ·simp only at hv
  rw [hd2 v (hlt hd1 hv)] at hv
  by_cases hs : x.Goals[v]? = some true
  ·rw [if_pos hs] at hv; cases hv
   exact .inl (hq2 v (hA.s v hs) hs)
  ·rw [if_neg hs] at hv; cases hv
   right
   intro u w a b ha hx hy hlt'
   simp only at hx
   rw [hd2 v (hlt hd1 hx), if_neg hs] at hx
   cases hx; omega
 ·rintro ⟨d, hp⟩ ⟨hS, hAct, hroom⟩
  simp only at hS hAct hroom
  simp only [QI, Qp5]
  by_cases hpos : 0 < hp.length
  rotate_left
  ·obtain rfl : hp = [] := List.length_eq_zero_iff.1 (by omega)
   refine ⟨.brk (d, []), by simp, by simp, fun s' e => ?_, by simp⟩
   cases e
   refine { hS.ds with cl := fun v u w a b ha hx hy hlt' => ?_ }
   rcases hAct v a hx with h | h
   ·simp at h
   ·exact h u w a b ha hx hy hlt'
  ·have hpos' : (0 : Int) < (hp.length : Int) := by omega
   obtain ⟨⟨it, h0⟩, hpop, hperm⟩ := QoC hpos (by omega)
   simp only at hperm
   have hl0 := hperm.length_eq
   rw [List.length_cons] at hl0
   obtain ⟨q, dq, hqs, hdq, hle, hif⟩ := hS.it it (hperm.mem_iff.1 (by simp))
   obtain ⟨dd, st⟩ := it
   simp only at hqs hle hif
   subst hqs
   have hqn := hlt hS.ds.len hdq
   have rdq := hS.ds.rng q dq hdq
   obtain ⟨row, hrow, hrl, hrm⟩ := hL2 q hqn
   simp only [hpos', decide_true, if_true, hpop, Option.bind_some, QI, Qo, hdq]
   by_cases hsk : dq < dd
   ·simp only [hsk, decide_true, if_true]
    refine ⟨_, Z, fun s' e => ?_, by simp, by simp⟩
    cases e
    refine ⟨⟨hS.sub fun q' hq' => hperm.mem_iff.1 (List.mem_cons_of_mem _ hq'), fun v a hv => ?_, by simp only; omega⟩, by simp only; omega⟩
    rcases hAct v a hv with h | h
    ·rcases List.mem_cons.1 (hperm.mem_iff.2 h) with h | h
     ·simp only [pdb_item.mk.injEq] at h
      obtain ⟨rfl, h⟩ := h
      have : v = q := by omega
      subst this
      simp only at hv
      rw [hdq] at hv; cases hv; omega
     ·exact .inl h
    ·exact .inr h
   ·obtain rfl : dd = dq := by omega
    have hmust : must (decide (row.length ≤ 9223372036854775807)) = some () := by unfold must; rw [if_pos (by simp; omega)]
    simp only [hsk, decide_false, Bool.false_eq_true, if_false, hrow, hmust, Option.bind_some]
    suffices hin : Ok (forS (fun i102 => QI fun (l115 : (List Int)) (l116 : (List pdb_item)) => (Q9 row (i102 : Int)).bind fun x106 =>
      (Q9 x.Costs x106.Label).bind fun x107 =>
      (Q9 l115 x106.From).bind fun x108 =>
      (if decide ((IntKind.i64.wrap (dd + x107)) < x108) then ((JL l115 x106.From (IntKind.i64.wrap (dd + x107))).bind fun l117 =>
      (Kl l116 (⟨IntKind.i64.wrap (dd + x107), x106.From⟩ : pdb_item)).bind <| fun (l118 : (List pdb_item)) =>
      some (l117, l118))
      else (some (l115, l116))).bind (QI fun (l119 : (List Int)) (l120 : (List pdb_item)) => some (l119, l120))) (row.length) 0 (d, h0))
      (fun s => HS (Kz x true) (Qd5 x) n s.1 s.2 ∧ (∀ v, Act (Kz x true) s.1 s.2 v) ∧ s.2.length + pot s.1 ≤ h0.length + pot d ∧ 2 * tot s.1 + s.2.length ≤ 2 * tot d + h0.length) by
     obtain ⟨⟨d', h'⟩, hr, g1, g2, g3, g4⟩ := hin
     simp only at g1 g2 g3 g4
     refine ⟨.next (d', h'), ?_, fun s' e => ?_, by simp, by simp⟩
     ·simp only [QI, Qo] at hr
      rw [hr]
      rfl
     ·cases e
      exact ⟨⟨g1, g2, by simp only; omega⟩, by simp only; omega⟩
    refine QQ (fun i s => HS (Kz x true) (Qd5 x) n s.1 s.2 ∧ s.1[q]? = some dd ∧ (∀ v, v ≠ q → Act (Kz x true) s.1 s.2 v) ∧
     (∀ (e : Edge) (l u : Nat) (w y : Int), e ∈ row.take i → e.Label = (l : Int) → x.Costs[l]? = some w → e.From = (u : Int) → s.1[u]? = some y → y ≤ dd + w) ∧
     s.2.length + pot s.1 ≤ h0.length + pot d ∧ 2 * tot s.1 + s.2.length ≤ 2 * tot d + h0.length) ?_ ?_ ?_
    ·refine ⟨hS.sub fun q' hq' => hperm.mem_iff.1 (List.mem_cons_of_mem _ hq'), hdq, fun v hvq a hv => ?_, by simp, Nat.le_refl _, Nat.le_refl _⟩
     rcases hAct v a hv with h | h
     ·rcases List.mem_cons.1 (hperm.mem_iff.2 h) with h | h
      ·simp only [pdb_item.mk.injEq] at h
       exact absurd (show v = q by omega) hvq
      ·exact .inl h
     ·exact .inr h
    ·rintro i ⟨k, hk⟩ hi ⟨g1, g2, g3, g4, g5, g6⟩
     simp only at g1 g2 g3 g4 g5 g6
     obtain ⟨e, he⟩ := Qt hi
     obtain ⟨heE, heT⟩ := (hrm e).1 (List.mem_of_getElem? he)
     obtain ⟨u, t, lb, rfl, hu, ht, w, hw, w0, w1⟩ := h.edge e heE
     simp only at heT
     have hlq : dd < Inf := hif
     have harc : Kz x true q u w := ⟨_, heE, lb, rfl, hw, by simp; omega⟩
     obtain ⟨y, hy⟩ := Qt (xs := k) (i := u) (by rw [g1.ds.len]; exact hu)
     have ry := g1.ds.rng u y hy
     have rd := g1.ds.rng q dd g2
     have hwr : IntKind.i64.wrap (dd + w) = dd + w := QD (by omega) (by omega)
     have htk := Q6 he
     simp only [QI, Qo, he, hw, hy, Option.bind_some, hwr]
     by_cases hlt2 : dd + w < y
     rotate_left
     ·simp only [hlt2, decide_false, Bool.false_eq_true, if_false, Option.bind_some]
      refine Ok.ret ⟨g1, g2, g3, fun e' l' u' w' y' hm hl' hw' hu' hy' => ?_, g5, g6⟩
      rw [htk] at hm
      rcases List.mem_append.1 hm with hm | hm
      ·exact g4 e' l' u' w' y' hm hl' hw' hu' hy'
      ·simp only [List.mem_singleton] at hm
       subst hm
       simp only at hl' hu' hy'
       obtain rfl : u = u' := by omega
       obtain rfl : lb = l' := by omega
       rw [hw] at hw'; cases hw'
       rw [hy] at hy'; cases hy'
       omega
     ·have huq : u ≠ q := by
       rintro rfl
       rw [g2] at hy; cases hy; omega
      have hD' := g1.ds.set hA harc g2 hy hlt2
      have hul : u < k.length := by rw [g1.ds.len]; exact hu
      have hself : (k.set u (dd + w))[u]? = some (dd + w) := List.getElem?_set_self hul
      have hq' : (k.set u (dd + w))[q]? = some dd := by rw [List.getElem?_set_ne huq]; exact g2
      have hmono : ∀ (v : Nat) (b : Int), (k.set u (dd + w))[v]? = some b → ∃ b', k[v]? = some b' ∧ b ≤ b' := by
       intro v b hb
       by_cases e : u = v
       ·subst e
        rw [hself] at hb
        cases hb
        exact ⟨y, hy, by omega⟩
       ·rw [List.getElem?_set_ne e] at hb; exact ⟨b, hb, Int.le_refl _⟩
      have hfin := QlM (l := k) (u := u) (y := y) (z := dd + w) hy (by omega)
      have hfl := QpP (k.set u (dd + w))
      rw [hD'.len] at hfl
      have hbq := g1.b q dd g2 hif
      have hnew : dd + w ≤ (fin (k.set u (dd + w)) : Int) * 1048576 := by
       by_cases hyi : y < Inf
       ·rw [if_pos hyi] at hfin
        have := g1.b u y hy hyi
        rw [hfin]; omega
       ·rw [if_neg hyi] at hfin
        rw [hfin]
        have : ((fin k + 1 : Nat) : Int) * 1048576 = (fin k : Int) * 1048576 + 1048576 := by omega
        omega
      have htot := QgV (l := k) (u := u) (y := y) (z := dd + w) hy (by omega) hlt2
      have hpot := QlF (l := k) (u := u) (y := y) (z := dd + w) hy (by omega) hlt2 (by omega)
      obtain ⟨r, hr, hr2⟩ := Qki (h := hk) (x := ⟨dd + w, (u : Int)⟩) (by omega)
      have hrl2 := hr2.length_eq
      rw [List.length_cons] at hrl2
      simp only [hlt2, decide_true, if_true, QW hul, hr, Option.bind_some]
      refine Ok.ret ⟨⟨hD', fun v a hv hai => ?_, fun q2 hq2 => ?_⟩, hq', fun v hvq a hv => ?_, fun e' l' u' w' y' hm hl' hw' hu' hy' => ?_, by simp only; omega, by simp only; omega⟩
      ·by_cases e : u = v
       ·subst e
        rw [hself] at hv; cases hv
        exact hnew
       ·rw [List.getElem?_set_ne e] at hv
        have := g1.b v a hv hai
        have : (fin k : Int) ≤ (fin (k.set u (dd + w)) : Int) := by rw [hfin]; split <;> omega
        show a ≤ (fin (k.set u (dd + w)) : Int) * 1048576
        omega
      ·rcases List.mem_cons.1 (hr2.mem_iff.1 hq2) with rfl | hq2
       ·exact ⟨u, dd + w, Z, hself, Int.le_refl _, by simp only; omega⟩
       ·obtain ⟨v, a, a1, a2, a3, a4⟩ := g1.it q2 hq2
        by_cases e : u = v
        ·subst e
         rw [hy] at a2; cases a2
         exact ⟨u, dd + w, a1, hself, by omega, a4⟩
        ·exact ⟨v, a, a1, by rw [List.getElem?_set_ne e]; exact a2, a3, a4⟩
      ·by_cases e : u = v
       ·subst e
        simp only at hv
        rw [hself] at hv; cases hv
        exact .inl (hr2.mem_iff.2 (by simp))
       ·simp only at hv
        rw [List.getElem?_set_ne e] at hv
        rcases g3 v hvq a hv with h | h
        ·exact .inl (hr2.mem_iff.2 (List.mem_cons_of_mem _ h))
        ·right
         intro u2 w2 a2 b2 harc2 ha2 hb2 hlt2'
         simp only at ha2 hb2
         rw [List.getElem?_set_ne e] at ha2
         obtain ⟨b', hb', hle'⟩ := hmono u2 b2 hb2
         have := h u2 w2 a2 b' harc2 ha2 hb' hlt2'
         omega
      ·simp only at hy'
       obtain ⟨b', hb', hle'⟩ := hmono u' y' hy'
       rw [htk] at hm
       rcases List.mem_append.1 hm with hm | hm
       ·have := g4 e' l' u' w' b' hm hl' hw' hu' hb'
        omega
       ·simp only [List.mem_singleton] at hm
        subst hm
        simp only at hl' hu'
        obtain rfl : u = u' := by omega
        obtain rfl : lb = l' := by omega
        rw [hw] at hw'; cases hw'
        rw [hself] at hy'; cases hy'
        exact Int.le_refl _
    ·rintro ⟨k, hk⟩ ⟨g1, g2, g3, g4, g5, g6⟩
     simp only at g1 g2 g3 g4 g5 g6
     refine ⟨g1, fun v => ?_, g5, g6⟩
     by_cases e : v = q
     ·subst e
      intro a hv
      right
      intro u w a' b harc ha hb hlt2
      simp only at ha hb
      rw [g2] at ha; cases ha
      obtain ⟨d, hd, l, hl, hw, hb2⟩ := harc
      simp only [if_true] at hb2
      exact g4 d l u w b (by rw [List.take_length]; exact (hrm d).2 ⟨hd, hb2.1⟩) hl hw hb2.2 hb
     ·exact g3 v e
 ·rintro ⟨d, hp⟩ hsp
  exact Ok.ret hsp
end Go.Pw
