/-
  All states, successors, small tasks, in plain Lean.
-/
import Derived.Test.YtdhfofhginfdnaaWhPl
set_option maxHeartbeats 4000000
set_option linter.unusedSimpArgs false
set_option linter.unusedVariables false
namespace Go.Pw
/-! ### all states -/
def expand (k : Int) (out : List (List Int)) : List (List Int) := out.flatMap fun s => (List.range k.toNat).map fun (x : Nat) => s ++ [(x : Int)]
def stR : List Int → List (List Int)
  | [] => [[]]
  | k :: r => expand k (stR r)
def statesL (vars : List Int) : List (List Int) := stR vars.reverse
theorem expand_len (k : Int) (hk : 0 ≤ k) (out : List (List Int)) : ((expand k out).length : Int) = out.length * k := by
  unfold expand
  induction out with
  | nil => simp
  | cons s out ih =>
    simp only [List.flatMap_cons, List.length_append, List.length_map, List.length_range, List.length_cons]
    rw [Int.natCast_add, ih, Int.natCast_add, Int.add_mul]
    omega
theorem stR_len : ∀ {r : List Int}, (∀ x ∈ r, 0 ≤ x) → ((stR r).length : Int) = prd r
  | [], _ => rfl
  | k :: r, h => by
    unfold stR prd
    rw [expand_len k (h k (by simp)), stR_len fun x hx => h x (by simp [hx]), Int.mul_comm]
theorem StateOK.snoc {vars : List Int} {k : Int} {s : List Int} : StateOK (vars ++ [k]) s ↔ ∃ s' x, s = s' ++ [x] ∧ StateOK vars s' ∧ 0 ≤ x ∧ x < k := by
  constructor
  · intro h
    have hl := h.len
    simp only [List.length_append, List.length_singleton] at hl
    obtain ⟨x, hx⟩ := get_len (xs := s) (i := vars.length) (by omega)
    have hsp : s = s.take vars.length ++ [x] := by
      have := take_snoc hx
      rw [← this, List.take_of_length_le (by omega)]
    refine ⟨s.take vars.length, x, hsp, ⟨by simp; omega, fun i y d hy hd => ?_⟩, ?_⟩
    · have hi := (List.getElem?_eq_some_iff.1 hd).1
      refine h.r i y d ?_ (by rw [List.getElem?_append_left hi]; exact hd)
      rw [List.getElem?_take] at hy
      simpa [hi] using hy
    · exact h.r vars.length x k hx (by simp)
  · rintro ⟨s', x, rfl, h, h0, h1⟩
    refine ⟨by simp [h.len], fun i y d hy hd => ?_⟩
    by_cases hi : i < vars.length
    · rw [List.getElem?_append_left (by rw [h.len]; exact hi)] at hy
      rw [List.getElem?_append_left hi] at hd
      exact h.r i y d hy hd
    · have hlt := (List.getElem?_eq_some_iff.1 hd).1
      simp only [List.length_append, List.length_singleton] at hlt
      obtain rfl : i = vars.length := by omega
      rw [List.getElem?_append_right (by rw [h.len]; exact Nat.le_refl _), h.len, Nat.sub_self] at hy
      rw [List.getElem?_append_right (Nat.le_refl _), Nat.sub_self] at hd
      simp only [List.getElem?_cons_zero, Option.some.injEq] at hy hd
      subst hy hd
      exact ⟨h0, h1⟩
theorem stR_mem : ∀ {r : List Int} {s : List Int}, s ∈ stR r ↔ StateOK r.reverse s
  | [], s => by
    simp only [stR, List.mem_singleton, List.reverse_nil]
    constructor
    · rintro rfl; exact ⟨rfl, by simp⟩
    · intro h; exact List.eq_nil_of_length_eq_zero h.len
  | k :: r, s => by
    rw [List.reverse_cons, StateOK.snoc]
    simp only [stR, expand, List.mem_flatMap, List.mem_map, List.mem_range]
    constructor
    · rintro ⟨s', hs', x, hx, rfl⟩
      exact ⟨s', (x : Int), rfl, stR_mem.1 hs', by omega, by omega⟩
    · rintro ⟨s', x, rfl, h, h0, h1⟩
      exact ⟨s', stR_mem.2 h, x.toNat, by omega, by rw [Int.toNat_of_nonneg h0]⟩
theorem statesL_mem {vars s : List Int} : s ∈ statesL vars ↔ StateOK vars s := by
  unfold statesL
  rw [stR_mem, List.reverse_reverse]
theorem prd_reverse (l : List Int) : prd l.reverse = prd l := prd_perm (List.reverse_perm l)
theorem statesL_len {vars : List Int} (h : ∀ x ∈ vars, 0 ≤ x) : ((statesL vars).length : Int) = prd vars := by
  unfold statesL
  rw [stR_len (fun x hx => h x (List.mem_reverse.1 hx)), prd_reverse]
theorem prd_take_le {l : List Int} (h : ∀ x ∈ l, 1 ≤ x) (i : Nat) : prd (l.take i) ≤ prd l := by
  have := prd_le_append (l := l.take i) (k := l.drop i) (fun x hx => h x (List.mem_of_mem_take hx)) (fun x hx => h x (List.mem_of_mem_drop hx))
  rwa [List.take_append_drop] at this
theorem states_ok {vars : List Int} (hv : ∀ n ∈ vars, 1 ≤ n ∧ n ≤ 64) (hn : vars.length ≤ 64) (hp : prd vars ≤ 4096) : base_States_p vars = some (statesL vars) := by
  unfold base_States_p
  refine Ok.eq (Ok.bind (Ok.forS (fun i out => out = statesL (vars.take i)) (by simp [statesL, stR]) ?_ ?_))
  · rintro i out hi rfl
    obtain ⟨k, hk⟩ := get_len hi
    have hkr := hv k (List.mem_of_getElem? hk)
    have hlen := statesL_len (vars := vars.take i) fun x hx => by have := hv x (List.mem_of_mem_take hx); omega
    have hle := prd_take_le (l := vars) (fun x hx => (hv x hx).1) i
    have hle2 := prd_take_le (l := vars) (fun x hx => (hv x hx).1) (i + 1)
    have hmul : prd (vars.take (i + 1)) = prd (vars.take i) * k := by rw [take_snoc hk, prd_append]; simp [prd]
    have hstep : statesL (vars.take (i + 1)) = expand k (statesL (vars.take i)) := by
      unfold statesL
      rw [take_snoc hk, List.reverse_append, List.reverse_singleton, List.singleton_append]
      rfl
    have hel := expand_len k (by omega) (statesL (vars.take i))
    have hsl : ∀ s ∈ statesL (vars.take i), s.length ≤ 64 := fun s hs => by
      have := (statesL_mem.1 hs).len
      rw [List.length_take] at this
      omega
    rw [hstep]
    generalize statesL (vars.take i) = L at *
    simp only [idx_nat, hk, Option.bind_some]
    rw [forS_list L (fun s => (List.range k.toNat).map fun (x : Nat) => s ++ [(x : Int)]) (s0 := [])]
    · exact Ok.ret (by simp [expand])
    · intro j s u hj hu
      have hs := hsl s (List.mem_of_getElem? hj)
      have hjl := (List.getElem?_eq_some_iff.1 hj).1
      have hul : u.length ≤ 4096 * 64 := by
        rw [hu, List.nil_append]
        refine Nat.le_trans (flat_le (M := 64) fun x _ => by simp; omega) (Nat.mul_le_mul_right _ ?_)
        rw [List.length_take]
        omega
      have hm : must (decide (k ≤ 9223372036854775807)) = some () := by unfold must; rw [if_pos (by simp; omega)]
      simp only [hj, hm, Option.bind_some]
      rw [forS_range k.toNat (fun (x : Nat) => [s ++ [(x : Int)]]) (s0 := u)]
      · simp [flat_one]
      · intro x w hx hw
        have hwl : w.length ≤ 4096 * 64 + 64 := by
          rw [hw, flat_one]
          simp
          omega
        rw [app_ok (by simp; omega)]
        simp only [Option.bind_some, List.nil_append]
        rw [app_ok (by simp; omega)]
        simp only [Option.bind_some]
        rw [app_ok (by simp; omega)]
        rfl
  · rintro out rfl
    rw [List.take_length]
    exact Ok.ret rfl
/-! ### successors -/
open Classical in
noncomputable def applyL (effs : List Effect) (s : List Int) : List Int := effs.foldl (fun c e => if hold e.When s then c.set e.Var.toNat e.Val else c) s
open Classical in
theorem applyL_snoc (effs : List Effect) (e : Effect) (s : List Int) : applyL (effs ++ [e]) s = if hold e.When s then (applyL effs s).set e.Var.toNat e.Val else applyL effs s := by simp [applyL]
theorem list_snoc {α : Type} {P : List α → Prop} (h0 : P []) (h1 : ∀ l x, P l → P (l ++ [x])) (l : List α) : P l := by
  have : ∀ r : List α, P r.reverse := by
    intro r
    induction r with
    | nil => exact h0
    | cons x r ih => rw [List.reverse_cons]; exact h1 _ _ ih
  have h := this l.reverse
  rwa [List.reverse_reverse] at h
theorem applyL_ok {vars : List Int} {s : List Int} (hs : StateOK vars s) {effs : List Effect} : (∀ e ∈ effs, InR vars ⟨e.Var, e.Val⟩) → StateOK vars (applyL effs s) := by
  refine list_snoc (P := fun effs => (∀ e ∈ effs, InR vars ⟨e.Var, e.Val⟩) → StateOK vars (applyL effs s)) (fun _ => hs) ?_ effs
  intro l e ih h
  have h1 := ih fun e' he' => h e' (by simp [he'])
  have h2 := h e (by simp)
  rw [applyL_snoc]
  by_cases hc : hold e.When s
  · rw [if_pos hc]; exact h1.set h2.2.2.1 h2.2.2.2
  · rw [if_neg hc]; exact h1
theorem applyL_at {vars : List Int} {s : List Int} (hs : StateOK vars s) {v : Int} (h0 : 0 ≤ v) (h1 : v < (vars.length : Int)) {effs : List Effect} : (∀ e ∈ effs, InR vars ⟨e.Var, e.Val⟩) → (applyL effs s)[v.toNat]? = some (effV effs v s) := by
  refine list_snoc (P := fun effs => (∀ e ∈ effs, InR vars ⟨e.Var, e.Val⟩) → (applyL effs s)[v.toNat]? = some (effV effs v s)) (fun _ => ?_) ?_ effs
  · obtain ⟨x, hx, _⟩ := hs.at h0 h1
    simp [applyL, effV, hx]
  · intro l e ih h
    have i1 := ih fun e' he' => h e' (by simp [he'])
    have h2 := h e (by simp)
    have hok := applyL_ok hs (effs := l) fun e' he' => h e' (by simp [he'])
    have hlen := hok.len
    rw [applyL_snoc, effV_snoc]
    by_cases hc : hold e.When s
    · rw [if_pos hc]
      by_cases hv : e.Var = v
      · rw [if_pos ⟨hv, hc⟩, hv, List.getElem?_set_self (by omega)]
      · have := h2.1
        rw [if_neg (fun h => hv h.1), List.getElem?_set_ne (by simp only at this; omega)]
        exact i1
    · rw [if_neg hc, if_neg (fun h => hc h.2)]
      exact i1
theorem apply_ok {t : Task} (ht : GoodT t) {i : Nat} {o : Op} (hi : t.Ops[i]? = some o) {s : List Int} (hs : StateOK t.Vars s) :
    Ok (base_Apply_p t s (i : Int)) fun r => (hold o.Pre s → r = (applyL o.Effs s, true)) ∧ (¬ hold o.Pre s → r = ([], false)) := by
  classical
  have hop := ht.op o (List.mem_of_getElem? hi)
  have hlt := (List.getElem?_eq_some_iff.1 hi).1
  have hnv := ht.nv
  have hsl := hs.len
  unfold base_Apply_p
  have a1 : ¬ ((i : Int) < 0) := by omega
  have a2 : ¬ ((t.Ops.length : Int) ≤ (i : Int)) := by omega
  simp only [a1, a2, decide_false, Bool.false_eq_true, if_false, idx_nat, hi, Option.bind_some, tHolds hop.pre hsl]
  by_cases h : hold o.Pre s
  · simp only [h, decide_true, Bool.not_true, Bool.false_eq_true, if_false]
    rw [app_ok (by simp; omega)]
    simp only [Option.bind_some, List.nil_append]
    refine Ok.bind (Ok.forS (fun j m => m = applyL (o.Effs.take j) s) (by simp [applyL]) ?_ ?_)
    · rintro j m hj rfl
      obtain ⟨e, he⟩ := get_len hj
      have her := hop.eff e (List.mem_of_getElem? he)
      have hok := applyL_ok hs (effs := o.Effs.take j) fun e' he' => (hop.eff e' (List.mem_of_mem_take he')).2
      have her2 := her.2
      unfold InR at her2
      simp only at her2
      have hlen := hok.len
      obtain ⟨y, hy, _⟩ := hok.at her2.1 her2.2.1
      simp only [idx_nat, he, Option.bind_some, tHolds her.1 hsl]
      have i1 : idx (applyL (o.Effs.take j) s) e.Var = some y := by unfold idx; rw [if_pos her2.1, hy]
      have i2 : setI (applyL (o.Effs.take j) s) e.Var e.Val = some ((applyL (o.Effs.take j) s).set e.Var.toNat e.Val) := by unfold setI; rw [if_pos ⟨her2.1, by omega⟩]
      rw [take_snoc he, applyL_snoc]
      by_cases hc : hold e.When s
      · simp only [hc, decide_true, if_true, i1, i2, Option.bind_some]
        exact Ok.ret rfl
      · simp only [hc, decide_false, Bool.false_eq_true, if_false, Option.bind_some]
        exact Ok.ret rfl
    · rintro m rfl
      rw [List.take_length]
      exact Ok.ret ⟨fun _ => rfl, fun h' => absurd trivial h'⟩
  · simp only [h, decide_false, Bool.not_false, if_true]
    exact Ok.ret ⟨fun h' => h'.elim, fun _ => rfl⟩
/-! ### small tasks -/
theorem many_ok {vars : List Int} (hv : ∀ n ∈ vars, 1 ≤ n ∧ n ≤ 64) {most : Int} (h0 : 64 ≤ most) (h1 : most ≤ 100000) : Ok (base_Many_p vars most) fun m => (prd vars ≤ most ∧ m = prd vars) ∨ (most < prd vars ∧ m = most + 1) := by
  unfold base_Many_p
  rw [wrap_id (n := most + 1) (by omega) (by omega)]
  refine Ok.ctl (fun i n => n = prd (vars.take i) ∧ n ≤ most) (fun r => most < prd vars ∧ r = most + 1) ⟨by simp [prd], by omega⟩ ?_ ?_ ?_
  · rintro i n hi ⟨h2, h3⟩
    obtain ⟨k, hk⟩ := get_len hi
    have hkr := hv k (List.mem_of_getElem? hk)
    have hpos := prd_pos (l := vars.take i) fun x hx => (hv x (List.mem_of_mem_take hx)).1
    rw [← h2] at hpos
    have hmul : prd (vars.take (i + 1)) = n * k := by rw [take_snoc hk, prd_append, ← h2]; simp [prd]
    have hmm : min (max k 0) (most + 1) = k := by omega
    have b1 : n * k ≤ 100000 * 64 := Int.mul_le_mul (by omega) hkr.2 (by omega) (by omega)
    have b0 : 0 ≤ n * k := Int.mul_nonneg (by omega) (by omega)
    simp only [idx_nat, hk, Option.bind_some, hmm, wrap_id (n := n * k) (by omega) (by omega)]
    by_cases h4 : most < n * k
    · simp only [h4, decide_true, if_true]
      have := prd_take_le (l := vars) (fun x hx => (hv x hx).1) (i + 1)
      exact Ok.ret ⟨by omega, rfl⟩
    · simp only [h4, decide_false, Bool.false_eq_true, if_false]
      exact Ok.ret ⟨hmul.symm, by omega⟩
  · rintro r h
    exact Ok.ret (.inr h)
  · rintro n ⟨h2, h3⟩
    rw [List.take_length] at h2
    exact Ok.ret (.inl ⟨by omega, h2⟩)
structure SmallT (t : Task) : Prop where
  g : GoodT t
  nv : t.Vars.length ≤ 12
  no : t.Ops.length ≤ 20
  ne : ∀ o ∈ t.Ops, o.Effs.length ≤ 8
  p : prd t.Vars ≤ 512
open Classical in
theorem small_ok (t : Task) : base_Small_p t = some (decide (SmallT t)) := by
  refine Ok.eq ?_
  unfold base_Small_p
  by_cases h1 : 12 < (t.Vars.length : Int)
  · simp only [h1, decide_true, Bool.true_or, if_true]
    exact Ok.ret (by rw [eq_comm, decide_eq_false_iff_not]; intro h; have := h.nv; omega)
  by_cases h2 : 20 < (t.Ops.length : Int)
  · simp only [h1, h2, decide_true, Bool.or_true, if_true]
    exact Ok.ret (by rw [eq_comm, decide_eq_false_iff_not]; intro h; have := h.no; omega)
  simp only [h1, h2, decide_false, Bool.or_self, Bool.false_eq_true, if_false]
  rw [ctl_list (r := false) (fun o => o.Effs.length ≤ 8)]
  · by_cases h3 : ∀ o ∈ t.Ops, o.Effs.length ≤ 8
    · rw [if_pos h3, tGood]
      by_cases h4 : GoodT t
      · obtain ⟨m, hm, hm2⟩ := many_ok h4.v (most := 512) (by omega) (by omega)
        simp only [h4, decide_true, if_true, Option.bind_some, hm]
        refine Ok.ret ?_
        rcases hm2 with ⟨h5, rfl⟩ | ⟨h5, rfl⟩
        · rw [decide_eq_true h5, eq_comm, decide_eq_true_iff]
          exact ⟨h4, by omega, by omega, h3, h5⟩
        · rw [decide_eq_false (by omega), eq_comm, decide_eq_false_iff_not]
          intro h; have := h.p; omega
      · simp only [h4, decide_false, Bool.false_eq_true, if_false, Option.bind_some]
        exact Ok.ret (by rw [eq_comm, decide_eq_false_iff_not]; exact fun h => h4 h.g)
    · rw [if_neg h3]
      exact Ok.ret (by rw [eq_comm, decide_eq_false_iff_not]; exact fun h => h3 h.ne)
  · intro i o ho
    simp only [idx_nat, ho, Option.bind_some]
    by_cases h : 8 < (o.Effs.length : Int)
    · have : ¬ o.Effs.length ≤ 8 := by omega
      simp [h, this]
    · have : o.Effs.length ≤ 8 := by omega
      simp [h, this]
theorem prd_sub {vars : List Int} (hv : ∀ n ∈ vars, 1 ≤ n ∧ n ≤ 64) {l : List Int} (hn : l.Nodup) (hl : ∀ w ∈ l, 0 ≤ w ∧ w < (vars.length : Int)) : prd (l.map (dom vars)) ≤ prd vars := by
  have hM : ((List.range vars.length).map fun (i : Nat) => (i : Int)).Nodup := by
    refine List.pairwise_map.2 (List.Pairwise.imp ?_ List.nodup_range)
    intro a b h e
    omega
  obtain ⟨M', hp, _, hm⟩ := take_out l ((List.range vars.length).map fun (i : Nat) => (i : Int)) hn hM (fun c hc => by
    have := hl c hc
    exact List.mem_map.2 ⟨c.toNat, by simp; omega, by omega⟩)
  have hvars : ((List.range vars.length).map fun (i : Nat) => (i : Int)).map (dom vars) = vars := by
    apply List.ext_getElem?
    intro i
    by_cases hi : i < vars.length
    · rw [dom_get hi]; simp [hi]
    · rw [List.getElem?_eq_none (by simp; omega), List.getElem?_eq_none (by omega)]
  have h1 := prd_perm (hp.map (dom vars))
  rw [hvars, List.map_append] at h1
  rw [h1]
  have hpos : ∀ w : Int, 0 ≤ w ∧ w < (vars.length : Int) → 1 ≤ dom vars w := by
    intro w hw
    obtain ⟨d, hd⟩ := get_len (xs := vars) (i := w.toNat) (by omega)
    have := hv d (List.mem_of_getElem? hd)
    unfold dom
    rw [hd]
    exact this.1
  refine prd_le_append ?_ ?_
  · intro x hx
    obtain ⟨w, hw, rfl⟩ := List.mem_map.1 hx
    exact hpos w (hl w hw)
  · intro x hx
    obtain ⟨w, hw, rfl⟩ := List.mem_map.1 hx
    obtain ⟨i, hi, rfl⟩ := List.mem_map.1 ((hm w).1 hw).1
    exact hpos _ ⟨by omega, by have := List.mem_range.1 hi; omega⟩
theorem free_room {t : Task} (ht : GoodT t) {v : Int} (h0 : 0 ≤ v) (h1 : v < (t.Vars.length : Int)) {o : Op} (ho : o ∈ t.Ops) {fr : List Int} (hf : fr.Nodup) (hm : ∀ w, w ∈ fr ↔ Free o v w) : dom t.Vars v * prd (fr.map (dom t.Vars)) ≤ prd t.Vars := by
  have := prd_sub ht.v (l := v :: fr) (List.nodup_cons.2 ⟨fun h => ((hm v).1 h).1 rfl, hf⟩) (by
    intro w hw
    rcases List.mem_cons.1 hw with rfl | hw
    · exact ⟨h0, h1⟩
    · obtain ⟨_, _, e, he, _, f, hf, rfl⟩ := (hm w).1 hw
      have := ((ht.op o ho).eff e he).1.r f hf
      exact ⟨this.1, this.2.1⟩)
  simpa [prd] using this
theorem SmallT.room {t : Task} (h : SmallT t) {v : Int} (h0 : 0 ≤ v) (h1 : v < (t.Vars.length : Int)) : Room t v := by
  have hd := dom_pos h.g.v h0 h1
  have hp := h.p
  have hpp := prd_pos fun x hx => (h.g.v x hx).1
  have hno := h.no
  have hq0 : 0 ≤ prd t.Vars / dom t.Vars v := Int.ediv_nonneg (by omega) (by omega)
  have hq1 : prd t.Vars / dom t.Vars v ≤ prd t.Vars := Int.ediv_le_self _ (by omega)
  have hq2 : dom t.Vars v * (prd t.Vars / dom t.Vars v) ≤ prd t.Vars := Int.mul_ediv_self_le (by omega)
  refine ⟨(prd t.Vars / dom t.Vars v).toNat, fun o ho fr hf hm => ?_, by omega, ?_⟩
  · have h2 := free_room h.g h0 h1 ho hf hm
    rw [Int.toNat_of_nonneg hq0]
    rw [Int.mul_comm] at h2
    exact (Int.le_ediv_iff_mul_le (by omega)).2 h2
  · have h3 : (((dom t.Vars v).toNat * (prd t.Vars / dom t.Vars v).toNat : Nat) : Int) ≤ 512 := by
      rw [Int.natCast_mul, Int.toNat_of_nonneg hq0, Int.toNat_of_nonneg (by omega)]
      omega
    have h4 : (dom t.Vars v).toNat * (prd t.Vars / dom t.Vars v).toNat ≤ 512 := by omega
    have h5 : (dom t.Vars v).toNat * (prd t.Vars / dom t.Vars v).toNat * t.Ops.length ≤ 512 * 20 := Nat.mul_le_mul h4 hno
    rw [Nat.mul_right_comm]
    omega
end Go.Pw
