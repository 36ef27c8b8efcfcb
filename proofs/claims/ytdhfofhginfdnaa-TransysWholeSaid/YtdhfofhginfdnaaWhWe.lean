/-
  Products of the systems of variables, in plain Lean: few edges of a label; the states and steps of the task's first variables.
-/
import Derived.Test.YtdhfofhginfdnaaWhRk
import Derived.Test.YtdhfofhginfdnaaWhPL
set_option maxHeartbeats 4000000
set_option linter.unusedSimpArgs false
set_option linter.unusedVariables false
namespace Go.Pw
theorem nodup_sub_len {α : Type} : ∀ {C M : List α}, C.Nodup → (∀ x ∈ C, x ∈ M) → C.length ≤ M.length
  | [], _, _, _ => by simp
  | c :: C, M, hn, h => by
    classical
    obtain ⟨h1, h2⟩ := List.nodup_cons.1 hn
    have hm := h c (by simp)
    have := nodup_sub_len (C := C) (M := M.erase c) h2 fun x hx => (List.mem_erase_of_ne (fun e => h1 (by rw [← e]; exact hx))).2 (h x (by simp [hx]))
    rw [List.length_erase_of_mem hm] at this
    have := List.length_pos_of_mem hm
    simp only [List.length_cons]
    omega
/-- How many effects an operator has on a variable. -/
def effN (o : Op) (v : Int) : Nat := (o.Effs.filter fun e => decide (e.Var = v)).length
theorem effV_cases (v : Int) (s : List Int) (effs : List Effect) : effV effs v s = s[v.toNat]?.getD 0 ∨ ∃ e ∈ effs, e.Var = v ∧ e.Val = effV effs v s := by
  refine list_snoc (P := fun effs => effV effs v s = s[v.toNat]?.getD 0 ∨ ∃ e ∈ effs, e.Var = v ∧ e.Val = effV effs v s) (.inl rfl) ?_ effs
  intro l e ih
  rw [effV_snoc]
  by_cases hc : e.Var = v ∧ hold e.When s
  · rw [if_pos hc]
    exact .inr ⟨e, by simp, hc.1, rfl⟩
  · rw [if_neg hc]
    rcases ih with h | ⟨e', he', h⟩
    · exact .inl h
    · exact .inr ⟨e', by simp [he'], h⟩
theorem atom_rows {t : Task} {v : Int} {x : System} (ht : GoodT t) (h0 : 0 ≤ v) (h1 : v < (t.Vars.length : Int)) (hx : AtomRes t v x) {l : Nat} {o : Op} (ho : t.Ops[l]? = some o) :
    (rowsOf x l).length ≤ (dom t.Vars v).toNat + effN o v * ((dom t.Vars v).toNat - 1) := by
  have hop := ht.op o (List.mem_of_getElem? ho)
  have hd := dom_pos ht.v h0 h1
  have hnd : (rowsOf x l).Nodup := List.Pairwise.filter _ (Srt.nodup hx.srt)
  have hsub : ∀ d ∈ rowsOf x l, d ∈ ((List.range (dom t.Vars v).toNat).map fun (a : Nat) => (⟨(a : Int), (l : Int), (a : Int)⟩ : Edge)) ++
      (o.Effs.filter fun e => decide (e.Var = v)).flatMap fun e => ((List.range (dom t.Vars v).toNat).filter fun (a : Nat) => !decide ((a : Int) = e.Val)).map fun (a : Nat) => (⟨(a : Int), (l : Int), e.Val⟩ : Edge) := by
    intro d hd'
    obtain ⟨hd1, hd2⟩ := mem_rows.1 hd'
    obtain ⟨i, o', ho', hl, σ, s1, s2, s3, s4⟩ := (hx.mem d).1 hd1
    obtain rfl : i = l := by omega
    rw [ho] at ho'; cases ho'
    obtain ⟨y, hy, hy0, hy1⟩ := s1.at h0 h1
    rw [hy] at s2
    have s2 := Zu s2
    obtain ⟨f, lb, g⟩ := d
    simp only at s2 s4 hl
    subst s2 hl
    rw [List.mem_append]
    by_cases e : g = y
    · left
      rw [List.mem_map]
      exact ⟨y.toNat, by simp; omega, by rw [Int.toNat_of_nonneg hy0, e]⟩
    · right
      rcases effV_cases v σ o.Effs with h | ⟨e', he', hv', hval⟩
      · rw [hy] at h
        exact absurd (s4.trans h) e
      · rw [List.mem_flatMap]
        refine ⟨e', by simp [he', hv'], ?_⟩
        rw [List.mem_map]
        refine ⟨y.toNat, ?_, ?_⟩
        · simp only [List.mem_filter, List.mem_range, Bool.not_eq_true', decide_eq_false_iff_not]
          exact ⟨by omega, by rw [Int.toNat_of_nonneg hy0, hval, ← s4]; exact fun h => e h.symm⟩
        · rw [Int.toNat_of_nonneg hy0, hval, s4]
  have hlen := nodup_sub_len hnd hsub
  rw [List.length_append, List.length_map, List.length_range] at hlen
  refine Nat.le_trans hlen (Nat.add_le_add_left ?_ _)
  unfold effN
  refine flat_le (M := (dom t.Vars v).toNat - 1) fun e he => ?_
  rw [List.length_map]
  simp only [List.mem_filter, decide_eq_true_eq] at he
  have her := (hop.eff e he.1).2
  have hv2 := her.2.2.2
  have hv1 := her.2.2.1
  simp only at hv1 hv2
  rw [he.2] at hv2
  have hdv : dom t.Vars v = t.Vars[v.toNat]?.getD 0 := rfl
  have : ((List.range (dom t.Vars v).toNat).filter fun (a : Nat) => !decide ((a : Int) = e.Val)).length < (List.range (dom t.Vars v).toNat).length := by
    rw [List.length_filter_lt_length_iff_exists]
    exact ⟨e.Val.toNat, by simp; omega, by simp; omega⟩
  rw [List.length_range] at this
  omega
theorem pow_bd : ∀ k, k < 65 → ∀ e, e < 9 → 1 ≤ k → (k + e * (k - 1)) ^ 2 * 16 ^ e ≤ 25 ^ e * k ^ 3 := by decide +kernel
/-- How many effects an operator has on the first variables. -/
def effS (o : Op) (m : Nat) : Nat := (o.Effs.filter fun e => decide (e.Var < (m : Int))).length
theorem effS_succ (o : Op) (m : Nat) : effS o (m + 1) = effS o m + effN o m := by
  unfold effS effN
  induction o.Effs with
  | nil => simp
  | cons e l ih =>
    simp only [List.filter_cons]
    by_cases h1 : e.Var < (m : Int)
    · have h2 : e.Var < ((m + 1 : Nat) : Int) := by omega
      have h3 : ¬ e.Var = (m : Int) := by omega
      simp only [h1, h2, h3, decide_true, decide_false, if_true, Bool.false_eq_true, if_false, List.length_cons]; omega
    · by_cases h3 : e.Var = (m : Int)
      · have h2 : e.Var < ((m + 1 : Nat) : Int) := by omega
        have e1 : decide ((m : Int) < (m : Int)) = false := by simp
        have e2 : decide ((m : Int) < ((m + 1 : Nat) : Int)) = true := by simp; omega
        simp only [h3, e1, e2, decide_true, if_true, Bool.false_eq_true, if_false, List.length_cons]
        omega
      · have h2 : ¬ e.Var < ((m + 1 : Nat) : Int) := by omega
        simp only [h1, h2, h3, decide_true, decide_false, if_true, Bool.false_eq_true, if_false, List.length_cons]; omega
theorem effS_le (o : Op) (m : Nat) : effS o m ≤ o.Effs.length := List.length_filter_le _ _
/-- A bound on a number of edges: S effects, P states. -/
def EB (f S P : Nat) : Prop := f ^ 2 * 16 ^ S ≤ 25 ^ S * P ^ 3
theorem EB.mul {f g S e P k : Nat} (h : EB f S P) (h' : EB g e k) : EB (f * g) (S + e) (P * k) := by
  unfold EB at *
  have := Nat.mul_le_mul h h'
  have e1 : (f * g) ^ 2 * 16 ^ (S + e) = f ^ 2 * 16 ^ S * (g ^ 2 * 16 ^ e) := by rw [Nat.mul_pow, Nat.pow_add]; ac_rfl
  have e2 : 25 ^ (S + e) * (P * k) ^ 3 = 25 ^ S * P ^ 3 * (25 ^ e * k ^ 3) := by rw [Nat.mul_pow, Nat.pow_add]; ac_rfl
  rw [e1, e2]
  exact this
theorem EB.le {f f' S P : Nat} (h : EB f S P) (hf : f' ≤ f) : EB f' S P := Nat.le_trans (Nat.mul_le_mul_right _ (Nat.pow_le_pow_left hf 2)) h
theorem EB.top {f S P : Nat} (h : EB f S P) (hS : S ≤ 8) (hP : P ≤ 100) : f ≤ 8192 := by
  unfold EB at h
  have h1 : f ^ 2 * 16 ^ 8 ≤ 25 ^ 8 * 100 ^ 3 := by
    have e16 : (16 : Nat) ^ 8 = 16 ^ S * 16 ^ (8 - S) := by rw [← Nat.pow_add]; congr 1; omega
    have e25 : (25 : Nat) ^ 8 = 25 ^ S * 25 ^ (8 - S) := by rw [← Nat.pow_add]; congr 1; omega
    have a1 : (16 : Nat) ^ (8 - S) ≤ 25 ^ (8 - S) := Nat.pow_le_pow_left (by omega) _
    have a2 : P ^ 3 ≤ 100 ^ 3 := Nat.pow_le_pow_left hP 3
    have b1 : f ^ 2 * 16 ^ 8 = f ^ 2 * 16 ^ S * 16 ^ (8 - S) := by rw [e16]; ac_rfl
    have b2 : f ^ 2 * 16 ^ S * 16 ^ (8 - S) ≤ 25 ^ S * P ^ 3 * 25 ^ (8 - S) := Nat.mul_le_mul h a1
    have b3 : 25 ^ S * P ^ 3 * 25 ^ (8 - S) ≤ 25 ^ S * 100 ^ 3 * 25 ^ (8 - S) := Nat.mul_le_mul_right _ (Nat.mul_le_mul_left _ a2)
    have b4 : 25 ^ S * 100 ^ 3 * 25 ^ (8 - S) = 25 ^ 8 * 100 ^ 3 := by rw [e25]; ac_rfl
    rw [b1, ← b4]
    exact Nat.le_trans b2 b3
  by_cases hf : f ≤ 8192
  · exact hf
  · have h2 : 8193 ^ 2 * 16 ^ 8 ≤ f ^ 2 * 16 ^ 8 := Nat.mul_le_mul_right _ (Nat.pow_le_pow_left (by omega) 2)
    have := Nat.le_trans h2 h1
    exact absurd this (by decide)
theorem atom_EB {t : Task} {v : Int} {x : System} (ht : GoodT t) (h0 : 0 ≤ v) (h1 : v < (t.Vars.length : Int)) (hx : AtomRes t v x) {l : Nat} {o : Op} (ho : t.Ops[l]? = some o) (he : o.Effs.length ≤ 8) : EB (rowsOf x l).length (effN o v) (dom t.Vars v).toNat := by
  have hd := dom_pos ht.v h0 h1
  have hle : effN o v ≤ o.Effs.length := List.length_filter_le _ _
  have h := pow_bd (dom t.Vars v).toNat (by omega) (effN o v) (by omega) (by omega)
  exact EB.le (f := (dom t.Vars v).toNat + effN o v * ((dom t.Vars v).toNat - 1)) h (atom_rows ht h0 h1 hx ho)
/-- A variable's system is valid. -/
theorem AtomRes.vsys {t : Task} {v : Int} {x : System} (ht : GoodT t) (h0 : 0 ≤ v) (h1 : v < (t.Vars.length : Int)) (hx : AtomRes t v x) : VSys x := by
  have hd := dom_pos ht.v h0 h1
  have hno := ht.no
  obtain ⟨x0, hx0, hx1, hx2⟩ := ht.init.at h0 h1
  have hi := hx.i
  rw [hx0] at hi
  have hi := Zu hi
  have hs := hx.s
  refine ⟨by omega, by omega, by omega, by omega, by rw [hx.gl, hs], by rw [hx.c]; simpa using hno, hx.n, ?_, ?_, ?_⟩
  · intro c hc
    rw [hx.c] at hc
    obtain ⟨o, ho, rfl⟩ := List.mem_map.1 hc
    exact ⟨(ht.op o ho).c0, (ht.op o ho).c1⟩
  · intro d hd'
    obtain ⟨i, o, ho, hl, σ, s1, s2, s3, s4⟩ := (hx.mem d).1 hd'
    have hop := ht.op o (List.mem_of_getElem? ho)
    obtain ⟨y, hy, hy0, hy1⟩ := s1.at h0 h1
    have hr := effV_range hy hy0 hy1 (effs := o.Effs) fun e he => (hop.eff e he).2
    rw [hy] at s2
    have s2 := Zu s2
    have hlt := (List.getElem?_eq_some_iff.1 ho).1
    rw [hs, hx.c, List.length_map]
    omega
  · intro i d e hd' he
    have hp := List.pairwise_iff_getElem.1 hx.srt
    obtain ⟨h1, rfl⟩ := List.getElem?_eq_some_iff.1 hd'
    obtain ⟨h2, rfl⟩ := List.getElem?_eq_some_iff.1 he
    exact hp i (i + 1) h1 h2 (by omega)
/-- The goal, as far as the first variables tell. -/
def goalM (t : Task) (m : Nat) (s : List Int) : Prop := ∀ f ∈ t.Goal, f.Var < (m : Int) → s[f.Var.toNat]? = some f.Val
/-- A step of the first variables: each has a state of its own that gives it. -/
def XStep (t : Task) (o : Op) (m : Nat) (s s' : List Int) : Prop := ∀ (w : Nat) (a b : Int), w < m → s[w]? = some a → s'[w]? = some b → TB t o w a b
structure XRes (t : Task) (m : Nat) (x : System) : Prop where
  v : VSys x
  s : x.States = prd (t.Vars.take m)
  c : x.Costs = t.Ops.map fun o => o.Cost
  g : ∀ s, StateOK (t.Vars.take m) s → ∃ b, x.Goals[(rk (t.Vars.take m) s).toNat]? = some b ∧ (b = true ↔ goalM t m s)
  e : ∀ d, d ∈ x.Edges ↔ ∃ (s s' : List Int) (i : Nat) (o : Op), StateOK (t.Vars.take m) s ∧ StateOK (t.Vars.take m) s' ∧ t.Ops[i]? = some o ∧ d = ⟨rk (t.Vars.take m) s, (i : Int), rk (t.Vars.take m) s'⟩ ∧ XStep t o m s s'
  b : ∀ (l : Nat) (o : Op), t.Ops[l]? = some o → EB (rowsOf x l).length (effS o m) (prd (t.Vars.take m)).toNat
theorem StateOK.one {k : Int} {s : List Int} : StateOK [k] s ↔ ∃ x, s = [x] ∧ 0 ≤ x ∧ x < k := by
  have := StateOK.snoc (vars := []) (k := k) (s := s)
  simp only [List.nil_append] at this
  rw [this]
  constructor
  · rintro ⟨s', x, rfl, h, h0, h1⟩
    rw [h.eq_nil]
    exact ⟨x, rfl, h0, h1⟩
  · rintro ⟨x, rfl, h0, h1⟩
    exact ⟨[], x, rfl, StateOK.nil, h0, h1⟩
theorem rk_one (k x : Int) : rk [k] [x] = x := by simp [rk, rkZ]
theorem take_one {vars : List Int} (h : 0 < vars.length) : vars.take 1 = [dom vars 0] := by
  have := dom_get h
  have := take_snoc this
  simpa using this
theorem x_first {t : Task} {x : System} (ht : SmallT t) (hn : 0 < t.Vars.length) (hx : AtomRes t 0 x) : XRes t 1 x := by
  have h1 : (0 : Int) < (t.Vars.length : Int) := by omega
  have hd := dom_pos ht.g.v (Int.le_refl 0) h1
  have ht1 := take_one hn
  refine ⟨hx.vsys ht.g (Int.le_refl _) h1, by rw [hx.s, ht1]; simp [prd], hx.c, ?_, ?_, ?_⟩
  · rw [ht1]
    intro s hs
    obtain ⟨y, rfl, h0, h1⟩ := StateOK.one.1 hs
    rw [rk_one]
    obtain ⟨b, hb, hb2⟩ := hx.g y.toNat (by rw [Int.toNat_of_nonneg h0]; exact h1)
    refine ⟨b, hb, hb2.trans ?_⟩
    rw [Int.toNat_of_nonneg h0]
    unfold goalAt goalM
    constructor
    · intro h f hf hlt
      have hfr := ht.g.goal.r f hf
      have := hfr.1
      have e : f.Var = 0 := by omega
      rw [e]
      simp [h f hf e]
    · intro h f hf e
      have := h f hf (by omega)
      rw [e] at this
      simpa using this.symm
  · rw [ht1]
    intro d
    rw [hx.mem]
    constructor
    · rintro ⟨i, o, ho, hl, hT⟩
      have hop := ht.g.op o (List.mem_of_getElem? ho)
      have hT' := hT
      obtain ⟨σ, s1, s2, s3, s4⟩ := hT
      obtain ⟨y, hy, hy0, hy1⟩ := s1.at (Int.le_refl 0) h1
      have hr := effV_range hy hy0 hy1 (effs := o.Effs) fun e he => (hop.eff e he).2
      rw [hy] at s2
      have s2 := Zu s2
      refine ⟨[d.From], [d.To], i, o, StateOK.one.2 ⟨_, rfl, by omega, by omega⟩, StateOK.one.2 ⟨_, rfl, by omega, by omega⟩, ho, ?_, ?_⟩
      · rw [rk_one, rk_one, ← hl]
      · intro w a b hw ha hb
        obtain rfl : w = 0 := by omega
        simp only [List.getElem?_cons_zero, Option.some.injEq] at ha hb
        subst ha hb
        exact hT'
    · rintro ⟨s, s', i, o, hs, hs', ho, rfl, hst⟩
      obtain ⟨y, rfl, _⟩ := StateOK.one.1 hs
      obtain ⟨z, rfl, _⟩ := StateOK.one.1 hs'
      refine ⟨i, o, ho, rfl, ?_⟩
      rw [rk_one, rk_one]
      exact hst 0 y z (by omega) rfl rfl
  · intro l o ho
    have h := atom_EB ht.g (Int.le_refl 0) h1 hx ho (ht.ne o (List.mem_of_getElem? ho))
    have e1 : effS o 1 = effN o 0 := by
      have := effS_succ o 0
      have h0 : effS o 0 = 0 := by
        unfold effS
        rw [List.length_eq_zero_iff, List.filter_eq_nil_iff]
        intro e he
        have := ((ht.g.op o (List.mem_of_getElem? ho)).eff e he).2.1
        simp only at this
        simp only [decide_eq_true_eq]
        omega
      rw [this, h0, Nat.zero_add]
      rfl
    rw [e1, ht1]
    simpa [prd] using h
theorem rows_prod {a b z : System} (hz : ProdRes a b z) (ha : VSys a) (hb : VSys b) (l : Nat) : (rowsOf z l).length ≤ (rowsOf a l).length * (rowsOf b l).length := by
  rw [← rowP_len]
  refine nodup_sub_len (List.Pairwise.filter _ (Srt.nodup hz.o)) fun d hd => ?_
  obtain ⟨hd1, hd2⟩ := mem_rows.1 hd
  obtain ⟨e, he, f, hf, hef, rfl⟩ := (hz.e d).1 hd1
  have hl : e.Label = (l : Int) := hd2
  unfold rowP
  rw [List.mem_flatMap]
  refine ⟨e, mem_rows.2 ⟨he, hl⟩, ?_⟩
  rw [List.mem_map]
  exact ⟨f, mem_rows.2 ⟨hf, by rw [← hef]; exact hl⟩, by rw [hl]⟩
theorem x_step {t : Task} {m : Nat} {x y z : System} (ht : SmallT t) (hm : m < t.Vars.length) (hp : prd t.Vars ≤ 100) (hx : XRes t m x) (hy : AtomRes t m y) (hz : ProdRes x y z) (hzl : z.Edges.length ≤ 65536) : XRes t (m + 1) z := by
  have hv1 : ∀ n ∈ t.Vars, 1 ≤ n := fun n hn => (ht.g.v n hn).1
  have hm0 : (0 : Int) ≤ (m : Int) := by omega
  have hm1 : (m : Int) < (t.Vars.length : Int) := by omega
  have hd := dom_pos ht.g.v hm0 hm1
  have hvy := hy.vsys ht.g hm0 hm1
  have hdm := dom_get hm
  have htk : t.Vars.take (m + 1) = t.Vars.take m ++ [dom t.Vars m] := take_snoc hdm
  have hprd : prd (t.Vars.take (m + 1)) = prd (t.Vars.take m) * dom t.Vars m := by rw [htk, prd_append]; simp [prd]
  have hle := prd_take_le hv1 (m + 1)
  have hvt : ∀ n ∈ t.Vars.take m, 1 ≤ n := fun n hn => hv1 n (List.mem_of_mem_take hn)
  have hpm := prd_pos hvt
  have hc : x.Costs = y.Costs := by rw [hx.c, hy.c]
  have hys : y.States = dom t.Vars m := hy.s
  have hss : x.States * y.States ≤ 4096 := by rw [hx.s, hys, ← hprd]; omega
  refine ⟨hz.v hx.v hvy hc hss hzl, by rw [hz.s, hx.s, hys, hprd], by rw [hz.c, hx.c], ?_, ?_, ?_⟩
  · intro s hs
    rw [htk] at hs
    obtain ⟨s', v, rfl, hs', h0, h1⟩ := StateOK.snoc.1 hs
    obtain ⟨b, hb, hb2⟩ := hx.g s' hs'
    obtain ⟨c, hcc, hc2⟩ := hy.g v.toNat (by rw [Int.toNat_of_nonneg h0]; exact h1)
    have hr := rk_lt hvt hs'
    have hgl := hy.gl
    have hgy : y.Goals.length = (dom t.Vars m).toNat := by omega
    refine ⟨b && c, ?_, ?_⟩
    · rw [htk, rk_snoc hs'.len, hz.g]
      unfold goalsP
      have := flat_getU (f := fun g => y.Goals.map fun h => g && h) (m := (dom t.Vars m).toNat) (xs := x.Goals) (by simp [hgy]) hb (y := v.toNat) (z := b && c) (by rw [List.getElem?_map, hcc]; rfl)
      have e : (rk (t.Vars.take m) s' * dom t.Vars m + v).toNat = (rk (t.Vars.take m) s').toNat * (dom t.Vars m).toNat + v.toNat := by
        have hp0 : 0 ≤ rk (t.Vars.take m) s' * dom t.Vars m := Int.mul_nonneg hr.1 (by omega)
        apply Int.ofNat.inj
        show (((rk (t.Vars.take m) s' * dom t.Vars m + v).toNat : Nat) : Int) = (((rk (t.Vars.take m) s').toNat * (dom t.Vars m).toNat + v.toNat : Nat) : Int)
        rw [Int.natCast_add, Int.natCast_mul, Int.toNat_of_nonneg hr.1, Int.toNat_of_nonneg (by omega : 0 ≤ dom t.Vars m), Int.toNat_of_nonneg h0, Int.toNat_of_nonneg (by omega)]
      rw [e]
      exact this
    · rw [Bool.and_eq_true, hb2, hc2, Int.toNat_of_nonneg h0]
      unfold goalM goalAt
      have hl' : s'.length = m := by rw [hs'.len, List.length_take]; omega
      constructor
      · rintro ⟨g1, g2⟩ f hf hlt
        have hf0 := (ht.g.goal.r f hf).1
        by_cases e : f.Var = (m : Int)
        · rw [List.getElem?_append_right (by omega), show f.Var.toNat - s'.length = 0 by omega, g2 f hf e]; rfl
        · rw [List.getElem?_append_left (by omega)]
          exact g1 f hf (by omega)
      · intro h
        constructor
        · intro f hf hlt
          have hf0 := (ht.g.goal.r f hf).1
          have := h f hf (by omega)
          rwa [List.getElem?_append_left (by omega)] at this
        · intro f hf e
          have := h f hf (by omega)
          rw [List.getElem?_append_right (by omega), show f.Var.toNat - s'.length = 0 by omega] at this
          simpa using this.symm
  · intro d
    rw [hz.e]
    unfold PE
    constructor
    · rintro ⟨e, he, f, hf, hef, rfl⟩
      obtain ⟨s, s', i, o, hs, hs', ho, rfl, hst⟩ := (hx.e e).1 he
      obtain ⟨j, o', ho', hl, hT⟩ := (hy.mem f).1 hf
      simp only at hef
      obtain rfl : i = j := by omega
      rw [ho] at ho'; cases ho'
      have hop := ht.g.op o (List.mem_of_getElem? ho)
      have hT' := hT
      obtain ⟨σ, s1, s2, s3, s4⟩ := hT
      obtain ⟨q, hq, hq0, hq1⟩ := s1.at hm0 hm1
      have hr := effV_range hq hq0 hq1 (effs := o.Effs) fun e he => (hop.eff e he).2
      rw [hq] at s2
      have s2 := Zu s2
      have hl1 : s.length = m := by rw [hs.len, List.length_take]; omega
      have hl2 : s'.length = m := by rw [hs'.len, List.length_take]; omega
      refine ⟨s ++ [f.From], s' ++ [f.To], i, o, by rw [htk]; exact StateOK.snoc.2 ⟨s, _, rfl, hs, by omega, by omega⟩, by rw [htk]; exact StateOK.snoc.2 ⟨s', _, rfl, hs', by omega, by omega⟩, ho, ?_, ?_⟩
      · rw [htk, rk_snoc hs.len, rk_snoc hs'.len, hys.symm]
        rfl
      · intro w a b hw ha hb
        by_cases e : w = m
        · subst e
          rw [List.getElem?_append_right (by omega), hl1, Nat.sub_self] at ha
          rw [List.getElem?_append_right (by omega), hl2, Nat.sub_self] at hb
          simp only [List.getElem?_cons_zero, Option.some.injEq] at ha hb
          subst ha hb
          exact hT'
        · rw [List.getElem?_append_left (by omega)] at ha hb
          exact hst w a b (by omega) ha hb
    · rintro ⟨u, u', i, o, hu, hu', ho, rfl, hst⟩
      rw [htk] at hu hu'
      obtain ⟨s, v, rfl, hs, h0, h1⟩ := StateOK.snoc.1 hu
      obtain ⟨s', v', rfl, hs', h0', h1'⟩ := StateOK.snoc.1 hu'
      have hl1 : s.length = m := by rw [hs.len, List.length_take]; omega
      have hl2 : s'.length = m := by rw [hs'.len, List.length_take]; omega
      refine ⟨⟨rk (t.Vars.take m) s, (i : Int), rk (t.Vars.take m) s'⟩, (hx.e _).2 ⟨s, s', i, o, hs, hs', ho, rfl, fun w a b hw ha hb => ?_⟩, ⟨v, (i : Int), v'⟩, (hy.mem _).2 ⟨i, o, ho, rfl, ?_⟩, rfl, ?_⟩
      · exact hst w a b (by omega) (by rw [List.getElem?_append_left (by omega)]; exact ha) (by rw [List.getElem?_append_left (by omega)]; exact hb)
      · exact hst m v v' (by omega) (by rw [List.getElem?_append_right (by omega), hl1, Nat.sub_self]; rfl) (by rw [List.getElem?_append_right (by omega), hl2, Nat.sub_self]; rfl)
      · rw [htk, rk_snoc hs.len, rk_snoc hs'.len, hys.symm]
        rfl
  · intro l o ho
    have h1 := hx.b l o ho
    have h2 := atom_EB ht.g hm0 hm1 hy ho (ht.ne o (List.mem_of_getElem? ho))
    have h3 := (h1.mul h2).le (rows_prod hz hx.v hvy l)
    rw [effS_succ, hprd]
    have e : (prd (t.Vars.take m) * dom t.Vars m).toNat = (prd (t.Vars.take m)).toNat * (dom t.Vars m).toNat := Int.toNat_mul (by omega) (by omega)
    rw [e]
    exact h3
/-- The program's product of the two is within its limits. -/
theorem x_prod {t : Task} {m : Nat} {x y : System} (ht : SmallT t) (hm : m < t.Vars.length) (hp : prd t.Vars ≤ 100) (ho8 : t.Ops.length ≤ 8) (hx : XRes t m x) (hy : AtomRes t m y) : Ok (transys_Product_p x y) fun r => r.1 = none ∧ XRes t (m + 1) r.2 := by
  have hv1 : ∀ n ∈ t.Vars, 1 ≤ n := fun n hn => (ht.g.v n hn).1
  have hm0 : (0 : Int) ≤ (m : Int) := by omega
  have hm1 : (m : Int) < (t.Vars.length : Int) := by omega
  have hd := dom_pos ht.g.v hm0 hm1
  have hvy := hy.vsys ht.g hm0 hm1
  have hdm := dom_get hm
  have htk : t.Vars.take (m + 1) = t.Vars.take m ++ [dom t.Vars m] := take_snoc hdm
  have hprd : prd (t.Vars.take (m + 1)) = prd (t.Vars.take m) * dom t.Vars m := by rw [htk, prd_append]; simp [prd]
  have hle := prd_take_le hv1 (m + 1)
  have hvt : ∀ n ∈ t.Vars.take m, 1 ≤ n := fun n hn => hv1 n (List.mem_of_mem_take hn)
  have hpm := prd_pos hvt
  have hc : x.Costs = y.Costs := by rw [hx.c, hy.c]
  have hss : x.States * y.States ≤ 4096 := by rw [hx.s, hy.s, ← hprd]; omega
  have hcl : x.Costs.length = t.Ops.length := by rw [hx.c, List.length_map]
  refine Ok.mono (product_okL hx.v hvy hc hss (C := 8192) (fun l hl => ?_) (by omega)) ?_
  · obtain ⟨o, ho⟩ := get_len (xs := t.Ops) (i := l) (by omega)
    have h1 := hx.b l o ho
    have h2 := atom_EB ht.g hm0 hm1 hy ho (ht.ne o (List.mem_of_getElem? ho))
    have h3 := h1.mul h2
    refine h3.top ?_ ?_
    · have := effS_succ o m
      have := effS_le o (m + 1)
      have := ht.ne o (List.mem_of_getElem? ho)
      omega
    · have e : (prd (t.Vars.take m) * dom t.Vars m).toNat = (prd (t.Vars.take m)).toNat * (dom t.Vars m).toNat := Int.toNat_mul (by omega) (by omega)
      rw [← e, ← hprd]
      omega
  · rintro ⟨e, z⟩ ⟨h1, h2, h3⟩
    exact ⟨h1, x_step ht hm hp hx hy h2 (by simp only at h3 ⊢; omega)⟩
end Go.Pw
