/-
  Right tasks, in plain Lean: Good and task.Check accept the same.
-/
import Derived.Test.YtdhfofhginfdnaaWhR
import Derived.Test.YtdhfofhginfdnaaB1
set_option maxHeartbeats 4000000
set_option linter.unusedSimpArgs false
set_option linter.unusedVariables false
namespace Go.Pw
def InR (vars : List Int) (x : Fact) : Prop := 0 ≤ x.Var ∧ x.Var < (vars.length : Int) ∧ 0 ≤ x.Val ∧ x.Val < vars[x.Var.toNat]?.getD 0
structure FactsOK (vars : List Int) (f : List Fact) : Prop where
  r : ∀ x ∈ f, InR vars x
  o : f.Pairwise fun a b => a.Var < b.Var
structure OpOK (vars : List Int) (o : Op) : Prop where
  c0 : 0 ≤ o.Cost
  c1 : o.Cost ≤ 1048576
  ne : o.Effs.length ≤ 64
  nm : o.Name.size ≤ 256
  ch : ∀ c ∈ bytesOf o.Name, 32 ≤ c ∧ c ≤ 126
  pre : FactsOK vars o.Pre
  eff : ∀ e ∈ o.Effs, FactsOK vars e.When ∧ InR vars ⟨e.Var, e.Val⟩
structure StateOK (vars s : List Int) : Prop where
  len : s.length = vars.length
  r : ∀ (i : Nat) (x d : Int), s[i]? = some x → vars[i]? = some d → 0 ≤ x ∧ x < d
structure GoodT (t : Task) : Prop where
  nv : t.Vars.length ≤ 64
  no : t.Ops.length ≤ 4096
  v : ∀ n ∈ t.Vars, 1 ≤ n ∧ n ≤ 64
  init : StateOK t.Vars t.Init
  goal : FactsOK t.Vars t.Goal
  op : ∀ o ∈ t.Ops, OpOK t.Vars o
theorem take_snoc {α : Type} {l : List α} {i : Nat} {x : α} (h : l[i]? = some x) : l.take (i + 1) = l.take i ++ [x] := by rw [List.take_add_one, h]; rfl
theorem FactsOK.snoc {vars : List Int} {l : List Fact} {x : Fact} : FactsOK vars (l ++ [x]) ↔ FactsOK vars l ∧ InR vars x ∧ ∀ a ∈ l, a.Var < x.Var := by
  constructor
  · rintro ⟨h1, h2⟩
    rw [List.pairwise_append] at h2
    exact ⟨⟨fun y hy => h1 y (by simp [hy]), h2.1⟩, h1 x (by simp), fun a ha => h2.2.2 a ha x (by simp)⟩
  · rintro ⟨⟨h1, h2⟩, h3, h4⟩
    refine ⟨fun y hy => ?_, List.pairwise_append.2 ⟨h2, by simp, fun a ha b hb => ?_⟩⟩
    · rcases List.mem_append.1 hy with hy | hy
      · exact h1 y hy
      · simp only [List.mem_singleton] at hy; subst hy; exact h3
    · simp only [List.mem_singleton] at hb; subst hb; exact h4 a ha
theorem FactsOK.take {vars : List Int} {f : List Fact} (h : FactsOK vars f) (i : Nat) : FactsOK vars (f.take i) := ⟨fun x hx => h.r x (List.mem_of_mem_take hx), h.o.sublist (List.take_sublist i f)⟩
theorem FactsOK.len {vars : List Int} {f : List Fact} (h : FactsOK vars f) : f.length ≤ vars.length := by
  have := nodup_short' (n := vars.length) (L := f.map fun x => x.Var.toNat) ?_ ?_
  · simpa using this
  · refine List.pairwise_map.2 (h.o.imp_of_mem ?_)
    intro a b ha hb hlt
    have := h.r a ha
    have := h.r b hb
    unfold InR at *
    omega
  · intro x hx
    obtain ⟨y, hy, rfl⟩ := List.mem_map.1 hx
    have := h.r y hy
    unfold InR at *
    omega
theorem facts_bad {vars : List Int} {f : List Fact} {i : Nat} {x : Fact} (hx : f[i]? = some x) (h : ¬ (InR vars x ∧ ∀ a ∈ f.take i, a.Var < x.Var)) : ¬ FactsOK vars f := fun hf => h (by
  have := hf.take (i + 1)
  rw [take_snoc hx] at this
  exact (FactsOK.snoc.1 this).2)
theorem facts_next {vars : List Int} {f : List Fact} {i : Nat} {x : Fact} (hx : f[i]? = some x) (h : FactsOK vars (f.take i)) (hr : InR vars x) (hl : ∀ a ∈ f.take i, a.Var < x.Var) : FactsOK vars (f.take (i + 1)) := by
  rw [take_snoc hx]
  exact FactsOK.snoc.2 ⟨h, hr, hl⟩
theorem var_idx {vars : List Int} {n : Int} (h0 : 0 ≤ n) (h1 : n < (vars.length : Int)) : idx vars n = some (vars[n.toNat]?.getD 0) := by
  obtain ⟨d, hd⟩ := get_len (xs := vars) (i := n.toNat) (by omega)
  unfold idx
  rw [if_pos h0, hd]
  rfl
open Classical in
theorem tProper (vars : List Int) (f : List Fact) (hv : vars.length ≤ 4096) : base_Proper_p vars f = some (decide (FactsOK vars f)) := by
  refine Ok.eq ?_
  unfold base_Proper_p
  refine Ok.ctl (fun i _ => FactsOK vars (f.take i)) (fun r => r = false ∧ ¬ FactsOK vars f) ⟨by simp, by simp⟩ ?_ ?_ ?_
  · rintro i _ hi h
    obtain ⟨x, hx⟩ := get_len hi
    have hb := fun h => facts_bad (vars := vars) hx h
    have hlen := h.len
    have hil : i ≤ 4096 := by rw [List.length_take] at hlen; omega
    simp only [idx_nat, hx, Option.bind_some]
    by_cases h1 : x.Var < 0
    · simp only [h1, decide_true, if_true, Option.bind_some]; exact Ok.ret ⟨rfl, hb fun h => by have := h.1; unfold InR at this; omega⟩
    by_cases h2 : (vars.length : Int) ≤ x.Var
    · simp only [h1, h2, decide_true, decide_false, Bool.false_eq_true, if_false, if_true, Option.bind_some]; exact Ok.ret ⟨rfl, hb fun h => by have := h.1; unfold InR at this; omega⟩
    by_cases h3 : x.Val < 0
    · simp only [h1, h2, h3, decide_true, decide_false, Bool.false_eq_true, if_false, if_true, Option.bind_some]; exact Ok.ret ⟨rfl, hb fun h => by have := h.1; unfold InR at this; omega⟩
    rw [var_idx (by omega) (by omega)]
    by_cases h4 : vars[x.Var.toNat]?.getD 0 ≤ x.Val
    · simp only [h1, h2, h3, h4, decide_true, decide_false, Bool.false_eq_true, if_false, if_true, Option.bind_some]; exact Ok.ret ⟨rfl, hb fun h => by have := h.1; unfold InR at this; omega⟩
    have hr : InR vars x := by unfold InR; omega
    by_cases h5 : 0 < i
    · obtain ⟨a, ha⟩ := get_len (show i - 1 < f.length by omega)
      have hw : IntKind.i64.wrap ((i : Int) - 1) = ((i - 1 : Nat) : Int) := by rw [wrap_id (by omega) (by omega)]; omega
      have h5' : (0 : Int) < (i : Int) := by omega
      have ht : f.take i = f.take (i - 1) ++ [a] := by
        have := take_snoc ha
        rwa [show i - 1 + 1 = i by omega] at this
      simp only [h1, h2, h3, h4, h5', hw, idx_nat, ha, decide_true, decide_false, Bool.false_eq_true, if_false, if_true, Option.bind_some]
      by_cases h6 : x.Var ≤ a.Var
      · simp only [h6, decide_true, if_true]
        exact Ok.ret ⟨rfl, hb fun h => by have := h.2 a (by rw [ht]; simp); omega⟩
      · simp only [h6, decide_false, Bool.false_eq_true, if_false]
        refine Ok.ret (facts_next hx h hr fun b hb => ?_)
        rw [ht] at hb h
        rcases List.mem_append.1 hb with hb | hb
        · have := (FactsOK.snoc.1 h).2.2 b hb; omega
        · simp only [List.mem_singleton] at hb; subst hb; omega
    · have h5' : ¬ (0 : Int) < (i : Int) := by omega
      obtain rfl : i = 0 := by omega
      simp only [h1, h2, h3, h4, h5', decide_true, decide_false, Bool.false_eq_true, if_false, if_true, Option.bind_some]
      exact Ok.ret (facts_next hx h hr (by simp))
  · rintro r ⟨rfl, hn⟩
    exact Ok.ret (by simp [hn])
  · intro _ h
    rw [List.take_length] at h
    exact Ok.ret (by simp [h])
open Classical in
theorem tFacts (vars : List Int) (f : List Fact) : task_Facts_p vars f = some (decide (FactsOK vars f)) := by
  refine Ok.eq ?_
  unfold task_Facts_p
  refine Ok.ctl (fun i last => FactsOK vars (f.take i) ∧ -1 ≤ last ∧ (∀ a ∈ f.take i, a.Var ≤ last) ∧ (last = -1 ∨ ∃ a ∈ f.take i, a.Var = last)) (fun r => r = false ∧ ¬ FactsOK vars f) ⟨⟨by simp, by simp⟩, by omega, by simp, .inl rfl⟩ ?_ ?_ ?_
  · rintro i last hi ⟨h, g1, g2, g3⟩
    obtain ⟨x, hx⟩ := get_len hi
    have hb := fun h => facts_bad (vars := vars) hx h
    simp only [idx_nat, hx, Option.bind_some]
    by_cases h1 : x.Var ≤ last
    · simp only [h1, decide_true, if_true, Option.bind_some]; exact Ok.ret ⟨rfl, hb fun h => by
        have := h.1; unfold InR at this
        rcases g3 with g3 | ⟨a, ha, e⟩
        · omega
        · have := h.2 a ha; omega⟩
    by_cases h2 : (vars.length : Int) ≤ x.Var
    · simp only [h1, h2, decide_true, decide_false, Bool.false_eq_true, if_false, if_true, Option.bind_some]; exact Ok.ret ⟨rfl, hb fun h => by have := h.1; unfold InR at this; omega⟩
    by_cases h3 : x.Val < 0
    · simp only [h1, h2, h3, decide_true, decide_false, Bool.false_eq_true, if_false, if_true, Option.bind_some]; exact Ok.ret ⟨rfl, hb fun h => by have := h.1; unfold InR at this; omega⟩
    rw [var_idx (by omega) (by omega)]
    by_cases h4 : vars[x.Var.toNat]?.getD 0 ≤ x.Val
    · simp only [h1, h2, h3, h4, decide_true, decide_false, Bool.false_eq_true, if_false, if_true, Option.bind_some]; exact Ok.ret ⟨rfl, hb fun h => by have := h.1; unfold InR at this; omega⟩
    have hr : InR vars x := by unfold InR; omega
    simp only [h1, h2, h3, h4, decide_true, decide_false, Bool.false_eq_true, if_false, if_true, Option.bind_some]
    refine Ok.ret ⟨facts_next hx h hr fun b hb => ?_, by omega, fun a ha => ?_, .inr ⟨x, ?_, rfl⟩⟩
    · have := g2 b hb; omega
    · rw [take_snoc hx] at ha
      rcases List.mem_append.1 ha with ha | ha
      · have := g2 a ha; omega
      · simp only [List.mem_singleton] at ha; subst ha; omega
    · rw [take_snoc hx]; simp
  · rintro r ⟨rfl, hn⟩
    exact Ok.ret (by simp [hn])
  · rintro _ ⟨h, _⟩
    rw [List.take_length] at h
    exact Ok.ret (by simp [h])
/-- A loop over a list that looks whether all of it is right. -/
theorem ctl_list {α R β : Type} {xs : List α} {B : Nat → Unit → Option (Ctl Unit R)} {r : R} {kr : R → Option β} {k : Unit → Option β} (p : α → Prop) [DecidablePred p] (h : ∀ i x, xs[i]? = some x → B i () = some (if p x then .next () else .ret r)) :
    ctl (forC B xs.length 0 ()) kr k = open Classical in if ∀ x ∈ xs, p x then k () else kr r := by
  classical
  rw [ctl_all (p := fun i => decide (∀ x, xs[i]? = some x → p x)) (r := r)]
  · have : ((List.range xs.length).all fun i => decide (∀ x, xs[i]? = some x → p x)) = true ↔ ∀ x ∈ xs, p x := by
      rw [List.all_eq_true]
      constructor
      · intro h x hx
        obtain ⟨i, hi⟩ := List.mem_iff_getElem?.1 hx
        have hlt := (List.getElem?_eq_some_iff.1 hi).1
        have := h i (by simpa using hlt)
        simp only [decide_eq_true_eq] at this
        exact this x hi
      · intro h i hi
        simp only [decide_eq_true_eq]
        intro x hx
        exact h x (List.mem_of_getElem? hx)
    by_cases hall : ∀ x ∈ xs, p x
    · rw [if_pos (this.2 hall), if_pos hall]
    · rw [if_neg (fun h => hall (this.1 h)), if_neg hall]
  · intro i hi
    obtain ⟨x, hx⟩ := get_len hi
    rw [h i x hx]
    by_cases hp : p x
    · have : decide (∀ y, xs[i]? = some y → p y) = true := by simp [hx, hp]
      rw [this, if_pos hp]; rfl
    · have : decide (∀ y, xs[i]? = some y → p y) = false := by simp [hx, hp]
      rw [this, if_neg hp]; rfl
open Classical in
theorem state_all (vars s : List Int) (hl : s.length = vars.length) : ((List.range s.length).all fun i => decide (∀ x d, s[i]? = some x → vars[i]? = some d → 0 ≤ x ∧ x < d)) = decide (StateOK vars s) := by
  rw [Bool.eq_iff_iff, List.all_eq_true, decide_eq_true_eq]
  constructor
  · intro h
    refine ⟨hl, fun i x d hx hd => ?_⟩
    have hlt := (List.getElem?_eq_some_iff.1 hx).1
    have := h i (by simpa using hlt)
    simp only [decide_eq_true_eq] at this
    exact this x d hx hd
  · intro h i hi
    simp only [decide_eq_true_eq]
    exact h.r i
open Classical in
theorem tState (vars s : List Int) : base_State_p vars s = some (decide (StateOK vars s)) := by
  unfold base_State_p
  by_cases hl : s.length = vars.length
  · have hl' : (s.length : Int) = (vars.length : Int) := by omega
    simp only [hl', decide_true, Bool.not_true, Bool.false_eq_true, if_false]
    rw [ctl_all (p := fun i => decide (∀ x d, s[i]? = some x → vars[i]? = some d → 0 ≤ x ∧ x < d)) (r := false), state_all vars s hl]
    · cases decide (StateOK vars s) <;> rfl
    · intro i hi
      obtain ⟨x, hx⟩ := get_len hi
      obtain ⟨d, hd⟩ := get_len (show i < vars.length by omega)
      simp only [idx_nat, hx, hd, Option.bind_some, Option.some.injEq, forall_eq']
      by_cases h1 : x < 0
      · have : ¬ (0 ≤ x ∧ x < d) := by omega
        simp only [h1, this, decide_true, decide_false, if_true, Option.bind_some, forall_const, Bool.false_eq_true, if_false]
        simp [this]
      · by_cases h2 : d ≤ x
        · have : ¬ (0 ≤ x ∧ x < d) := by omega
          simp [h1, h2, this]
        · have : 0 ≤ x ∧ x < d := by omega
          simp [h1, h2, this]
  · have hl' : ¬ (s.length : Int) = (vars.length : Int) := by omega
    have : ¬ StateOK vars s := fun h => hl h.len
    simp [hl', this]
open Classical in
theorem tProperS (vars s : List Int) : task_Proper_p vars s = some (decide (StateOK vars s)) := by
  rw [← tState]
  unfold task_Proper_p base_State_p
  congr 1
  congr 1
  congr 1
  funext i _
  cases idx s (i : Int) <;> rfl
theorem charR {s : ByteArray} {R : Type} (r : R) (j : Nat) (x : Int) (hj : (bytesOf s)[j]? = some x) :
    (((idx (bytesOf s) (j : Int)).bind fun x => if decide (x < 32) then (some true) else (some (decide (126 < x)))).bind fun (z : Bool) => if z then (some (Ctl.ret r)) else (some (Ctl.next ()))) = some (if 32 ≤ x ∧ x ≤ 126 then Ctl.next () else .ret r) := by
  rw [idx_nat, hj]
  simp only [Option.bind_some]
  by_cases h1 : x < 32
  · have : ¬ (32 ≤ x ∧ x ≤ 126) := by omega
    simp [h1, this]
  · by_cases h2 : 126 < x
    · have : ¬ (32 ≤ x ∧ x ≤ 126) := by omega
      simp [h1, h2, this]
    · have : 32 ≤ x ∧ x ≤ 126 := by omega
      simp [h1, h2, this]
theorem size_bytes (s : ByteArray) : (s.size : Int).toNat = (bytesOf s).length := by rw [bytesOf_length]; simp
open Classical in
theorem tNamed (s : ByteArray) (h : s.size ≤ 9223372036854775807) : task_named_p s = some (decide (s.size ≤ 256 ∧ ∀ c ∈ bytesOf s, 32 ≤ c ∧ c ≤ 126)) := by
  unfold task_named_p
  have hm : must (decide ((s.size : Int) ≤ 9223372036854775807)) = some () := by unfold must; rw [if_pos (by simp; omega)]
  simp only [hm, Option.bind_some, size_bytes]
  rw [ctl_list (r := false) (fun c => 32 ≤ c ∧ c ≤ 126) (fun i x hx => charR false i x hx)]
  by_cases h1 : ∀ c ∈ bytesOf s, 32 ≤ c ∧ c ≤ 126
  · rw [if_pos h1]
    by_cases h2 : s.size ≤ 256
    · have : (s.size : Int) ≤ 256 := by omega
      simp only [this, h2, h1, decide_true, true_and]
      simp; exact h1
    · have : ¬ (s.size : Int) ≤ 256 := by omega
      simp [this, h2]
  · rw [if_neg h1]
    simp [h1]
open Classical in
theorem tOp (vars : List Int) (o : Op) (hv : vars.length ≤ 4096) : base_operator_p vars o = some (decide (OpOK vars o)) := by
  unfold base_operator_p
  by_cases h1 : o.Cost < 0
  · have : ¬ OpOK vars o := fun h => by have := h.c0; omega
    simp [h1, this]
  by_cases h2 : 1048576 < o.Cost
  · have : ¬ OpOK vars o := fun h => by have := h.c1; omega
    simp [h1, h2, this]
  by_cases h3 : 64 < (o.Effs.length : Int)
  · have : ¬ OpOK vars o := fun h => by have := h.ne; omega
    simp [h1, h2, h3, this]
  by_cases h4 : 256 < (o.Name.size : Int)
  · have : ¬ OpOK vars o := fun h => by have := h.nm; omega
    simp [h1, h2, h3, h4, this]
  simp only [h1, h2, h3, h4, decide_false, Bool.false_eq_true, if_false, tProper _ _ hv, Option.bind_some]
  by_cases h5 : FactsOK vars o.Pre
  · have hm : must (decide ((o.Name.size : Int) ≤ 9223372036854775807)) = some () := by unfold must; rw [if_pos (by simp; omega)]
    simp only [h5, decide_true, Bool.not_true, Bool.false_eq_true, if_false, hm, Option.bind_some, size_bytes]
    rw [ctl_list (r := false) (fun c => 32 ≤ c ∧ c ≤ 126) (fun i x hx => charR false i x hx)]
    by_cases h6 : ∀ c ∈ bytesOf o.Name, 32 ≤ c ∧ c ≤ 126
    · rw [if_pos h6, ctl_list (r := false) (fun e => FactsOK vars e.When ∧ InR vars ⟨e.Var, e.Val⟩)]
      · by_cases h7 : ∀ e ∈ o.Effs, FactsOK vars e.When ∧ InR vars ⟨e.Var, e.Val⟩
        · rw [if_pos h7]
          have : OpOK vars o := ⟨by omega, by omega, by omega, by omega, h6, h5, h7⟩
          simp [this]
        · rw [if_neg h7]
          have : ¬ OpOK vars o := fun h => h7 h.eff
          simp [this]
      · intro i e he
        have hone : FactsOK vars [⟨e.Var, e.Val⟩] ↔ InR vars ⟨e.Var, e.Val⟩ := ⟨fun h => h.r _ (by simp), fun h => ⟨by simpa using h, by simp⟩⟩
        simp only [idx_nat, he, Option.bind_some]
        by_cases h7 : FactsOK vars e.When
        · by_cases h8 : InR vars ⟨e.Var, e.Val⟩ <;> simp [h7, h8, hone, tProper _ _ hv]
        · simp [h7]
    · rw [if_neg h6]
      have : ¬ OpOK vars o := fun h => h6 h.ch
      simp [this]
  · have : ¬ OpOK vars o := fun h => h5 h.pre
    simp [h5, this]
open Classical in
theorem tGood (t : Task) : base_Good_p t = some (decide (GoodT t)) := by
  unfold base_Good_p
  by_cases h1 : 64 < (t.Vars.length : Int)
  · have : ¬ GoodT t := fun h => by have := h.nv; omega
    simp [h1, this]
  by_cases h2 : 4096 < (t.Ops.length : Int)
  · have : ¬ GoodT t := fun h => by have := h.no; omega
    simp [h1, h2, this]
  have hv : t.Vars.length ≤ 4096 := by omega
  simp only [h1, h2, decide_false, Bool.or_self, Bool.false_eq_true, if_false]
  rw [ctl_list (r := false) (fun n => 1 ≤ n ∧ n ≤ 64)]
  · by_cases h3 : ∀ n ∈ t.Vars, 1 ≤ n ∧ n ≤ 64
    · rw [if_pos h3, tState]
      by_cases h4 : StateOK t.Vars t.Init
      · by_cases h5 : FactsOK t.Vars t.Goal
        · simp only [h4, h5, decide_true, Bool.not_true, Bool.false_eq_true, if_false, Option.bind_some, tProper _ _ hv]
          rw [ctl_list (r := false) (fun o => OpOK t.Vars o)]
          · by_cases h6 : ∀ o ∈ t.Ops, OpOK t.Vars o
            · rw [if_pos h6]
              have : GoodT t := ⟨by omega, by omega, h3, h4, h5, h6⟩
              simp [this]
            · rw [if_neg h6]
              have : ¬ GoodT t := fun h => h6 h.op
              simp [this]
          · intro i o ho
            simp only [idx_nat, ho, Option.bind_some, tOp _ _ hv]
            by_cases h6 : OpOK t.Vars o <;> simp [h6]
        · have : ¬ GoodT t := fun h => h5 h.goal
          simp [h4, h5, this, tProper _ _ hv]
      · have : ¬ GoodT t := fun h => h4 h.init
        simp [h4, this]
    · rw [if_neg h3]
      have : ¬ GoodT t := fun h => h3 h.v
      simp [this]
  · intro i n hn
    simp only [idx_nat, hn, Option.bind_some]
    by_cases ha : n < 1
    · have : ¬ (1 ≤ n ∧ n ≤ 64) := by omega
      simp [ha, this]
    · by_cases hb : 64 < n
      · have : ¬ (1 ≤ n ∧ n ≤ 64) := by omega
        simp [ha, hb, this]
      · have : 1 ≤ n ∧ n ≤ 64 := by omega
        simp [ha, hb, this]
/-! ### the program's check -/
def condL (t : Task) : List (List Fact) := t.Goal :: t.Ops.flatMap fun o => o.Pre :: o.Effs.map fun e => e.When
theorem conditions_ok (t : Task) (ho : t.Ops.length ≤ 4096) (he : ∀ o ∈ t.Ops, o.Effs.length ≤ 64) : task_conditions_p t = some (condL t) := by
  unfold task_conditions_p
  rw [forS_list t.Ops (fun o => o.Pre :: o.Effs.map fun e => e.When) (s0 := [t.Goal])]
  · rfl
  · intro i o s hi hs
    have hm := List.mem_of_getElem? hi
    have hlt := (List.getElem?_eq_some_iff.1 hi).1
    have hsl : s.length ≤ 1 + 4096 * 65 := by
      rw [hs, List.length_append]
      have := flat_le (xs := t.Ops.take i) (g := fun o => o.Pre :: o.Effs.map fun e => e.When) (M := 65) (fun x hx => by
        have := he x (List.mem_of_mem_take hx)
        simp; omega)
      have h2 : (t.Ops.take i).length * 65 ≤ 4096 * 65 := Nat.mul_le_mul_right _ (by rw [List.length_take]; omega)
      simp only [List.length_singleton]; omega
    simp only [idx_nat, hi, Option.bind_some]
    rw [app_ok (by simp only [List.length_singleton]; omega)]
    simp only [Option.bind_some]
    rw [forS_list o.Effs (fun e => [e.When]) (s0 := s ++ [o.Pre])]
    · simp [flat_one]
    · intro j e u hj hu
      have hjl := (List.getElem?_eq_some_iff.1 hj).1
      have := he o hm
      simp only [idx_nat, hj, Option.bind_some]
      rw [app_ok]
      · rfl
      · rw [hu, flat_one]
        simp only [List.length_append, List.length_map, List.length_take, List.length_singleton]
        omega
open Classical in
theorem cont_ok (l : List (List Fact)) : api_Fact__f99_p l = some (!decide (∀ f ∈ l, f.length ≤ 64)) := by
  unfold api_Fact__f99_p
  have h1 : Ok (api_Fact__f99_110_p l) fun n => (0 ≤ n ↔ ¬ ∀ f ∈ l, f.length ≤ 64) := by
    unfold api_Fact__f99_110_p
    refine Ok.ctl (fun i _ => ∀ f ∈ l.take i, f.length ≤ 64) (fun n => 0 ≤ n ∧ ¬ ∀ f ∈ l, f.length ≤ 64) (by simp) ?_ ?_ ?_
    · rintro i _ hi h
      obtain ⟨x, hx⟩ := get_len hi
      have ht : task_large_c1_t x = decide (64 < (x.length : Int)) := by
        have := task_large_c1_tot x
        unfold task_large_c1_p at this
        exact (Zu this).symm
      simp only [idx_nat, hx, Option.bind_some, ht]
      by_cases hb : 64 < (x.length : Int)
      · simp only [hb, decide_true, if_true]
        exact Ok.ret ⟨by omega, fun h => by have := h x (List.mem_of_getElem? hx); omega⟩
      · simp only [hb, decide_false, Bool.false_eq_true, if_false]
        refine Ok.ret fun f hf => ?_
        rw [take_snoc hx] at hf
        rcases List.mem_append.1 hf with hf | hf
        · exact h f hf
        · simp only [List.mem_singleton] at hf; subst hf; omega
    · rintro r ⟨h1, h2⟩
      exact Ok.ret ⟨fun _ => h2, fun _ => h1⟩
    · intro _ h
      rw [List.take_length] at h
      exact Ok.ret ⟨fun h => by omega, fun h' => absurd h h'⟩
  obtain ⟨n, hn, h2⟩ := h1
  rw [hn]
  simp only [Option.bind_some, Option.some.injEq]
  by_cases h3 : ∀ f ∈ l, f.length ≤ 64
  · have : ¬ 0 ≤ n := fun h => h2.1 h h3
    simp only [this, h3, decide_false]; simp; exact h3
  · have : 0 ≤ n := h2.2 h3
    simp only [this, decide_true]; simp; simpa using h3
open Classical in
theorem large_ok' (t : Task) : Ok (task_large_p t) fun b => b = false ↔ t.Vars.length ≤ 64 ∧ t.Ops.length ≤ 4096 ∧ (∀ o ∈ t.Ops, o.Effs.length ≤ 64) ∧ ∀ f ∈ condL t, f.length ≤ 64 := by
  unfold task_large_p
  by_cases h1 : 64 < (t.Vars.length : Int)
  · simp only [h1, decide_true, Bool.true_or, if_true]
    exact Ok.ret ⟨fun h => (by cases h), fun h => by omega⟩
  by_cases h2 : 4096 < (t.Ops.length : Int)
  · simp only [h1, h2, decide_true, Bool.or_true, if_true]
    exact Ok.ret ⟨fun h => (by cases h), fun h => by omega⟩
  simp only [h1, h2, decide_false, Bool.or_self, Bool.false_eq_true, if_false]
  rw [ctl_list (r := true) (fun o => o.Effs.length ≤ 64)]
  · by_cases h3 : ∀ o ∈ t.Ops, o.Effs.length ≤ 64
    · rw [if_pos h3, conditions_ok t (by omega) h3]
      simp only [Option.bind_some, cont_ok]
      refine Ok.ret ⟨fun h => ⟨by omega, by omega, h3, by simpa using h⟩, fun h => by simpa using h.2.2.2⟩
    · rw [if_neg h3]
      exact Ok.ret ⟨fun h => (by cases h), fun h => absurd h.2.2.1 h3⟩
  · intro i o ho
    simp only [idx_nat, ho, Option.bind_some]
    by_cases h : 64 < (o.Effs.length : Int)
    · have : ¬ o.Effs.length ≤ 64 := by omega
      simp [h, this]
    · have : o.Effs.length ≤ 64 := by omega
      simp [h, this]
theorem condL_good {t : Task} (h : GoodT t) : ∀ f ∈ condL t, FactsOK t.Vars f := by
  intro f hf
  unfold condL at hf
  rcases List.mem_cons.1 hf with rfl | hf
  · exact h.goal
  · obtain ⟨o, ho, hf⟩ := List.mem_flatMap.1 hf
    rcases List.mem_cons.1 hf with rfl | hf
    · exact (h.op o ho).pre
    · obtain ⟨e, he, rfl⟩ := List.mem_map.1 hf
      exact ((h.op o ho).eff e he).1
open Classical in
theorem check_ok (t : Task) (hn : ∀ o ∈ t.Ops, o.Name.size ≤ 9223372036854775807) : Ok (task_Check_p t) fun e => e = none ↔ GoodT t := by
  unfold task_Check_p
  obtain ⟨b, hb, h0⟩ := large_ok' t
  rw [hb]
  simp only [Option.bind_some]
  cases b with
  | true =>
    simp only [if_true]
    refine Ok.ret ⟨fun h => (by cases h), fun h => ?_⟩
    have := h0.2 ⟨h.nv, h.no, fun o ho => (h.op o ho).ne, fun f hf => Nat.le_trans (condL_good h f hf).len h.nv⟩
    cases this
  | false =>
    obtain ⟨g1, g2, g3, g4⟩ := h0.1 rfl
    simp only [Bool.false_eq_true, if_false]
    rw [ctl_list (r := some 1) (fun n => 1 ≤ n ∧ n ≤ 64)]
    · by_cases h1 : ∀ n ∈ t.Vars, 1 ≤ n ∧ n ≤ 64
      · rw [if_pos h1, ctl_list (r := some 1) (fun o => 0 ≤ o.Cost ∧ o.Cost ≤ 1048576)]
        · by_cases h2 : ∀ o ∈ t.Ops, 0 ≤ o.Cost ∧ o.Cost ≤ 1048576
          · rw [if_pos h2, tProperS]
            by_cases h3 : StateOK t.Vars t.Init
            · simp only [h3, decide_true, Bool.not_true, Option.bind_some, Bool.false_eq_true, if_false, conditions_ok t g2 g3]
              rw [ctl_list (r := some 2) (fun f => FactsOK t.Vars f)]
              · by_cases h4 : ∀ f ∈ condL t, FactsOK t.Vars f
                · rw [if_pos h4, ctl_list (r := some 2) (fun o => ∀ e ∈ o.Effs, InR t.Vars ⟨e.Var, e.Val⟩)]
                  · by_cases h5 : ∀ o ∈ t.Ops, ∀ e ∈ o.Effs, InR t.Vars ⟨e.Var, e.Val⟩
                    · rw [if_pos h5, ctl_list (r := some 8) (fun o => o.Name.size ≤ 256 ∧ ∀ c ∈ bytesOf o.Name, 32 ≤ c ∧ c ≤ 126)]
                      · by_cases h6 : ∀ o ∈ t.Ops, o.Name.size ≤ 256 ∧ ∀ c ∈ bytesOf o.Name, 32 ≤ c ∧ c ≤ 126
                        · rw [if_pos h6]
                          refine Ok.ret ⟨fun _ => ⟨g1, g2, h1, h3, h4 _ (by simp [condL]), fun o ho => ⟨(h2 o ho).1, (h2 o ho).2, g3 o ho, (h6 o ho).1, (h6 o ho).2, h4 _ ?_, fun e he => ⟨h4 _ ?_, h5 o ho e he⟩⟩⟩, fun _ => rfl⟩
                          · unfold condL
                            exact List.mem_cons_of_mem _ (List.mem_flatMap.2 ⟨o, ho, by simp⟩)
                          · unfold condL
                            exact List.mem_cons_of_mem _ (List.mem_flatMap.2 ⟨o, ho, List.mem_cons_of_mem _ (List.mem_map.2 ⟨e, he, rfl⟩)⟩)
                        · rw [if_neg h6]
                          exact Ok.ret ⟨fun h => (by cases h), fun h => absurd (fun o ho => ⟨(h.op o ho).nm, (h.op o ho).ch⟩) h6⟩
                      · intro i o ho
                        have := hn o (List.mem_of_getElem? ho)
                        simp only [idx_nat, ho, Option.bind_some, tNamed _ this]
                        by_cases h : o.Name.size ≤ 256 ∧ ∀ c ∈ bytesOf o.Name, 32 ≤ c ∧ c ≤ 126
                        · rw [decide_eq_true h, if_pos h]; rfl
                        · rw [decide_eq_false h, if_neg h]; rfl
                    · rw [if_neg h5]
                      exact Ok.ret ⟨fun h => (by cases h), fun h => absurd (fun o ho e he => ((h.op o ho).eff e he).2) h5⟩
                  · intro i o ho
                    simp only [idx_nat, ho, Option.bind_some]
                    rw [ctl_list (r := some 2) (fun e => InR t.Vars ⟨e.Var, e.Val⟩)]
                    · by_cases h : ∀ e ∈ o.Effs, InR t.Vars ⟨e.Var, e.Val⟩
                      · rw [if_pos h, if_pos h]
                      · rw [if_neg h, if_neg h]
                    · intro j e he
                      have hone : FactsOK t.Vars [⟨e.Var, e.Val⟩] ↔ InR t.Vars ⟨e.Var, e.Val⟩ := ⟨fun h => h.r _ (by simp), fun h => ⟨by simpa using h, by simp⟩⟩
                      simp only [idx_nat, he, Option.bind_some, tFacts, hone]
                      by_cases h : InR t.Vars ⟨e.Var, e.Val⟩ <;> simp [h]
                · rw [if_neg h4]
                  exact Ok.ret ⟨fun h => (by cases h), fun h => absurd (condL_good h) h4⟩
              · intro i f hf
                simp only [idx_nat, hf, Option.bind_some, tFacts]
                by_cases h : FactsOK t.Vars f <;> simp [h]
            · simp only [h3, decide_false, Bool.not_false, Option.bind_some, if_true]
              exact Ok.ret ⟨fun h => (by cases h), fun h => absurd h.init h3⟩
          · rw [if_neg h2]
            exact Ok.ret ⟨fun h => (by cases h), fun h => absurd (fun o ho => ⟨(h.op o ho).c0, (h.op o ho).c1⟩) h2⟩
        · intro i o ho
          simp only [idx_nat, ho, Option.bind_some]
          by_cases ha : o.Cost < 0
          · have : ¬ (0 ≤ o.Cost ∧ o.Cost ≤ 1048576) := by omega
            simp [ha, this]
          · by_cases hb : 1048576 < o.Cost
            · have : ¬ (0 ≤ o.Cost ∧ o.Cost ≤ 1048576) := by omega
              simp [ha, hb, this]
            · have : 0 ≤ o.Cost ∧ o.Cost ≤ 1048576 := by omega
              simp [ha, hb, this]
      · rw [if_neg h1]
        exact Ok.ret ⟨fun h => (by cases h), fun h => absurd h.v h1⟩
    · intro i n hn
      simp only [idx_nat, hn, Option.bind_some]
      by_cases ha : n < 1
      · have : ¬ (1 ≤ n ∧ n ≤ 64) := by omega
        simp [ha, this]
      · by_cases hb : 64 < n
        · have : ¬ (1 ≤ n ∧ n ≤ 64) := by omega
          simp [ha, hb, this]
        · have : 1 ≤ n ∧ n ≤ 64 := by omega
          simp [ha, hb, this]
end Go.Pw
