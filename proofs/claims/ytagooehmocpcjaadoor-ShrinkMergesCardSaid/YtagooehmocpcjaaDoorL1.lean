/-
  My walk's base, part 1: frames as functions, the rules of the code's weakest precondition over them, regions in text order and regions that draw their order, loops.
-/
import Derived.WalkKit
import Derived.Test.YtagooehmocpcjaaDoorL0
namespace Go.Pw

abbrev Fr := Nat → Value

theorem beq_false_iff {m n : Nat} : Nat.beq m n = false ↔ m ≠ n := by
  cases h : Nat.beq m n with
  | true => simp [Nat.eq_of_beq_eq_true h]
  | false => simp; exact Nat.ne_of_beq_eq_false h

def upd (f : Fr) (n : Nat) (v : Value) : Fr := fun m => bif Nat.beq m n then v else f m
def updo (f : Fr) (d : Option Nat) (v : Value) : Fr := match d with | some n => upd f n v | none => f

theorem upd_same (f : Fr) (n : Nat) (v : Value) : upd f n v n = v := by simp [upd]
theorem upd_ne (f : Fr) {n m : Nat} (v : Value) (h : m ≠ n) : upd f n v m = f m := by
  have : Nat.beq m n = false := beq_false_iff.2 h
  simp [upd, this]

def ev (f : Fr) : Operand → Value
  | .tmp t => f t
  | .const v => v
  | .global g => .pointer (some ⟨g, 0, none⟩)
  | .func k => .func (.func k) #[] #[]

structure Fits (N : Nat) (a : Act) (f : Fr) : Prop where
  nodefer : a.defers = []
  size : a.tmps.size = N
  get : ∀ n, a.tmps.getD n undef = f n

theorem Fits.eval {N : Nat} {a : Act} {f : Fr} (h : Fits N a f) : a.eval = ev f := by
  funext x
  cases x with
  | tmp t => exact h.get t
  | _ => rfl

def dstLt (N : Nat) : Option Nat → Bool | some d => Nat.blt d N | none => true

theorem Fits.put {N : Nat} {a : Act} {f : Fr} (h : Fits N a f) {d : Option Nat} (hd : dstLt N d = true) (v : Value) : Fits N (a.put d v) (updo f d v) := by
  cases d with
  | none => exact h
  | some d =>
    have hlt : d < N := by simpa [dstLt, Nat.blt_eq] using hd
    refine ⟨h.nodefer, by simpa [Act.put] using h.size, fun n => ?_⟩
    by_cases e : n = d
    · subst e
      simp [Act.put, updo, upd, h.size, hlt]
    · have := h.get n
      simp only [updo, upd_ne _ _ e]
      rw [← this]
      simp [Act.put, Array.getElem?_setIfInBounds_ne (Ne.symm e)]

/-- What is asked behind a piece of code, over frames that are functions. -/
abbrev Post := Exit → Fr → World → Prop

def lift (N : Nat) (Q : Post) : Exit → Act → World → Prop := fun e a w => ∃ f, Fits N a f ∧ Q e f w

def W (P : Program) (N : Nat) (c : Code) (Q : Post) (f : Fr) (w : World) : Prop := ∀ a, Fits N a f → c.wp P (lift N Q) a w

/-- One operation: the value that it leaves, and the world. -/
def Exec (P : Program) (ρ : Operand → Value) (o : Oper) (w : World) (K : Value → World → Prop) : Prop :=
  match (execOp ρ o).run P w with
  | .ok (.value v) w' => K v w'
  | .ok .skip w' => K undef w'
  | .ok (.enter f args) w' => Calls P f args w' (fun e w'' => ∃ v, e = .returned v ∧ K v w'')
  | _ => False

theorem Exec.mono {P : Program} {ρ : Operand → Value} {o : Oper} {w : World} {K K' : Value → World → Prop} (h : Exec P ρ o w K) (hk : ∀ v w', K v w' → K' v w') : Exec P ρ o w K' := by
  unfold Exec at *
  split at h <;> first
    | exact hk _ _ h
    | exact h.mono fun e w'' ⟨v, he, hv⟩ => ⟨v, he, hk _ _ hv⟩
    | exact h.elim

theorem Exec.of_run {P : Program} {ρ : Operand → Value} {o : Oper} {w w' : World} {K : Value → World → Prop} {v : Value} (h : (execOp ρ o).run P w = .ok (.value v) w') (hk : K v w') : Exec P ρ o w K := by
  unfold Exec; rw [h]; exact hk
theorem Exec.of_skip {P : Program} {ρ : Operand → Value} {o : Oper} {w w' : World} {K : Value → World → Prop} (h : (execOp ρ o).run P w = .ok .skip w') (hk : K undef w') : Exec P ρ o w K := by
  unfold Exec; rw [h]; exact hk

theorem wp_of_exec {P : Program} {o : Oper} {a : Act} {w : World} {K : Act → World → Prop} {Q : Exit → Act → World → Prop} (h : Exec P a.eval o w fun v w' => K (a.put o.dst v) w') : o.wp P a w K Q := by
  unfold Exec at h
  unfold Oper.wp
  generalize (execOp a.eval o).run P w = r at *
  split at h
  · exact h
  · exact h
  · exact h.mono fun e w'' ⟨v, he, hv⟩ => by subst he; exact hv
  · exact h.elim

/-- What operation j of the region has yielded. -/
def yieldedF (ops : Array Oper) (f : Fr) (j : Nat) : Option Bool :=
  match (ops[j]?).bind (·.dst) with
  | some d => (match f d with | .bool b => some b | _ => none)
  | none => none

theorem yieldedF_eq {N : Nat} {a : Act} {f : Fr} (h : Fits N a f) (ops : Array Oper) : yielded ops a.tmps = yieldedF ops f := by
  funext j
  unfold yielded yieldedF
  cases hd : (ops[j]?).bind (·.dst) with
  | none => rfl
  | some d =>
    simp only [Option.bind_some]
    have hg := h.get d
    rcases Nat.lt_or_ge d a.tmps.size with hlt | hge
    · simp [hlt] at hg
      simp [hlt, hg]
      split <;> simp_all
    · simp [Array.getElem?_eq_none hge] at hg ⊢
      rw [← hg]; rfl

/-- The operations of a region in the text's order. -/
def WL (P : Program) (N : Nat) (ops : Array Oper) (Q : Post) (l : List Oper) (f : Fr) (w : World) : Prop := ∀ a, Fits N a f → wpList P ops (lift N Q) l a w

section
variable {P : Program} {N : Nat} {ops : Array Oper} {Q : Post} {f : Fr} {w : World} {o : Oper} {rest : List Oper}

theorem WL_nil (h : Q .normal f w) : WL P N ops Q [] f w := fun _ hf => wpList_nil ⟨f, hf, h⟩

theorem WL_step (hg : o.guard = none) (hd : dstLt N o.dst = true) (h : Exec P (ev f) o w fun v w' => WL P N ops Q rest (updo f o.dst v) w') : WL P N ops Q (o :: rest) f w := by
  intro a hf
  refine wpList_plain hg fun K hK => wp_of_exec ?_
  rw [hf.eval]
  exact h.mono fun v w' hv => hK _ _ (hv _ (hf.put hd v))

theorem WL_run {j : Nat} {b : Bool} (hg : o.guard = some (j, b)) (hy : yieldedF ops f j = some b) (hd : dstLt N o.dst = true)
    (h : Exec P (ev f) o w fun v w' => WL P N ops Q rest (updo f o.dst v) w') : WL P N ops Q (o :: rest) f w := by
  intro a hf
  refine wpList_step fun K hK => ?_
  have hw : Region.wanted o (yielded ops a.tmps) = true := by simp [Region.wanted, hg, yieldedF_eq hf, hy]
  rw [if_pos hw]
  refine wp_of_exec ?_
  rw [hf.eval]
  exact h.mono fun v w' hv => hK _ _ (hv _ (hf.put hd v))

theorem WL_pass {j : Nat} {b c : Bool} (hg : o.guard = some (j, b)) (hy : yieldedF ops f j = some c) (hbc : (c == b) = false) (hd : dstLt N o.dst = true)
    (h : WL P N ops Q rest (updo f o.dst undef) w) : WL P N ops Q (o :: rest) f w := by
  intro a hf
  refine wpList_step fun K hK => ?_
  have hw : ¬ (Region.wanted o (yielded ops a.tmps) = true) := by
    simp only [Region.wanted, hg, yieldedF_eq hf, hy]
    cases b <;> cases c <;> simp at *
  rw [if_neg hw]
  exact hK _ _ (h _ (hf.put hd undef))

theorem WL_pass_none {j : Nat} {b : Bool} (hg : o.guard = some (j, b)) (hy : yieldedF ops f j = none) (hd : dstLt N o.dst = true)
    (h : WL P N ops Q rest (updo f o.dst undef) w) : WL P N ops Q (o :: rest) f w := by
  intro a hf
  refine wpList_step fun K hK => ?_
  have hw : ¬ (Region.wanted o (yielded ops a.tmps) = true) := by
    simp [Region.wanted, hg, yieldedF_eq hf, hy]
  rw [if_neg hw]
  exact hK _ _ (h _ (hf.put hd undef))
end

section
variable {P : Program} {N : Nat} {Q : Post} {f : Fr} {w : World}

theorem W_mono {c : Code} {Q' : Post} (h : W P N c Q f w) (hq : ∀ e f w, Q e f w → Q' e f w) : W P N c Q' f w :=
  fun a ha => wp_mono (h a ha) fun _ _ _ ⟨g, hg, hQ⟩ => ⟨g, hg, hq _ _ _ hQ⟩

theorem W_region {id : Nat} {l : List Oper} (h : WL P N l.toArray Q l f w) : W P N (.region id l.toArray false) Q f w :=
  fun a ha => wp_region_lit (h a ha)

def andThen (K : Fr → World → Prop) (Q : Post) : Post
  | .normal, f, w => K f w
  | e, f, w => Q e f w

theorem W_seq {x y : Code} (h : W P N x (andThen (W P N y Q) Q) f w) : W P N (.seq x y) Q f w := by
  intro a ha
  refine wp_seq (wp_mono (h a ha) ?_)
  rintro e a' w' ⟨g, hg, hQ⟩
  cases e <;> first | exact hQ _ hg | exact ⟨g, hg, hQ⟩

theorem W_skip (h : Q .normal f w) : W P N .skip Q f w := fun _ ha => wp_skip ⟨f, ha, h⟩
theorem W_ret (h : Q .ret f w) : W P N .ret Q f w := fun _ ha => wp_ret ⟨f, ha, h⟩
theorem W_exit {id : Nat} (h : Q (.exit id) f w) : W P N (.exit id) Q f w := fun _ ha => wp_exit ⟨f, ha, h⟩
theorem W_true {c : Operand} {x y : Code} (hc : ev f c = .bool true) (h : W P N x Q f w) : W P N (.cond c x y) Q f w :=
  fun a ha => wp_cond_true (by rw [ha.eval]; exact hc) (h a ha)
theorem W_false {c : Operand} {x y : Code} (hc : ev f c = .bool false) (h : W P N y Q f w) : W P N (.cond c x y) Q f w :=
  fun a ha => wp_cond_false (by rw [ha.eval]; exact hc) (h a ha)

def inBlk (id : Nat) (Q : Post) : Post
  | .exit id', f, w => bif Nat.beq id' id then Q .normal f w else Q (.exit id') f w
  | e, f, w => Q e f w

theorem W_block {id : Nat} {c : Code} (h : W P N c (inBlk id Q) f w) : W P N (.block id c) Q f w := by
  intro a ha
  refine wp_block (wp_mono (h a ha) ?_)
  rintro e a' w' ⟨g, hg, hQ⟩
  cases e with
  | exit id' =>
    simp only [inBlk] at hQ
    simp only [Exit.inBlock]
    by_cases e : id' = id
    · subst e
      simp at hQ ⊢
      exact ⟨g, hg, hQ⟩
    · have : Nat.beq id' id = false := beq_false_iff.2 e
      simp [this] at hQ
      rw [if_neg e]
      exact ⟨g, hg, hQ⟩
  | _ => exact ⟨g, hg, hQ⟩

/-- A loop, by a ghost number that every round lowers. -/
theorem W_loop {c : Code} (J : Nat → Fr → World → Prop) (h0 : ∃ k, J k f w)
    (round : ∀ k f w, J k f w → W P N c (andThen (fun f' w' => ∃ k', k' < k ∧ J k' f' w') Q) f w) : W P N (.loop c) Q f w := by
  intro a ha
  classical
  let I : Act → World → Prop := fun a w => ∃ k f, Fits N a f ∧ J k f w
  have hdec : ∀ a w, I a w → ∃ k, (∃ f, Fits N a f ∧ J k f w) ∧ ∀ j, (∃ f, Fits N a f ∧ J j f w) → k ≤ j := by
    intro a w ⟨k, hk⟩
    induction k using Nat.strongRecOn with
    | _ k ih =>
      by_cases hm : ∃ j, j < k ∧ ∃ f, Fits N a f ∧ J j f w
      · obtain ⟨j, hj, hf⟩ := hm
        exact ih j hj hf
      · exact ⟨k, hk, fun j hj => Nat.le_of_not_lt fun hlt => hm ⟨j, hlt, hj⟩⟩
  let μ : Act → World → Nat := fun a w => if h : I a w then (hdec a w h).choose else 0
  obtain ⟨k0, hk0⟩ := h0
  refine wp_loop I μ ⟨k0, f, ha, hk0⟩ ?_
  intro a' w' hI
  have hspec := (hdec a' w' hI).choose_spec
  have hμ : μ a' w' = (hdec a' w' hI).choose := by simp [μ, hI]
  obtain ⟨⟨g, hg, hJ⟩, hmin⟩ := hspec
  refine wp_mono (round _ g w' hJ a' hg) ?_
  rintro e a'' w'' ⟨g', hg', hQ⟩
  cases e with
  | normal =>
    obtain ⟨k', hlt, hJ'⟩ := hQ
    have hI' : I a'' w'' := ⟨k', g', hg', hJ'⟩
    refine ⟨hI', ?_⟩
    have hμ' : μ a'' w'' = (hdec a'' w'' hI').choose := by simp [μ, hI']
    rw [hμ, hμ']
    exact Nat.lt_of_le_of_lt ((hdec a'' w'' hI').choose_spec.2 k' ⟨g', hg', hJ'⟩) hlt
  | _ => exact ⟨g', hg', hQ⟩

/-! ### A function's entry and return -/

def entry (args : Array Value) : Fr := fun n => args.getD n undef

/-- The results, read off the frame (and, where one lies in a cell, off the world). -/
def resRead (P : Program) (fn : Func) (f : Fr) (w : World) (v : Value) : Prop := ∀ a, Fits fn.ntmps a f → (results fn a.tmps).run P w = .ok v w

def fnPost (P : Program) (fn : Func) (R : Value → World → Prop) : Post
  | .normal, f, w | .ret, f, w => ∃ v, resRead P fn f w v ∧ R v w
  | _, _, _ => False

theorem calls_of_W {k : FuncId} {fn : Func} {c : Code} {args : Array Value} {R : Value → World → Prop} (hf : P.funcs[k]? = some fn) (hb : fn.body = some c)
    (hn : Nat.ble args.size fn.ntmps = true) (h : W P fn.ntmps c (fnPost P fn R) (entry args) w) : Calls P k args w fun e w' => ∃ v, e = .returned v ∧ R v w' := by
  have hsz : args.size ≤ fn.ntmps := by simpa [Nat.ble_eq] using hn
  refine calls_of_wp hf hb ?_
  have hfit : Fits fn.ntmps { tmps := args ++ Array.replicate (fn.ntmps - args.size) undef, defers := [] } (entry args) := by
    refine ⟨rfl, by simp; omega, fun n => ?_⟩
    unfold entry
    rcases Nat.lt_or_ge n args.size with h1 | h1
    · simp [h1, Array.getElem?_append]
    · simp only [Array.getD_eq_getD_getElem?, Array.getElem?_append, Nat.not_lt.2 h1, if_false, Array.getElem?_eq_none h1, Option.getD_none]
      rcases Nat.lt_or_ge (n - args.size) (fn.ntmps - args.size) with h2 | h2
      · simp [h2]
      · simp [h2]
  refine wp_mono (h _ hfit) ?_
  rintro e a w' ⟨g, hg, hQ⟩
  cases e with
  | normal => obtain ⟨v, hr, hR⟩ := hQ; exact ⟨hg.nodefer, v, hr a hg, v, rfl, hR⟩
  | ret => obtain ⟨v, hr, hR⟩ := hQ; exact ⟨hg.nodefer, v, hr a hg, v, rfl, hR⟩
  | exit id => exact hQ.elim
  | goto l => exact hQ.elim
  | panic ch => exact hQ.elim
  | outgrown => exact hQ.elim

theorem ret1 {fn : Func} {t : Nat} (h : fn.results = #[.tmp t]) : resRead P fn f w (f t) := by
  intro a ha; rw [results_tmp h]; rw [ha.get]
theorem ret2 {fn : Func} {t u : Nat} (h : fn.results = #[.tmp t, .tmp u]) : resRead P fn f w (.tuple #[f t, f u]) := by
  intro a ha; rw [results_tmp2 h]; rw [ha.get, ha.get]
theorem ret3 {fn : Func} {t u s : Nat} (h : fn.results = #[.tmp t, .tmp u, .tmp s]) : resRead P fn f w (.tuple #[f t, f u, f s]) := by
  intro a ha; rw [results_tmp3 h]; rw [ha.get, ha.get, ha.get]
end

theorem countP_set {p q : Nat → Bool} {i : Nat} (hp : p i = true) (hq : q i = false) (hpq : ∀ j, j ≠ i → p j = q j) : ∀ n, i < n → (List.range n).countP p = (List.range n).countP q + 1 := by
  have same : ∀ n, n ≤ i → (List.range n).countP p = (List.range n).countP q := by
    intro n
    induction n with
    | zero => intro _; rfl
    | succ n ih =>
      intro h
      rw [List.range_succ, List.countP_append, List.countP_append, ih (by omega)]
      simp [hpq n (by omega)]
  intro n
  induction n with
  | zero => intro h; omega
  | succ n ih =>
    intro h
    rw [List.range_succ, List.countP_append, List.countP_append]
    by_cases e : n = i
    · subst e
      rw [same n (Nat.le_refl _)]
      simp [hp, hq]
    · rw [ih (by omega)]
      simp only [List.countP_cons, List.countP_nil]
      rw [hpq n e]
      omega

/-! ### A region that draws its order: the head (the first n0 operations) in any order, the tail (each waits for all ahead of it) in the text's. -/

section
variable {P : Program} {N : Nat} {Q : Post}

def waitsAll (ops : List Oper) (t : Nat) : Bool :=
  match ops[t]? with
  | some o => (List.range t).all fun j => o.after.any fun e => Region.binds .any e && Nat.beq e.on j
  | none => true

def waitsOn (ops : List Oper) (t j : Nat) : Bool :=
  match ops[t]? with
  | some o => o.after.any fun e => Region.binds .any e && Nat.beq e.on j
  | none => true

/-- The head's operations bear distinct temporaries; the tail's wait for all ahead of them; every edge points back. -/
def drawOK (N n0 : Nat) (ops : List Oper) : Bool :=
  (Nat.ble n0 ops.length) && ((List.range ops.length).all fun t => Nat.blt t n0 || waitsAll ops t || (Nat.blt n0 t && waitsOn ops t (t - 1))) &&
  (ops.take n0).all (fun o => (match o.dst with | some d => Nat.blt d N | none => false)) &&
  (ops.drop n0).all (fun o => dstLt N o.dst) &&
  decide (((ops.take n0).map (·.dst)).Nodup) &&
  ((List.range ops.length).all fun t => match ops[t]? with | some o => o.after.all fun e => !(Region.binds .any e) || Nat.blt e.on t | none => true)

def dstAt (ops : List Oper) (i : Nat) : Nat := ((ops[i]?).bind (·.dst)).getD 0

/-- One operation of the head: run, or passed over by its guard; in any state in which what it waits for has been done. -/
def HeadOp (P : Program) (ops : List Oper) (f : Fr) (S : Type) (le : S → S → Prop) (I : S → World → Prop) (R : Nat → S → Value → Prop) (s0 : S) (i : Nat) (o : Oper) : Prop :=
  ∀ (g : Fr) (s : S) (w : World), le s0 s → I s w → (∀ n, (∀ o ∈ ops, o.dst ≠ some n) → g n = f n) →
    (∀ e ∈ o.after, Region.binds .any e = true → R e.on s (g (dstAt ops e.on))) →
    (if Region.wanted o (yieldedF ops.toArray g) then Exec P (ev g) o w fun v w' => ∃ s', le s s' ∧ I s' w' ∧ R i s' v else le s s ∧ R i s undef)

theorem W_draw {id n0 : Nat} {ops : List Oper} {f : Fr} {w : World} (hm : P.follows .mixedOrders = true) (hok : drawOK N n0 ops = true)
    (S : Type) (le : S → S → Prop) (trans : ∀ s t u, le s t → le t u → le s u)
    (I : S → World → Prop) (R : Nat → S → Value → Prop) (s0 : S) (refl : le s0 s0) (hI : I s0 w.drew)
    (mono : ∀ i s t v, le s t → R i s v → R i t v)
    (head : ∀ i o, i < n0 → ops[i]? = some o → HeadOp P ops f S le I R s0 i o)
    (tail : ∀ (g : Fr) (s : S) (w : World), le s0 s → I s w → (∀ n, (∀ o ∈ ops, o.dst ≠ some n) → g n = f n) → (∀ i, i < n0 → R i s (g (dstAt ops i))) → WL P N ops.toArray Q (ops.drop n0) g w) :
    W P N (.region id ops.toArray true) Q f w := by
  simp only [drawOK, Bool.and_eq_true, decide_eq_true_eq, List.all_eq_true, Bool.or_eq_true] at hok
  obtain ⟨⟨⟨⟨⟨hn0, hwait⟩, hdst⟩, _⟩, hnodup⟩, hback⟩ := hok
  have hn0' : n0 ≤ ops.length := by simpa [Nat.ble_eq] using hn0
  have hdsti : ∀ (i : Nat) (o : Oper), i < n0 → ops[i]? = some o → ∃ d, o.dst = some d ∧ d < N ∧ dstAt ops i = d := by
    intro i o hi ho
    have hmem : o ∈ ops.take n0 := List.mem_of_getElem? (i := i) (by rw [List.getElem?_take, if_pos hi]; exact ho)
    have := hdst o hmem
    cases hd : o.dst with
    | none => simp [hd] at this
    | some d => exact ⟨d, rfl, by simpa [hd, Nat.blt_eq] using this, by simp [dstAt, ho, hd]⟩
  have hinj : ∀ (i j : Nat) (oi oj : Oper) (d : Nat), i < n0 → j < n0 → ops[i]? = some oi → ops[j]? = some oj → oi.dst = some d → oj.dst = some d → i = j := by
    intro i j oi oj d hi hj hoi hoj hdi hdj
    have hl : ((ops.take n0).map (·.dst)).length = n0 := by simp; omega
    have e1 : ((ops.take n0).map (·.dst))[i]? = some (some d) := by simp [hi, hoi, hdi]
    have e2 : ((ops.take n0).map (·.dst))[j]? = some (some d) := by simp [hj, hoj, hdj]
    exact (List.getElem?_inj (by omega) hnodup).1 (e1.trans e2.symm)
  have hb : ∀ (i : Nat) (o : Oper) (e : Edge), ops[i]? = some o → e ∈ o.after → Region.binds .any e = true → e.on < i := by
    intro i o e ho he hbi
    have hi : i < ops.length := (List.getElem?_eq_some_iff.1 ho).1
    have := hback i (by simpa using hi)
    simp only [ho] at this
    have := Array.all_eq_true'.1 this e he
    simpa [Nat.blt_eq, hbi] using this
  have both : ∀ (listed : Array Bool) (i : Nat), listed.size = ops.length → i < ops.length → listed.getD i true = listed.getD i false := by
    intro listed i hl hi
    have : i < listed.size := by omega
    simp [this]
  -- who may come up in the tail
  have tailrun : ∀ (l : List Oper) (k : Nat) (listed : Array Bool) (a : Act) (w : World), ops.drop k = l → n0 ≤ k → listed.size = ops.length →
      (∀ i, i < k → listed.getD i false = true) → (∀ i, k ≤ i → i < ops.length → listed.getD i false = false) → wpList P ops.toArray (lift N Q) l a w → wpAny P .any ops.toArray (lift N Q) l.length listed a w := by
    intro l
    induction l with
    | nil =>
      intro k listed a w hl hk hls hdone hnot h
      have hkl : ops.length ≤ k := by simpa [List.drop_eq_nil_iff] using hl
      refine ⟨?_, h⟩
      rw [List.eq_nil_iff_forall_not_mem]
      intro i hi
      obtain ⟨hun, oi, hoi, _⟩ := mem_ready.1 hi
      have hilt : i < ops.length := by have := (Array.getElem?_eq_some_iff.1 hoi).1; simpa using this
      rw [both listed i hls hilt, hdone i (by omega)] at hun
      cases hun
    | cons o l ih =>
      intro k listed a w hl hk hls hdone hnot h
      have hkl : k < ops.length := by
        rcases Nat.lt_or_ge k ops.length with h | h
        · exact h
        · rw [List.drop_eq_nil_of_le h] at hl; cases hl
      have hok : ops[k]? = some o := by
        have := congrArg List.head? hl
        simpa [List.head?_drop] using this
      have hl' : ops.drop (k + 1) = l := by
        have := congrArg List.tail hl
        simpa [List.tail_drop] using this
      have hready : ∀ i, i ∈ Region.ready .any ops.toArray listed → i = k := by
        intro i hi
        obtain ⟨hun, oi, hoi, hall⟩ := mem_ready.1 hi
        have hilt : i < ops.length := by have := (Array.getElem?_eq_some_iff.1 hoi).1; simpa using this
        rcases Nat.lt_trichotomy i k with hlt | heq | hgt
        · rw [both listed i hls hilt, hdone i hlt] at hun; cases hun
        · exact heq
        · rcases hwait i (by simpa using hilt) with (hw | hw) | ⟨_, hw⟩
          rotate_right
          · have hoi' : ops[i]? = some oi := by simpa using hoi
            simp only [waitsOn, hoi'] at hw
            obtain ⟨e, he, hbb⟩ := Array.any_eq_true'.1 hw
            simp only [Bool.and_eq_true] at hbb
            have hon : e.on = i - 1 := Nat.eq_of_beq_eq_true hbb.2
            have h2 := hall e he hbb.1
            rw [hon, hnot (i - 1) (by omega) (by omega)] at h2
            cases h2
          · simp [Nat.blt_eq] at hw; omega
          · have hoi' : ops[i]? = some oi := by simpa using hoi
            simp only [waitsAll, hoi', List.all_eq_true, List.mem_range] at hw
            obtain ⟨e, he, hbb⟩ := Array.any_eq_true'.1 (hw k hgt)
            simp only [Bool.and_eq_true] at hbb
            have hon : e.on = k := Nat.eq_of_beq_eq_true hbb.2
            have h2 := hall e he hbb.1
            rw [hon, hnot k (Nat.le_refl _) hkl] at h2
            cases h2
      have hkready : k ∈ Region.ready .any ops.toArray listed :=
        mem_ready.2 ⟨by rw [both listed k hls hkl]; exact hnot k (Nat.le_refl _) hkl, o, by simpa using hok, fun e he q => hdone e.on (hb k o e hok he q)⟩
      refine ⟨fun h0 => (by rw [h0] at hkready; cases hkready), fun i hi => ?_⟩
      have hik := hready i hi
      subst hik
      have hnext : ∀ a w, wpList P ops.toArray (lift N Q) l a w → wpAny P .any ops.toArray (lift N Q) l.length (listed.setIfInBounds i true) a w := fun a w hh =>
        ih (i + 1) _ a w hl' (by omega) (by simpa using hls)
          (fun j hj => by
            by_cases e : j = i
            · subst e; simp [hls, hkl]
            · rw [getD_set_ne false (Ne.symm e)]; exact hdone j (by omega))
          (fun j hj hj' => by rw [getD_set_ne false (by omega)]; exact hnot j (by omega) hj') hh
      unfold wpOp
      have : ops.toArray[i]? = some o := by simpa using hok
      simp only [this]
      simp only [wpList] at h
      split
      · rename_i hw
        rw [if_pos hw] at h
        exact h.imp (Oper.wp_mono hnext) (fun h => h)
      · rename_i hw
        rw [if_neg hw] at h
        exact hnext _ _ h
  -- the head
  have headrun : ∀ (c : Nat) (listed : Array Bool) (a : Act) (w : World), (List.range n0).countP (fun i => !listed.getD i false) = c →
      (∃ (g : Fr) (s : S), Fits N a g ∧ le s0 s ∧ I s w ∧ (∀ n, (∀ o ∈ ops, o.dst ≠ some n) → g n = f n) ∧ listed.size = ops.length ∧
        (∀ i, n0 ≤ i → i < ops.length → listed.getD i false = false) ∧ (∀ i, i < n0 → listed.getD i false = true → R i s (g (dstAt ops i)))) →
      wpAny P .any ops.toArray (lift N Q) (c + (ops.drop n0).length) listed a w := by
    intro c
    induction c with
    | zero =>
      intro listed a w hc ⟨g, s, hg, hle, hIw, hframe, hls, hnot, hR⟩
      rw [Nat.zero_add]
      have hdone : ∀ i, i < n0 → listed.getD i false = true := by
        intro i hi
        have := List.countP_eq_zero.1 hc i (by simpa using hi)
        cases h : listed.getD i false with
        | true => rfl
        | false => rw [h] at this; simp at this
      exact tailrun (ops.drop n0) n0 listed a w rfl (Nat.le_refl _) hls hdone hnot (tail g s w hle hIw hframe (fun i hi => hR i hi (hdone i hi)) a hg)
    | succ c ih =>
      intro listed a w hc ⟨g, s, hg, hle, hIw, hframe, hls, hnot, hR⟩
      rw [Nat.add_right_comm]
      -- the least head operation that has not been done
      have hex : ∃ i, i < n0 ∧ listed.getD i false = false ∧ ∀ j, j < i → listed.getD j false = true := by
        have h1 : ∃ i, i < n0 ∧ listed.getD i false = false := by
          have : 0 < (List.range n0).countP (fun i => !listed.getD i false) := by omega
          obtain ⟨i, hi, hp⟩ := List.countP_pos_iff.1 this
          exact ⟨i, by simpa using hi, by simpa using hp⟩
        obtain ⟨i, hi, hu⟩ := h1
        induction i using Nat.strongRecOn with
        | _ i ihi =>
          by_cases hm : ∃ j, j < i ∧ listed.getD j false = false
          · obtain ⟨j, hj, hju⟩ := hm
            exact ihi j hj (by omega) hju
          · refine ⟨i, hi, hu, fun j hj => ?_⟩
            cases h : listed.getD j false with
            | true => rfl
            | false => exact absurd ⟨j, hj, h⟩ hm
      obtain ⟨k, hk, hku, hkleast⟩ := hex
      have hkl : k < ops.length := by omega
      have hready : ∀ i, i ∈ Region.ready .any ops.toArray listed → i < n0 := by
        intro i hi
        obtain ⟨hun, oi, hoi, hall⟩ := mem_ready.1 hi
        have hilt : i < ops.length := by have := (Array.getElem?_eq_some_iff.1 hoi).1; simpa using this
        rcases hwait i (by simpa using hilt) with (hw | hw) | ⟨hw0, hw⟩
        rotate_right
        · have hn0i : n0 < i := by simpa [Nat.blt_eq] using hw0
          have hoi' : ops[i]? = some oi := by simpa using hoi
          simp only [waitsOn, hoi'] at hw
          obtain ⟨e, he, hbb⟩ := Array.any_eq_true'.1 hw
          simp only [Bool.and_eq_true] at hbb
          have hon : e.on = i - 1 := Nat.eq_of_beq_eq_true hbb.2
          have h2 := hall e he hbb.1
          rw [hon, hnot (i - 1) (by omega) (by omega)] at h2
          cases h2
        · simpa [Nat.blt_eq] using hw
        · rcases Nat.lt_or_ge i n0 with h | h
          · exact h
          · have hoi' : ops[i]? = some oi := by simpa using hoi
            simp only [waitsAll, hoi', List.all_eq_true, List.mem_range] at hw
            obtain ⟨e, he, hbb⟩ := Array.any_eq_true'.1 (hw k (by omega))
            simp only [Bool.and_eq_true] at hbb
            have hon : e.on = k := Nat.eq_of_beq_eq_true hbb.2
            have h2 := hall e he hbb.1
            rw [hon, hku] at h2
            cases h2
      obtain ⟨ok, hok⟩ : ∃ o, ops[k]? = some o := ⟨ops[k], by simp [hkl]⟩
      have hkready : k ∈ Region.ready .any ops.toArray listed :=
        mem_ready.2 ⟨by rw [both listed k hls hkl]; exact hku, ok, by simpa using hok, fun e he q => hkleast e.on (hb k ok e hok he q)⟩
      refine ⟨fun h0 => (by rw [h0] at hkready; cases hkready), fun i hi => ?_⟩
      have hin := hready i hi
      obtain ⟨hun, o, hoi, hall⟩ := mem_ready.1 hi
      have ho : ops[i]? = some o := by simpa using hoi
      have hilt : i < ops.length := by omega
      rw [both listed i hls hilt] at hun
      obtain ⟨d, hd, hdN, hdat⟩ := hdsti i o hin ho
      have hnext : ∀ (v : Value) (w' : World) (s' : S), le s s' → I s' w' → R i s' v →
          wpAny P .any ops.toArray (lift N Q) (c + (ops.drop n0).length) (listed.setIfInBounds i true) (a.put o.dst v) w' := by
        intro v w' s' hss hIw' hRv
        refine ih _ _ _ ?_ ⟨updo g o.dst v, s', hg.put (by rw [hd]; simpa [dstLt, Nat.blt_eq] using hdN) v, trans _ _ _ hle hss, hIw', ?_, by simpa using hls, ?_, ?_⟩
        · have := countP_set (p := fun j => !listed.getD j false) (q := fun j => !(listed.setIfInBounds i true).getD j false) (i := i) (by show (!listed.getD i false) = true; rw [hun]; rfl)
            (by simp [hls, hilt]) (fun j hj => by show (!listed.getD j false) = _; rw [getD_set_ne false (Ne.symm hj)]) n0 hin
          omega
        · intro n hn
          rw [hd]
          have hne : n ≠ d := fun e => hn o (List.mem_of_getElem? ho) (by rw [hd, e])
          simp only [updo, upd_ne _ _ hne]
          exact hframe n hn
        · intro j hj hj'
          rw [getD_set_ne false (by omega)]
          exact hnot j hj hj'
        · intro j hj hjl
          rw [hd]
          simp only [updo]
          by_cases e : j = i
          · subst e
            rw [hdat, upd_same]
            exact hRv
          · rw [getD_set_ne false (Ne.symm e)] at hjl
            obtain ⟨oj, hoj⟩ : ∃ o, ops[j]? = some o := ⟨ops[j]'(by omega), by simp [show j < ops.length by omega]⟩
            obtain ⟨dj, hdj, _, hdatj⟩ := hdsti j oj hj hoj
            have hne : dj ≠ d := fun e' => e (hinj j i oj o d hj hin hoj ho (by rw [hdj, e']) hd)
            rw [hdatj, upd_ne _ _ hne]
            have := hR j hj hjl
            rw [hdatj] at this
            exact mono _ _ _ _ hss this
      have hop := head i o hin ho g s w hle hIw hframe (fun e he hbe => by
        have h2 := hall e he hbe
        exact hR e.on (by have := hb i o e ho he hbe; omega) h2)
      unfold wpOp
      simp only [hoi]
      rw [← yieldedF_eq hg] at hop
      split
      · rename_i hw
        rw [if_pos hw] at hop
        refine .inl (wp_of_exec ?_)
        rw [hg.eval]
        exact hop.mono fun v w' ⟨s', hss, hIw', hRv⟩ => hnext v w' s' hss hIw' hRv
      · rename_i hw
        rw [if_neg hw] at hop
        exact hnext undef w s (hop.1) hIw hop.2
  intro a ha
  refine wp_region_any hm ?_
  have hcount : (List.range n0).countP (fun i => !(Array.replicate ops.toArray.size false).getD i false) = n0 := by
    rw [List.countP_eq_length.2]
    · simp
    · intro i hi
      have hi' : i < n0 := by simpa using hi
      simp [show i < ops.length by omega]
  have := headrun n0 (Array.replicate ops.toArray.size false) a w.drew hcount ⟨f, s0, ha, refl, hI, fun _ _ => rfl, by simp, fun i _ hi => by simp [hi], fun i hi h => by simp [show i < ops.length by omega] at h⟩
  have hlen : n0 + (ops.drop n0).length = ops.toArray.size := by simp; omega
  rw [hlen] at this
  exact this
end
end Go.Pw
