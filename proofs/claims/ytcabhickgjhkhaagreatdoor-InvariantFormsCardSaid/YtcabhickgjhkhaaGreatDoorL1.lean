/-
  My walk's base, part 1: frames as functions, the rules of the code's weakest precondition over them, regions in text order and regions that draw their order, loops.
-/
import Derived.WalkKit
import Derived.Test.YtcabhickgjhkhaaGreatDoorL0
namespace Go.Pw
abbrev Fr := Nat → Value
theorem beq_false_iff {m n : Nat} : Nat.beq m n = false ↔ m ≠ n := by
  cases h : Nat.beq m n with
  | true => simp [Nat.eq_of_beq_eq_true h]
  | false => simp; exact Nat.ne_of_beq_eq_false h
def upd (f : Fr) (n : Nat) (v : Value) : Fr := fun m => bif Nat.beq m n then v else f m
def updo (f : Fr) (d : Option Nat) (v : Value) : Fr := match d with | some n => upd f n v | none => f
theorem upd_same (f : Fr) (n : Nat) (v : Value) : upd f n v n = v := by simp [upd]
theorem upd_ne (f : Fr) {n m : Nat} (v : Value) (h : m ≠ n) : upd f n v m = f m := by
  have : Nat.beq m n = false := beq_false_iff.2 h
  simp [upd, this]
def ev (f : Fr) : Operand → Value
  | .tmp t => f t
  | .const v => v
  | .global g => .pointer (some ⟨g, 0, none⟩)
  | .func k => .func (.func k) #[] #[]
structure Fits (N : Nat) (a : Act) (f : Fr) : Prop where
  nodefer : a.defers = []
  size : a.tmps.size = N
  get : ∀ n, a.tmps.getD n undef = f n
theorem Fits.eval {N : Nat} {a : Act} {f : Fr} (h : Fits N a f) : a.eval = ev f := by
  funext x
  cases x with
  | tmp t => exact h.get t
  | _ => rfl
def dstLt (N : Nat) : Option Nat → Bool | some d => Nat.blt d N | none => true
theorem Fits.put {N : Nat} {a : Act} {f : Fr} (h : Fits N a f) {d : Option Nat} (hd : dstLt N d = true) (v : Value) : Fits N (a.put d v) (updo f d v) := by
  cases d with
  | none => exact h
  | some d =>
    have hlt : d < N := by simpa [dstLt, Nat.blt_eq] using hd
    refine ⟨h.nodefer, by simpa [Act.put] using h.size, fun n => ?_⟩
    by_cases e : n = d
    · subst e
      simp [Act.put, updo, upd, h.size, hlt]
    · have := h.get n
      simp only [updo, upd_ne _ _ e]
      rw [← this]
      simp [Act.put, Array.getElem?_setIfInBounds_ne (Ne.symm e)]
/-- What is asked behind a piece of code, over frames that are functions. -/
abbrev Post := Exit → Fr → World → Prop
def lift (N : Nat) (Q : Post) : Exit → Act → World → Prop := fun e a w => ∃ f, Fits N a f ∧ Q e f w
def W (P : Program) (N : Nat) (c : Code) (Q : Post) (f : Fr) (w : World) : Prop := ∀ a, Fits N a f → c.wp P (lift N Q) a w
/-- One operation: the value that it leaves, and the world. -/
def Exec (P : Program) (ρ : Operand → Value) (o : Oper) (w : World) (K : Value → World → Prop) : Prop :=
  match (execOp ρ o).run P w with
  | .ok (.value v) w' => K v w'
  | .ok .skip w' => K undef w'
  | .ok (.enter f args) w' => Calls P f args w' (fun e w'' => ∃ v, e = .returned v ∧ K v w'')
  | _ => False
theorem Exec.mono {P : Program} {ρ : Operand → Value} {o : Oper} {w : World} {K K' : Value → World → Prop} (h : Exec P ρ o w K) (hk : ∀ v w', K v w' → K' v w') : Exec P ρ o w K' := by
  unfold Exec at *
  split at h <;> first
    | exact hk _ _ h
    | exact h.mono fun e w'' ⟨v, he, hv⟩ => ⟨v, he, hk _ _ hv⟩
    | exact h.elim
theorem Exec.of_run {P : Program} {ρ : Operand → Value} {o : Oper} {w w' : World} {K : Value → World → Prop} {v : Value} (h : (execOp ρ o).run P w = .ok (.value v) w') (hk : K v w') : Exec P ρ o w K := by
  unfold Exec; rw [h]; exact hk
theorem Exec.of_skip {P : Program} {ρ : Operand → Value} {o : Oper} {w w' : World} {K : Value → World → Prop} (h : (execOp ρ o).run P w = .ok .skip w') (hk : K undef w') : Exec P ρ o w K := by
  unfold Exec; rw [h]; exact hk
theorem wp_of_exec {P : Program} {o : Oper} {a : Act} {w : World} {K : Act → World → Prop} {Q : Exit → Act → World → Prop} (h : Exec P a.eval o w fun v w' => K (a.put o.dst v) w') : o.wp P a w K Q := by
  unfold Exec at h
  unfold Oper.wp
  generalize (execOp a.eval o).run P w = r at *
  split at h
  · exact h
  · exact h
  · exact h.mono fun e w'' ⟨v, he, hv⟩ => by subst he; exact hv
  · exact h.elim
/-- What operation j of the region has yielded. -/
def yieldedF (ops : Array Oper) (f : Fr) (j : Nat) : Option Bool :=
  match (ops[j]?).bind (·.dst) with
  | some d => (match f d with | .bool b => some b | _ => none)
  | none => none
theorem yieldedF_eq {N : Nat} {a : Act} {f : Fr} (h : Fits N a f) (ops : Array Oper) : yielded ops a.tmps = yieldedF ops f := by
  funext j
  unfold yielded yieldedF
  cases hd : (ops[j]?).bind (·.dst) with
  | none => rfl
  | some d =>
    simp only [Option.bind_some]
    have hg := h.get d
    rcases Nat.lt_or_ge d a.tmps.size with hlt | hge
    · simp [hlt] at hg
      simp [hlt, hg]
      split <;> simp_all
    · simp [Array.getElem?_eq_none hge] at hg ⊢
      rw [← hg]; rfl
/-- The operations of a region in the text's order. -/
def WL (P : Program) (N : Nat) (ops : Array Oper) (Q : Post) (l : List Oper) (f : Fr) (w : World) : Prop := ∀ a, Fits N a f → wpList P ops (lift N Q) l a w
section
variable {P : Program} {N : Nat} {ops : Array Oper} {Q : Post} {f : Fr} {w : World} {o : Oper} {rest : List Oper}
theorem Zb (h : Q .normal f w) : WL P N ops Q [] f w := fun _ hf => wpList_nil ⟨f, hf, h⟩
theorem Za (hg : o.guard = none) (hd : dstLt N o.dst = true) (h : Exec P (ev f) o w fun v w' => WL P N ops Q rest (updo f o.dst v) w') : WL P N ops Q (o :: rest) f w := by
  intro a hf
  refine wpList_plain hg fun K hK => wp_of_exec ?_
  rw [hf.eval]
  exact h.mono fun v w' hv => hK _ _ (hv _ (hf.put hd v))
theorem WL_run {j : Nat} {b : Bool} (hg : o.guard = some (j, b)) (hy : yieldedF ops f j = some b) (hd : dstLt N o.dst = true)
    (h : Exec P (ev f) o w fun v w' => WL P N ops Q rest (updo f o.dst v) w') : WL P N ops Q (o :: rest) f w := by
  intro a hf
  refine wpList_step fun K hK => ?_
  have hw : Region.wanted o (yielded ops a.tmps) = true := by simp [Region.wanted, hg, yieldedF_eq hf, hy]
  rw [if_pos hw]
  refine wp_of_exec ?_
  rw [hf.eval]
  exact h.mono fun v w' hv => hK _ _ (hv _ (hf.put hd v))
theorem Zl {j : Nat} {b c : Bool} (hg : o.guard = some (j, b)) (hy : yieldedF ops f j = some c) (hbc : (c == b) = false) (hd : dstLt N o.dst = true)
    (h : WL P N ops Q rest (updo f o.dst undef) w) : WL P N ops Q (o :: rest) f w := by
  intro a hf
  refine wpList_step fun K hK => ?_
  have hw : ¬ (Region.wanted o (yielded ops a.tmps) = true) := by
    simp only [Region.wanted, hg, yieldedF_eq hf, hy]
    cases b <;> cases c <;> simp at *
  rw [if_neg hw]
  exact hK _ _ (h _ (hf.put hd undef))
theorem WL_pass_none {j : Nat} {b : Bool} (hg : o.guard = some (j, b)) (hy : yieldedF ops f j = none) (hd : dstLt N o.dst = true)
    (h : WL P N ops Q rest (updo f o.dst undef) w) : WL P N ops Q (o :: rest) f w := by
  intro a hf
  refine wpList_step fun K hK => ?_
  have hw : ¬ (Region.wanted o (yielded ops a.tmps) = true) := by
    simp [Region.wanted, hg, yieldedF_eq hf, hy]
  rw [if_neg hw]
  exact hK _ _ (h _ (hf.put hd undef))
end
section
variable {P : Program} {N : Nat} {Q : Post} {f : Fr} {w : World}
theorem W_mono {c : Code} {Q' : Post} (h : W P N c Q f w) (hq : ∀ e f w, Q e f w → Q' e f w) : W P N c Q' f w :=
  fun a ha => wp_mono (h a ha) fun _ _ _ ⟨g, hg, hQ⟩ => ⟨g, hg, hq _ _ _ hQ⟩
theorem Zd {id : Nat} {l : List Oper} (h : WL P N l.toArray Q l f w) : W P N (.region id l.toArray false) Q f w :=
  fun a ha => wp_region_lit (h a ha)
def andThen (K : Fr → World → Prop) (Q : Post) : Post
  | .normal, f, w => K f w
  | e, f, w => Q e f w
theorem Zc {x y : Code} (h : W P N x (andThen (W P N y Q) Q) f w) : W P N (.seq x y) Q f w := by
  intro a ha
  refine wp_seq (wp_mono (h a ha) ?_)
  rintro e a' w' ⟨g, hg, hQ⟩
  cases e <;> first | exact hQ _ hg | exact ⟨g, hg, hQ⟩
theorem W_skip (h : Q .normal f w) : W P N .skip Q f w := fun _ ha => wp_skip ⟨f, ha, h⟩
theorem W_ret (h : Q .ret f w) : W P N .ret Q f w := fun _ ha => wp_ret ⟨f, ha, h⟩
theorem W_exit {id : Nat} (h : Q (.exit id) f w) : W P N (.exit id) Q f w := fun _ ha => wp_exit ⟨f, ha, h⟩
theorem W_true {c : Operand} {x y : Code} (hc : ev f c = .bool true) (h : W P N x Q f w) : W P N (.cond c x y) Q f w :=
  fun a ha => wp_cond_true (by rw [ha.eval]; exact hc) (h a ha)
theorem W_false {c : Operand} {x y : Code} (hc : ev f c = .bool false) (h : W P N y Q f w) : W P N (.cond c x y) Q f w :=
  fun a ha => wp_cond_false (by rw [ha.eval]; exact hc) (h a ha)
def inBlk (id : Nat) (Q : Post) : Post
  | .exit id', f, w => bif Nat.beq id' id then Q .normal f w else Q (.exit id') f w
  | e, f, w => Q e f w
theorem W_block {id : Nat} {c : Code} (h : W P N c (inBlk id Q) f w) : W P N (.block id c) Q f w := by
  intro a ha
  refine wp_block (wp_mono (h a ha) ?_)
  rintro e a' w' ⟨g, hg, hQ⟩
  cases e with
  | exit id' =>
    simp only [inBlk] at hQ
    simp only [Exit.inBlock]
    by_cases e : id' = id
    · subst e
      simp at hQ ⊢
      exact ⟨g, hg, hQ⟩
    · have : Nat.beq id' id = false := beq_false_iff.2 e
      simp [this] at hQ
      rw [if_neg e]
      exact ⟨g, hg, hQ⟩
  | _ => exact ⟨g, hg, hQ⟩
/-- A loop, by a ghost number that every round lowers. -/
theorem W_loop {c : Code} (J : Nat → Fr → World → Prop) (h0 : ∃ k, J k f w)
    (round : ∀ k f w, J k f w → W P N c (andThen (fun f' w' => ∃ k', k' < k ∧ J k' f' w') Q) f w) : W P N (.loop c) Q f w := by
  intro a ha
  classical
  let I : Act → World → Prop := fun a w => ∃ k f, Fits N a f ∧ J k f w
  have hdec : ∀ a w, I a w → ∃ k, (∃ f, Fits N a f ∧ J k f w) ∧ ∀ j, (∃ f, Fits N a f ∧ J j f w) → k ≤ j := by
    intro a w ⟨k, hk⟩
    induction k using Nat.strongRecOn with
    | _ k ih =>
      by_cases hm : ∃ j, j < k ∧ ∃ f, Fits N a f ∧ J j f w
      · obtain ⟨j, hj, hf⟩ := hm
        exact ih j hj hf
      · exact ⟨k, hk, fun j hj => Nat.le_of_not_lt fun hlt => hm ⟨j, hlt, hj⟩⟩
  let μ : Act → World → Nat := fun a w => if h : I a w then (hdec a w h).choose else 0
  obtain ⟨k0, hk0⟩ := h0
  refine wp_loop I μ ⟨k0, f, ha, hk0⟩ ?_
  intro a' w' hI
  have hspec := (hdec a' w' hI).choose_spec
  have hμ : μ a' w' = (hdec a' w' hI).choose := by simp [μ, hI]
  obtain ⟨⟨g, hg, hJ⟩, hmin⟩ := hspec
  refine wp_mono (round _ g w' hJ a' hg) ?_
  rintro e a'' w'' ⟨g', hg', hQ⟩
  cases e with
  | normal =>
    obtain ⟨k', hlt, hJ'⟩ := hQ
    have hI' : I a'' w'' := ⟨k', g', hg', hJ'⟩
    refine ⟨hI', ?_⟩
    have hμ' : μ a'' w'' = (hdec a'' w'' hI').choose := by simp [μ, hI']
    rw [hμ, hμ']
    exact Nat.lt_of_le_of_lt ((hdec a'' w'' hI').choose_spec.2 k' ⟨g', hg', hJ'⟩) hlt
  | _ => exact ⟨g', hg', hQ⟩
/-! ### A function's entry and return -/
def entry (args : Array Value) : Fr := fun n => args.getD n undef
/-- The results, read off the frame (and, where one lies in a cell, off the world). -/
def resRead (P : Program) (fn : Func) (f : Fr) (w : World) (v : Value) : Prop := ∀ a, Fits fn.ntmps a f → (results fn a.tmps).run P w = .ok v w
def fnPost (P : Program) (fn : Func) (R : Value → World → Prop) : Post
  | .normal, f, w | .ret, f, w => ∃ v, resRead P fn f w v ∧ R v w
  | _, _, _ => False
theorem calls_of_W {k : FuncId} {fn : Func} {c : Code} {args : Array Value} {R : Value → World → Prop} (hf : P.funcs[k]? = some fn) (hb : fn.body = some c)
    (hn : Nat.ble args.size fn.ntmps = true) (h : W P fn.ntmps c (fnPost P fn R) (entry args) w) : Calls P k args w fun e w' => ∃ v, e = .returned v ∧ R v w' := by
  have hsz : args.size ≤ fn.ntmps := by simpa [Nat.ble_eq] using hn
  refine calls_of_wp hf hb ?_
  have hfit : Fits fn.ntmps { tmps := args ++ Array.replicate (fn.ntmps - args.size) undef, defers := [] } (entry args) := by
    refine ⟨rfl, by simp; omega, fun n => ?_⟩
    unfold entry
    rcases Nat.lt_or_ge n args.size with h1 | h1
    · simp [h1, Array.getElem?_append]
    · simp only [Array.getD_eq_getD_getElem?, Array.getElem?_append, Nat.not_lt.2 h1, if_false, Array.getElem?_eq_none h1, Option.getD_none]
      rcases Nat.lt_or_ge (n - args.size) (fn.ntmps - args.size) with h2 | h2
      · simp [h2]
      · simp [h2]
  refine wp_mono (h _ hfit) ?_
  rintro e a w' ⟨g, hg, hQ⟩
  cases e with
  | normal => obtain ⟨v, hr, hR⟩ := hQ; exact ⟨hg.nodefer, v, hr a hg, v, rfl, hR⟩
  | ret => obtain ⟨v, hr, hR⟩ := hQ; exact ⟨hg.nodefer, v, hr a hg, v, rfl, hR⟩
  | exit id => exact hQ.elim
  | goto l => exact hQ.elim
  | panic ch => exact hQ.elim
  | outgrown => exact hQ.elim
theorem ret1 {fn : Func} {t : Nat} (h : fn.results = #[.tmp t]) : resRead P fn f w (f t) := by
  intro a ha; rw [results_tmp h]; rw [ha.get]
theorem ret2 {fn : Func} {t u : Nat} (h : fn.results = #[.tmp t, .tmp u]) : resRead P fn f w (.tuple #[f t, f u]) := by
  intro a ha; rw [results_tmp2 h]; rw [ha.get, ha.get]
end
theorem countP_set {p q : Nat → Bool} {i : Nat} (hp : p i = true) (hq : q i = false) (hpq : ∀ j, j ≠ i → p j = q j) : ∀ n, i < n → (List.range n).countP p = (List.range n).countP q + 1 := by
  have same : ∀ n, n ≤ i → (List.range n).countP p = (List.range n).countP q := by
    intro n
    induction n with
    | zero => intro _; rfl
    | succ n ih =>
      intro h
      rw [List.range_succ, List.countP_append, List.countP_append, ih (by omega)]
      simp [hpq n (by omega)]
  intro n
  induction n with
  | zero => intro h; omega
  | succ n ih =>
    intro h
    rw [List.range_succ, List.countP_append, List.countP_append]
    by_cases e : n = i
    · subst e
      rw [same n (Nat.le_refl _)]
      simp [hp, hq]
    · rw [ih (by omega)]
      simp only [List.countP_cons, List.countP_nil]
      rw [hpq n e]
      omega
/-! ### A region that draws its order: the head (the first n0 operations) in any order, the tail (each waits for all ahead of it) in the text's. -/
section
variable {P : Program} {N : Nat} {Q : Post}
def waitsAll (ops : List Oper) (t : Nat) : Bool :=
  match ops[t]? with
  | some o => (List.range t).all fun j => o.after.any fun e => Region.binds .any e && Nat.beq e.on j
  | none => true
def waitsOn (ops : List Oper) (t j : Nat) : Bool :=
  match ops[t]? with
  | some o => o.after.any fun e => Region.binds .any e && Nat.beq e.on j
  | none => true
/-- The head's operations bear distinct temporaries; the tail's wait for all ahead of them; every edge points back. -/
def drawOK (N n0 : Nat) (ops : List Oper) : Bool :=
  (Nat.ble n0 ops.length) && ((List.range ops.length).all fun t => Nat.blt t n0 || waitsAll ops t || (Nat.blt n0 t && waitsOn ops t (t - 1))) &&
  (ops.take n0).all (fun o => (match o.dst with | some d => Nat.blt d N | none => false)) &&
  (ops.drop n0).all (fun o => dstLt N o.dst) &&
  decide (((ops.take n0).map (·.dst)).Nodup) &&
  ((List.range ops.length).all fun t => match ops[t]? with | some o => o.after.all fun e => !(Region.binds .any e) || Nat.blt e.on t | none => true)
def dstAt (ops : List Oper) (i : Nat) : Nat := ((ops[i]?).bind (·.dst)).getD 0
end
end Go.Pw
