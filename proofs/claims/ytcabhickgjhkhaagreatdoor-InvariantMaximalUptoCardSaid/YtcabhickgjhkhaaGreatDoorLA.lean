/-
  The words of the pure side: what my programs' pure functions are written in. Plain Lean: no program in sight.
-/
import GoSem.Core.Value
import Derived.IntWalk
import Derived.WalkKit
namespace Go.Pw
universe u
theorem Zu {α : Type} {a b : α} (h : some a = some b) : a = b := Option.some.inj h
theorem Zx {a b : Bool} (h : a = b) : Value.bool a = Value.bool b := congrArg Value.bool h
abbrev Vi : Int → Value := Value.int IntKind.i64
/-- An index into a list: nothing where Go panics. -/
def idx {α : Type} (xs : List α) (n : Int) : Option α := if 0 ≤ n then xs[n.toNat]? else none
/-- A store into a list. -/
def setI {α : Type} (xs : List α) (n : Int) (y : α) : Option (List α) := if 0 ≤ n ∧ n.toNat < xs.length then some (xs.set n.toNat y) else none
/-- An append: nothing where no memory would bear it (b: the bytes of one element). -/
def app {α : Type} (b : Nat) (xs ys : List α) : Option (List α) := if (xs.length + ys.length) * b ≤ 140737488355328 then some (xs ++ ys) else none
/-- make([]T, n) -/
def mk {α : Type} (b : Nat) (z : α) (n : Int) : Option (List α) := if 0 ≤ n ∧ b * n.toNat ≤ 281474976710656 ∧ n ≤ 9223372036854775807 then some (List.replicate n.toNat z) else none
/-- xs[l:h] (within the length). -/
def cut {α : Type} (xs : List α) (l h : Int) : Option (List α) := if 0 ≤ l ∧ l ≤ h ∧ h ≤ xs.length then some ((xs.take h.toNat).drop l.toNat) else none
/-- What must hold, else the run dies. -/
def must (b : Bool) : Option Unit := if b then some () else none
/-- How a round of a loop ends. -/
inductive Ctl (S R : Type) where
  | next (s : S)
  | brk (s : S)
  | ret (r : R)
/-- A loop over i, i + 1, .., i + k - 1. -/
def forC {S R : Type} (B : Nat → S → Option (Ctl S R)) : Nat → Nat → S → Option (Ctl S R)
  | 0, _, s => some (.next s)
  | k + 1, i, s => match B i s with
    | some (.next s') => forC B k (i + 1) s'
    | r => r
/-- The same where no round leaves. -/
def forS {S : Type} (B : Nat → S → Option S) : Nat → Nat → S → Option S
  | 0, _, s => some s
  | k + 1, i, s => (B i s).bind fun s' => forS B k (i + 1) s'
/-- A loop without a count: n rounds at most. -/
def iterC {S R : Type} (B : S → Option (Ctl S R)) : Nat → S → Option (Ctl S R)
  | 0, _ => none
  | k + 1, s => match B s with
    | some (.next s') => iterC B k s'
    | r => r
open Classical in
/-- A loop without a count: what it comes to, if it ends. -/
noncomputable def whileC {S R : Type} (B : S → Option (Ctl S R)) (s : S) : Option (Ctl S R) :=
  if h : ∃ k c, iterC B k s = some c then some h.choose_spec.choose else none
section
variable {S R : Type} {B : S → Option (Ctl S R)}
theorem iterC_more : ∀ {k : Nat} {s : S} {c : Ctl S R}, iterC B k s = some c → ∀ j, iterC B (k + j) s = some c
  | 0, _, _, h, _ => by simp [iterC] at h
  | k + 1, s, c, h, j => by
    rw [Nat.add_right_comm]
    simp only [iterC] at h ⊢
    split at h
    · exact iterC_more h j
    · exact h
theorem iterC_det {j k : Nat} {s : S} {c d : Ctl S R} (h : iterC B j s = some c) (h' : iterC B k s = some d) : c = d := by
  have h1 := iterC_more h k
  have h2 := iterC_more h' j
  rw [Nat.add_comm] at h2
  rw [h1] at h2
  exact Zu h2
theorem whileC_of {k : Nat} {s : S} {c : Ctl S R} (h : iterC B k s = some c) : whileC B s = some c := by
  have hex : ∃ k c, iterC B k s = some c := ⟨k, c, h⟩
  unfold whileC
  rw [dif_pos hex]
  exact congrArg some (iterC_det hex.choose_spec.choose_spec h)
theorem whileC_some {s : S} {c : Ctl S R} (h : whileC B s = some c) : ∃ k, iterC B k s = some c := by
  unfold whileC at h
  split at h
  · rename_i hex
    have := Zu h
    exact ⟨hex.choose, by rw [hex.choose_spec.choose_spec, this]⟩
  · cases h
/-- One round ahead. -/
theorem whileC_next {s s' : S} (h : B s = some (.next s')) : whileC B s = whileC B s' := by
  by_cases hex : ∃ k c, iterC B k s' = some c
  · obtain ⟨k, c, hk⟩ := hex
    rw [whileC_of hk]
    exact whileC_of (k := k + 1) (by simp only [iterC, h]; exact hk)
  · have : ¬ ∃ k c, iterC B k s = some c := by
      rintro ⟨k, c, hk⟩
      cases k with
      | zero => simp [iterC] at hk
      | succ k => simp only [iterC, h] at hk; exact hex ⟨k, c, hk⟩
    unfold whileC
    rw [dif_neg hex, dif_neg this]
theorem whileC_stop {s : S} {c : Ctl S R} (h : B s = some c) (hc : ∀ s', c ≠ .next s') : whileC B s = some c :=
  whileC_of (k := 1) (by simp only [iterC, h]; cases c <;> first | rfl | exact absurd rfl (hc _))
end
theorem Zg {α β : Type} {x : Option α} {f : α → Option β} {r : β} (h : x.bind f = some r) : ∃ a, x = some a ∧ f a = some r := by
  cases x with
  | none => cases h
  | some a => exact ⟨a, rfl, h⟩
theorem must_some {b : Bool} {u : Unit} (h : must b = some u) : b = true := by
  unfold must at h; split at h <;> simp_all
theorem app_some {α : Type} {b : Nat} {xs ys zs : List α} (h : app b xs ys = some zs) : (xs.length + ys.length) * b ≤ 140737488355328 ∧ zs = xs ++ ys := by
  unfold app at h; split at h
  · rename_i hb; exact ⟨hb, (Zu h).symm⟩
  · cases h
theorem mk_some {α : Type} {b : Nat} {z : α} {n : Int} {zs : List α} (h : mk b z n = some zs) : 0 ≤ n ∧ b * n.toNat ≤ 281474976710656 ∧ n ≤ 9223372036854775807 ∧ zs = List.replicate n.toNat z := by
  unfold mk at h; split at h
  · rename_i hb; exact ⟨hb.1, hb.2.1, hb.2.2, (Zu h).symm⟩
  · cases h
theorem idx_some {α : Type} {xs : List α} {n : Int} {y : α} (h : idx xs n = some y) : 0 ≤ n ∧ n < xs.length ∧ xs[n.toNat]? = some y := by
  unfold idx at h; split at h
  · rename_i h0
    have := (List.getElem?_eq_some_iff.1 h).1
    exact ⟨h0, by omega, h⟩
  · cases h
theorem setI_some {α : Type} {xs zs : List α} {n : Int} {y : α} (h : setI xs n y = some zs) : 0 ≤ n ∧ n.toNat < xs.length ∧ zs = xs.set n.toNat y := by
  unfold setI at h; split at h
  · rename_i h0; exact ⟨h0.1, h0.2, (Zu h).symm⟩
  · cases h
theorem cut_some {α : Type} {xs zs : List α} {l r : Int} (h : cut xs l r = some zs) : 0 ≤ l ∧ l ≤ r ∧ r ≤ xs.length ∧ zs = (xs.take r.toNat).drop l.toNat := by
  unfold cut at h; split at h
  · rename_i h0; exact ⟨h0.1, h0.2.1, h0.2.2, (Zu h).symm⟩
  · cases h
abbrev un2 {α1 α2 : Type} {δ : Sort u} (f : α1 → α2 → δ) (t : α1 × α2) : δ := f t.1 t.2
theorem un2_eq {α1 α2 : Type} {δ : Sort u} {f : α1 → α2 → δ} {a1 : α1} {a2 : α2} {r : δ} (h : un2 f (a1, a2) = r) : f a1 a2 = r := h
abbrev un3 {α1 α2 α3 : Type} {δ : Sort u} (f : α1 → α2 → α3 → δ) (t : α1 × α2 × α3) : δ := f t.1 t.2.1 t.2.2
theorem un3_eq {α1 α2 α3 : Type} {δ : Sort u} {f : α1 → α2 → α3 → δ} {a1 : α1} {a2 : α2} {a3 : α3} {r : δ} (h : un3 f (a1, a2, a3) = r) : f a1 a2 a3 = r := h
/-- What follows a loop that rounds may leave: by a return, or by its end or a break. -/
def ctl {S R β : Type} (x : Option (Ctl S R)) (kr : R → Option β) (k : S → Option β) : Option β := x.bind fun c => match c with | .ret r => kr r | .next s => k s | .brk s => k s
theorem ctl_some {S R β : Type} {x : Option (Ctl S R)} {kr : R → Option β} {k : S → Option β} {r : β} (h : ctl x kr k = some r) :
    ∃ c, x = some c ∧ (∀ q, c = .ret q → kr q = some r) ∧ (∀ s, c = .next s → k s = some r) ∧ (∀ s, c = .brk s → k s = some r) := by
  obtain ⟨c, h1, h2⟩ := Zg h
  refine ⟨c, h1, ?_, ?_, ?_⟩ <;> (rintro _ rfl; exact h2)
end Go.Pw
/-
  My walk's base, part 1: frames as functions, the rules of the code's weakest precondition over them, regions in text order and regions that draw their order, loops.
-/
namespace Go.Pw
abbrev Fr := Nat → Value
theorem beq_false_iff {m n : Nat} : Nat.beq m n = false ↔ m ≠ n := by
  cases h : Nat.beq m n with
  | true => simp [Nat.eq_of_beq_eq_true h]
  | false => simp; exact Nat.ne_of_beq_eq_false h
def upd (f : Fr) (n : Nat) (v : Value) : Fr := fun m => bif Nat.beq m n then v else f m
def updo (f : Fr) (d : Option Nat) (v : Value) : Fr := match d with | some n => upd f n v | none => f
theorem upd_same (f : Fr) (n : Nat) (v : Value) : upd f n v n = v := by simp [upd]
theorem upd_ne (f : Fr) {n m : Nat} (v : Value) (h : m ≠ n) : upd f n v m = f m := by
  have : Nat.beq m n = false := beq_false_iff.2 h
  simp [upd, this]
def ev (f : Fr) : Operand → Value
  | .tmp t => f t
  | .const v => v
  | .global g => .pointer (some ⟨g, 0, none⟩)
  | .func k => .func (.func k) #[] #[]
structure Fits (N : Nat) (a : Act) (f : Fr) : Prop where
  nodefer : a.defers = []
  size : a.tmps.size = N
  get : ∀ n, a.tmps.getD n undef = f n
theorem Fits.eval {N : Nat} {a : Act} {f : Fr} (h : Fits N a f) : a.eval = ev f := by
  funext x
  cases x with
  | tmp t => exact h.get t
  | _ => rfl
def dstLt (N : Nat) : Option Nat → Bool | some d => Nat.blt d N | none => true
theorem Fits.put {N : Nat} {a : Act} {f : Fr} (h : Fits N a f) {d : Option Nat} (hd : dstLt N d = true) (v : Value) : Fits N (a.put d v) (updo f d v) := by
  cases d with
  | none => exact h
  | some d =>
    have hlt : d < N := by simpa [dstLt, Nat.blt_eq] using hd
    refine ⟨h.nodefer, by simpa [Act.put] using h.size, fun n => ?_⟩
    by_cases e : n = d
    · subst e
      simp [Act.put, updo, upd, h.size, hlt]
    · have := h.get n
      simp only [updo, upd_ne _ _ e]
      rw [← this]
      simp [Act.put, Array.getElem?_setIfInBounds_ne (Ne.symm e)]
/-- What is asked behind a piece of code, over frames that are functions. -/
abbrev Post := Exit → Fr → World → Prop
def lift (N : Nat) (Q : Post) : Exit → Act → World → Prop := fun e a w => ∃ f, Fits N a f ∧ Q e f w
def W (P : Program) (N : Nat) (c : Code) (Q : Post) (f : Fr) (w : World) : Prop := ∀ a, Fits N a f → c.wp P (lift N Q) a w
/-- One operation: the value that it leaves, and the world. -/
def Exec (P : Program) (ρ : Operand → Value) (o : Oper) (w : World) (K : Value → World → Prop) : Prop :=
  match (execOp ρ o).run P w with
  | .ok (.value v) w' => K v w'
  | .ok .skip w' => K undef w'
  | .ok (.enter f args) w' => Calls P f args w' (fun e w'' => ∃ v, e = .returned v ∧ K v w'')
  | _ => False
theorem Exec.mono {P : Program} {ρ : Operand → Value} {o : Oper} {w : World} {K K' : Value → World → Prop} (h : Exec P ρ o w K) (hk : ∀ v w', K v w' → K' v w') : Exec P ρ o w K' := by
  unfold Exec at *
  split at h <;> first
    | exact hk _ _ h
    | exact h.mono fun e w'' ⟨v, he, hv⟩ => ⟨v, he, hk _ _ hv⟩
    | exact h.elim
theorem Exec.of_run {P : Program} {ρ : Operand → Value} {o : Oper} {w w' : World} {K : Value → World → Prop} {v : Value} (h : (execOp ρ o).run P w = .ok (.value v) w') (hk : K v w') : Exec P ρ o w K := by
  unfold Exec; rw [h]; exact hk
theorem Exec.of_skip {P : Program} {ρ : Operand → Value} {o : Oper} {w w' : World} {K : Value → World → Prop} (h : (execOp ρ o).run P w = .ok .skip w') (hk : K undef w') : Exec P ρ o w K := by
  unfold Exec; rw [h]; exact hk
theorem wp_of_exec {P : Program} {o : Oper} {a : Act} {w : World} {K : Act → World → Prop} {Q : Exit → Act → World → Prop} (h : Exec P a.eval o w fun v w' => K (a.put o.dst v) w') : o.wp P a w K Q := by
  unfold Exec at h
  unfold Oper.wp
  generalize (execOp a.eval o).run P w = r at *
  split at h
  · exact h
  · exact h
  · exact h.mono fun e w'' ⟨v, he, hv⟩ => by subst he; exact hv
  · exact h.elim
/-- What operation j of the region has yielded. -/
def yieldedF (ops : Array Oper) (f : Fr) (j : Nat) : Option Bool :=
  match (ops[j]?).bind (·.dst) with
  | some d => (match f d with | .bool b => some b | _ => none)
  | none => none
theorem yieldedF_eq {N : Nat} {a : Act} {f : Fr} (h : Fits N a f) (ops : Array Oper) : yielded ops a.tmps = yieldedF ops f := by
  funext j
  unfold yielded yieldedF
  cases hd : (ops[j]?).bind (·.dst) with
  | none => rfl
  | some d =>
    simp only [Option.bind_some]
    have hg := h.get d
    rcases Nat.lt_or_ge d a.tmps.size with hlt | hge
    · simp [hlt] at hg
      simp [hlt, hg]
      split <;> simp_all
    · simp [Array.getElem?_eq_none hge] at hg ⊢
      rw [← hg]; rfl
/-- The operations of a region in the text's order. -/
def WL (P : Program) (N : Nat) (ops : Array Oper) (Q : Post) (l : List Oper) (f : Fr) (w : World) : Prop := ∀ a, Fits N a f → wpList P ops (lift N Q) l a w
section
variable {P : Program} {N : Nat} {ops : Array Oper} {Q : Post} {f : Fr} {w : World} {o : Oper} {rest : List Oper}
theorem Zb (h : Q .normal f w) : WL P N ops Q [] f w := fun _ hf => wpList_nil ⟨f, hf, h⟩
theorem Za (hg : o.guard = none) (hd : dstLt N o.dst = true) (h : Exec P (ev f) o w fun v w' => WL P N ops Q rest (updo f o.dst v) w') : WL P N ops Q (o :: rest) f w := by
  intro a hf
  refine wpList_plain hg fun K hK => wp_of_exec ?_
  rw [hf.eval]
  exact h.mono fun v w' hv => hK _ _ (hv _ (hf.put hd v))
theorem WL_run {j : Nat} {b : Bool} (hg : o.guard = some (j, b)) (hy : yieldedF ops f j = some b) (hd : dstLt N o.dst = true)
    (h : Exec P (ev f) o w fun v w' => WL P N ops Q rest (updo f o.dst v) w') : WL P N ops Q (o :: rest) f w := by
  intro a hf
  refine wpList_step fun K hK => ?_
  have hw : Region.wanted o (yielded ops a.tmps) = true := by simp [Region.wanted, hg, yieldedF_eq hf, hy]
  rw [if_pos hw]
  refine wp_of_exec ?_
  rw [hf.eval]
  exact h.mono fun v w' hv => hK _ _ (hv _ (hf.put hd v))
theorem Zl {j : Nat} {b c : Bool} (hg : o.guard = some (j, b)) (hy : yieldedF ops f j = some c) (hbc : (c == b) = false) (hd : dstLt N o.dst = true)
    (h : WL P N ops Q rest (updo f o.dst undef) w) : WL P N ops Q (o :: rest) f w := by
  intro a hf
  refine wpList_step fun K hK => ?_
  have hw : ¬ (Region.wanted o (yielded ops a.tmps) = true) := by
    simp only [Region.wanted, hg, yieldedF_eq hf, hy]
    cases b <;> cases c <;> simp at *
  rw [if_neg hw]
  exact hK _ _ (h _ (hf.put hd undef))
theorem WL_pass_none {j : Nat} {b : Bool} (hg : o.guard = some (j, b)) (hy : yieldedF ops f j = none) (hd : dstLt N o.dst = true)
    (h : WL P N ops Q rest (updo f o.dst undef) w) : WL P N ops Q (o :: rest) f w := by
  intro a hf
  refine wpList_step fun K hK => ?_
  have hw : ¬ (Region.wanted o (yielded ops a.tmps) = true) := by
    simp [Region.wanted, hg, yieldedF_eq hf, hy]
  rw [if_neg hw]
  exact hK _ _ (h _ (hf.put hd undef))
end
section
variable {P : Program} {N : Nat} {Q : Post} {f : Fr} {w : World}
theorem W_mono {c : Code} {Q' : Post} (h : W P N c Q f w) (hq : ∀ e f w, Q e f w → Q' e f w) : W P N c Q' f w :=
  fun a ha => wp_mono (h a ha) fun _ _ _ ⟨g, hg, hQ⟩ => ⟨g, hg, hq _ _ _ hQ⟩
theorem Zd {id : Nat} {l : List Oper} (h : WL P N l.toArray Q l f w) : W P N (.region id l.toArray false) Q f w :=
  fun a ha => wp_region_lit (h a ha)
def andThen (K : Fr → World → Prop) (Q : Post) : Post
  | .normal, f, w => K f w
  | e, f, w => Q e f w
theorem Zc {x y : Code} (h : W P N x (andThen (W P N y Q) Q) f w) : W P N (.seq x y) Q f w := by
  intro a ha
  refine wp_seq (wp_mono (h a ha) ?_)
  rintro e a' w' ⟨g, hg, hQ⟩
  cases e <;> first | exact hQ _ hg | exact ⟨g, hg, hQ⟩
theorem W_skip (h : Q .normal f w) : W P N .skip Q f w := fun _ ha => wp_skip ⟨f, ha, h⟩
theorem W_ret (h : Q .ret f w) : W P N .ret Q f w := fun _ ha => wp_ret ⟨f, ha, h⟩
theorem W_exit {id : Nat} (h : Q (.exit id) f w) : W P N (.exit id) Q f w := fun _ ha => wp_exit ⟨f, ha, h⟩
theorem W_true {c : Operand} {x y : Code} (hc : ev f c = .bool true) (h : W P N x Q f w) : W P N (.cond c x y) Q f w :=
  fun a ha => wp_cond_true (by rw [ha.eval]; exact hc) (h a ha)
theorem W_false {c : Operand} {x y : Code} (hc : ev f c = .bool false) (h : W P N y Q f w) : W P N (.cond c x y) Q f w :=
  fun a ha => wp_cond_false (by rw [ha.eval]; exact hc) (h a ha)
def inBlk (id : Nat) (Q : Post) : Post
  | .exit id', f, w => bif Nat.beq id' id then Q .normal f w else Q (.exit id') f w
  | e, f, w => Q e f w
theorem W_block {id : Nat} {c : Code} (h : W P N c (inBlk id Q) f w) : W P N (.block id c) Q f w := by
  intro a ha
  refine wp_block (wp_mono (h a ha) ?_)
  rintro e a' w' ⟨g, hg, hQ⟩
  cases e with
  | exit id' =>
    simp only [inBlk] at hQ
    simp only [Exit.inBlock]
    by_cases e : id' = id
    · subst e
      simp at hQ ⊢
      exact ⟨g, hg, hQ⟩
    · have : Nat.beq id' id = false := beq_false_iff.2 e
      simp [this] at hQ
      rw [if_neg e]
      exact ⟨g, hg, hQ⟩
  | _ => exact ⟨g, hg, hQ⟩
/-- A loop, by a ghost number that every round lowers. -/
theorem W_loop {c : Code} (J : Nat → Fr → World → Prop) (h0 : ∃ k, J k f w)
    (round : ∀ k f w, J k f w → W P N c (andThen (fun f' w' => ∃ k', k' < k ∧ J k' f' w') Q) f w) : W P N (.loop c) Q f w := by
  intro a ha
  classical
  let I : Act → World → Prop := fun a w => ∃ k f, Fits N a f ∧ J k f w
  have hdec : ∀ a w, I a w → ∃ k, (∃ f, Fits N a f ∧ J k f w) ∧ ∀ j, (∃ f, Fits N a f ∧ J j f w) → k ≤ j := by
    intro a w ⟨k, hk⟩
    induction k using Nat.strongRecOn with
    | _ k ih =>
      by_cases hm : ∃ j, j < k ∧ ∃ f, Fits N a f ∧ J j f w
      · obtain ⟨j, hj, hf⟩ := hm
        exact ih j hj hf
      · exact ⟨k, hk, fun j hj => Nat.le_of_not_lt fun hlt => hm ⟨j, hlt, hj⟩⟩
  let μ : Act → World → Nat := fun a w => if h : I a w then (hdec a w h).choose else 0
  obtain ⟨k0, hk0⟩ := h0
  refine wp_loop I μ ⟨k0, f, ha, hk0⟩ ?_
  intro a' w' hI
  have hspec := (hdec a' w' hI).choose_spec
  have hμ : μ a' w' = (hdec a' w' hI).choose := by simp [μ, hI]
  obtain ⟨⟨g, hg, hJ⟩, hmin⟩ := hspec
  refine wp_mono (round _ g w' hJ a' hg) ?_
  rintro e a'' w'' ⟨g', hg', hQ⟩
  cases e with
  | normal =>
    obtain ⟨k', hlt, hJ'⟩ := hQ
    have hI' : I a'' w'' := ⟨k', g', hg', hJ'⟩
    refine ⟨hI', ?_⟩
    have hμ' : μ a'' w'' = (hdec a'' w'' hI').choose := by simp [μ, hI']
    rw [hμ, hμ']
    exact Nat.lt_of_le_of_lt ((hdec a'' w'' hI').choose_spec.2 k' ⟨g', hg', hJ'⟩) hlt
  | _ => exact ⟨g', hg', hQ⟩
/-! ### A function's entry and return -/
def entry (args : Array Value) : Fr := fun n => args.getD n undef
/-- The results, read off the frame (and, where one lies in a cell, off the world). -/
def resRead (P : Program) (fn : Func) (f : Fr) (w : World) (v : Value) : Prop := ∀ a, Fits fn.ntmps a f → (results fn a.tmps).run P w = .ok v w
def fnPost (P : Program) (fn : Func) (R : Value → World → Prop) : Post
  | .normal, f, w | .ret, f, w => ∃ v, resRead P fn f w v ∧ R v w
  | _, _, _ => False
theorem calls_of_W {k : FuncId} {fn : Func} {c : Code} {args : Array Value} {R : Value → World → Prop} (hf : P.funcs[k]? = some fn) (hb : fn.body = some c)
    (hn : Nat.ble args.size fn.ntmps = true) (h : W P fn.ntmps c (fnPost P fn R) (entry args) w) : Calls P k args w fun e w' => ∃ v, e = .returned v ∧ R v w' := by
  have hsz : args.size ≤ fn.ntmps := by simpa [Nat.ble_eq] using hn
  refine calls_of_wp hf hb ?_
  have hfit : Fits fn.ntmps { tmps := args ++ Array.replicate (fn.ntmps - args.size) undef, defers := [] } (entry args) := by
    refine ⟨rfl, by simp; omega, fun n => ?_⟩
    unfold entry
    rcases Nat.lt_or_ge n args.size with h1 | h1
    · simp [h1, Array.getElem?_append]
    · simp only [Array.getD_eq_getD_getElem?, Array.getElem?_append, Nat.not_lt.2 h1, if_false, Array.getElem?_eq_none h1, Option.getD_none]
      rcases Nat.lt_or_ge (n - args.size) (fn.ntmps - args.size) with h2 | h2
      · simp [h2]
      · simp [h2]
  refine wp_mono (h _ hfit) ?_
  rintro e a w' ⟨g, hg, hQ⟩
  cases e with
  | normal => obtain ⟨v, hr, hR⟩ := hQ; exact ⟨hg.nodefer, v, hr a hg, v, rfl, hR⟩
  | ret => obtain ⟨v, hr, hR⟩ := hQ; exact ⟨hg.nodefer, v, hr a hg, v, rfl, hR⟩
  | exit id => exact hQ.elim
  | goto l => exact hQ.elim
  | panic ch => exact hQ.elim
  | outgrown => exact hQ.elim
theorem ret1 {fn : Func} {t : Nat} (h : fn.results = #[.tmp t]) : resRead P fn f w (f t) := by
  intro a ha; rw [results_tmp h]; rw [ha.get]
theorem ret2 {fn : Func} {t u : Nat} (h : fn.results = #[.tmp t, .tmp u]) : resRead P fn f w (.tuple #[f t, f u]) := by
  intro a ha; rw [results_tmp2 h]; rw [ha.get, ha.get]
end
theorem countP_set {p q : Nat → Bool} {i : Nat} (hp : p i = true) (hq : q i = false) (hpq : ∀ j, j ≠ i → p j = q j) : ∀ n, i < n → (List.range n).countP p = (List.range n).countP q + 1 := by
  have same : ∀ n, n ≤ i → (List.range n).countP p = (List.range n).countP q := by
    intro n
    induction n with
    | zero => intro _; rfl
    | succ n ih =>
      intro h
      rw [List.range_succ, List.countP_append, List.countP_append, ih (by omega)]
      simp [hpq n (by omega)]
  intro n
  induction n with
  | zero => intro h; omega
  | succ n ih =>
    intro h
    rw [List.range_succ, List.countP_append, List.countP_append]
    by_cases e : n = i
    · subst e
      rw [same n (Nat.le_refl _)]
      simp [hp, hq]
    · rw [ih (by omega)]
      simp only [List.countP_cons, List.countP_nil]
      rw [hpq n e]
      omega
/-! ### A region that draws its order: the head (the first n0 operations) in any order, the tail (each waits for all ahead of it) in the text's. -/
section
variable {P : Program} {N : Nat} {Q : Post}
def waitsAll (ops : List Oper) (t : Nat) : Bool :=
  match ops[t]? with
  | some o => (List.range t).all fun j => o.after.any fun e => Region.binds .any e && Nat.beq e.on j
  | none => true
def waitsOn (ops : List Oper) (t j : Nat) : Bool :=
  match ops[t]? with
  | some o => o.after.any fun e => Region.binds .any e && Nat.beq e.on j
  | none => true
/-- The head's operations bear distinct temporaries; the tail's wait for all ahead of them; every edge points back. -/
def drawOK (N n0 : Nat) (ops : List Oper) : Bool :=
  (Nat.ble n0 ops.length) && ((List.range ops.length).all fun t => Nat.blt t n0 || waitsAll ops t || (Nat.blt n0 t && waitsOn ops t (t - 1))) &&
  (ops.take n0).all (fun o => (match o.dst with | some d => Nat.blt d N | none => false)) &&
  (ops.drop n0).all (fun o => dstLt N o.dst) &&
  decide (((ops.take n0).map (·.dst)).Nodup) &&
  ((List.range ops.length).all fun t => match ops[t]? with | some o => o.after.all fun e => !(Region.binds .any e) || Nat.blt e.on t | none => true)
def dstAt (ops : List Oper) (i : Nat) : Nat := ((ops[i]?).bind (·.dst)).getD 0
end
end Go.Pw
/-
  My walk's base, part 2: what memory holds: a heap that stays (known, never written), data that are read off it, and what the call owns.
-/
namespace Go.Pw
/-! ### The heap that stays -/
abbrev PHeap := Nat → Option Obj
def PHeap.le (s t : PHeap) : Prop := ∀ b o, s b = some o → t b = some o
theorem Zv (s : PHeap) : PHeap.le s s := fun _ _ h => h
theorem PHeap.le.trans {s t u : PHeap} (h : PHeap.le s t) (k : PHeap.le t u) : PHeap.le s u := fun b o hb => k b o (h b o hb)
theorem Zt {s t u : PHeap} (h : PHeap.le s t) (k : PHeap.le t u) : PHeap.le s u := h.trans k
/-! ### How data lie in cells -/
structure Enc (α : Type) where
  agg : Bool
  sz : Nat
  pos : 0 < sz
  rep : PHeap → List Value → α → Prop
  len : ∀ {s cs a}, rep s cs a → cs.length = sz
  one : ∀ {s cs a}, rep s cs a → ∀ v ∈ cs, v.oneCell' = true
  mono : ∀ {s t cs a}, PHeap.le s t → rep s cs a → rep t cs a
  single : agg = false → sz = 1
/-- A value stands for a datum. -/
def Enc.val {α : Type} (E : Enc α) (s : PHeap) (v : Value) (a : α) : Prop := if E.agg then ∃ cs, v = .agg cs ∧ E.rep s cs.toList a else E.rep s [v] a
theorem Enc.val_mono {α : Type} {E : Enc α} {s t : PHeap} {v : Value} {a : α} (h : E.val s v a) (l : PHeap.le s t) : E.val t v a := by
  unfold Enc.val at *
  split
  · rename_i hg; rw [if_pos hg] at h; exact let ⟨cs, hv, hr⟩ := h; ⟨cs, hv, E.mono l hr⟩
  · rename_i hg; rw [if_neg hg] at h; exact E.mono l h
theorem Enc.val_cells {α : Type} {E : Enc α} {s : PHeap} {v : Value} {a : α} (h : E.val s v a) : E.rep s v.cells.toList a := by
  unfold Enc.val at h
  split at h
  · obtain ⟨cs, rfl, hr⟩ := h; exact hr
  · rename_i hg
    have h1 := E.one h v (by simp)
    have : v.cells = #[v] := by cases v <;> simp_all [Value.cells, Value.oneCell']
    rw [this]; exact h
def oneCell {α : Type} (f : α → Value) (h : ∀ a, (f a).oneCell' = true) : Enc α where
  agg := false
  sz := 1
  pos := by decide
  rep := fun _ cs a => cs = [f a]
  len := by rintro s cs a rfl; rfl
  one := by rintro s cs a rfl v hv; simp at hv; subst hv; exact h a
  mono := fun _ h => h
  single := fun _ => rfl
def encInt (k : IntKind) : Enc Int := oneCell (.int k) (fun _ => rfl)
def encBool : Enc Bool := oneCell .bool (fun _ => rfl)
def encStr : Enc ByteArray := oneCell .string (fun _ => rfl)
/-- An error that is nil or a code (T: the codes' type). -/
def errV (T : TypeId) : Option Int → Value
  | none => .nilIface
  | some n => .iface T (.int .i64 n)
/-- A value of one cell, as it is. -/
def encRaw : Enc Value where
  agg := false
  sz := 1
  pos := by decide
  rep := fun _ cs a => cs = [a] ∧ a.oneCell' = true
  len := by rintro s cs a ⟨rfl, _⟩; rfl
  one := by rintro s cs a ⟨rfl, h⟩ v hv; simp at hv; subst hv; exact h
  mono := fun _ h => h
  single := fun _ => rfl
theorem oneCell_val {α : Type} {f : α → Value} {h : ∀ a, (f a).oneCell' = true} {s : PHeap} {v : Value} {a : α} : (oneCell f h).val s v a ↔ v = f a := by
  simp [Enc.val, oneCell]
theorem encInt_val {k : IntKind} {s : PHeap} {v : Value} {a : Int} : (encInt k).val s v a ↔ v = .int k a := oneCell_val
theorem encStr_val {s : PHeap} {v : Value} {a : ByteArray} : encStr.val s v a ↔ v = .string a := oneCell_val
/-- Two data side by side. -/
def Enc.pair {α β : Type} (A : Enc α) (B : Enc β) : Enc (α × β) where
  agg := true
  sz := A.sz + B.sz
  pos := Nat.add_pos_left A.pos _
  rep := fun s cs p => ∃ c1 c2, cs = c1 ++ c2 ∧ A.rep s c1 p.1 ∧ B.rep s c2 p.2
  len := by rintro s cs p ⟨c1, c2, rfl, h1, h2⟩; simp [A.len h1, B.len h2]
  one := by rintro s cs p ⟨c1, c2, rfl, h1, h2⟩ v hv; rcases List.mem_append.1 hv with h | h; exact A.one h1 v h; exact B.one h2 v h
  mono := fun l ⟨c1, c2, e, h1, h2⟩ => ⟨c1, c2, e, A.mono l h1, B.mono l h2⟩
  single := by intro h; cases h
/-- A struct, by the data of its fields. -/
def Enc.iso {α β : Type} (A : Enc α) (f : β → α) : Enc β where
  agg := true
  sz := A.sz
  pos := A.pos
  rep := fun s cs b => A.rep s cs (f b)
  len := A.len
  one := A.one
  mono := A.mono
  single := by intro h; cases h
/-! ### Rows of data -/
def reps {α : Type} (E : Enc α) (s : PHeap) : List Value → List α → Prop
  | cs, [] => cs = []
  | cs, x :: xs => ∃ c r, cs = c ++ r ∧ E.rep s c x ∧ reps E s r xs
section
variable {α : Type} {E : Enc α} {s t : PHeap}
theorem reps.mono (l : PHeap.le s t) : ∀ {xs : List α} {cs : List Value}, reps E s cs xs → reps E t cs xs
  | [], _, h => h
  | _ :: _, _, ⟨c, r, e, h1, h2⟩ => ⟨c, r, e, E.mono l h1, reps.mono l h2⟩
theorem reps.len : ∀ {xs : List α} {cs : List Value}, reps E s cs xs → cs.length = xs.length * E.sz
  | [], _, h => by cases h; simp
  | x :: xs, _, ⟨c, r, e, h1, h2⟩ => by
    subst e
    simp only [List.length_append, List.length_cons, E.len h1, reps.len h2, Nat.add_mul, Nat.one_mul]
    omega
theorem reps.one : ∀ {xs : List α} {cs : List Value}, reps E s cs xs → ∀ v ∈ cs, v.oneCell' = true
  | [], _, h => by cases h; simp
  | x :: xs, _, ⟨c, r, e, h1, h2⟩ => by
    subst e
    intro v hv
    rcases List.mem_append.1 hv with h | h
    · exact E.one h1 v h
    · exact reps.one h2 v h
theorem reps.append : ∀ {xs ys : List α} {cs ds : List Value}, reps E s cs xs → reps E s ds ys → reps E s (cs ++ ds) (xs ++ ys)
  | [], _, _, _, h, k => by cases h; exact k
  | x :: xs, _, _, _, ⟨c, r, e, h1, h2⟩, k => ⟨c, r ++ _, by rw [e, List.append_assoc], h1, reps.append h2 k⟩
theorem reps.get : ∀ {xs : List α} {cs : List Value} {i : Nat} {x : α}, reps E s cs xs → xs[i]? = some x → ∃ c, E.rep s c x ∧ (cs.drop (i * E.sz)).take E.sz = c
  | [], _, _, _, _, hx => by simp at hx
  | y :: ys, _, 0, x, ⟨c, r, e, h1, h2⟩, hx => by
    simp at hx
    subst hx; subst e
    exact ⟨c, h1, by rw [Nat.zero_mul, List.drop_zero, ← E.len h1, List.take_left]⟩
  | y :: ys, _, i + 1, x, ⟨c, r, e, h1, h2⟩, hx => by
    simp at hx
    obtain ⟨d, hd, hr⟩ := reps.get h2 hx
    subst e
    refine ⟨d, hd, ?_⟩
    rw [← hr, Nat.add_mul, Nat.one_mul, Nat.add_comm (i * E.sz), ← List.drop_drop, ← E.len h1, List.drop_left]
theorem reps.set : ∀ {xs : List α} {cs : List Value} {i : Nat} {c : List Value} {x : α}, reps E s cs xs → i < xs.length → E.rep s c x →
    reps E s (cs.take (i * E.sz) ++ c ++ cs.drop (i * E.sz + E.sz)) (xs.set i x)
  | [], _, _, _, _, _, hi, _ => by simp at hi
  | y :: ys, _, 0, c, x, ⟨c1, r, e, h1, h2⟩, _, hc => by
    subst e
    refine ⟨c, r, ?_, hc, h2⟩
    simp only [Nat.zero_mul, List.take_zero, List.nil_append, Nat.zero_add]
    rw [← E.len h1, List.drop_left]
  | y :: ys, _, i + 1, c, x, ⟨c1, r, e, h1, h2⟩, hi, hc => by
    subst e
    refine ⟨c1, _, ?_, h1, reps.set h2 (by simpa using hi) hc⟩
    rw [show (i + 1) * E.sz = c1.length + i * E.sz by rw [E.len h1, Nat.add_mul]; omega, Nat.add_assoc, List.take_length_add_append, List.drop_length_add_append, List.append_assoc, List.append_assoc, List.append_assoc]
theorem reps.take : ∀ {xs : List α} {cs : List Value} (n : Nat), reps E s cs xs → reps E s (cs.take (n * E.sz)) (xs.take n)
  | [], _, n, h => by cases h; simp [reps]
  | x :: xs, _, 0, _ => by simp [reps]
  | x :: xs, _, n + 1, ⟨c, r, e, h1, h2⟩ => by
    subst e
    refine ⟨c, r.take (n * E.sz), ?_, h1, reps.take n h2⟩
    rw [show (n + 1) * E.sz = c.length + n * E.sz by rw [E.len h1, Nat.add_mul]; omega, List.take_length_add_append]
theorem reps.drop : ∀ {xs : List α} {cs : List Value} (n : Nat), reps E s cs xs → reps E s (cs.drop (n * E.sz)) (xs.drop n)
  | [], _, n, h => by cases h; simp [reps]
  | x :: xs, _, 0, h => by simpa using h
  | x :: xs, _, n + 1, ⟨c, r, e, h1, h2⟩ => by
    subst e
    rw [show (n + 1) * E.sz = c.length + n * E.sz by rw [E.len h1, Nat.add_mul]; omega, List.drop_length_add_append]
    exact reps.drop n h2
end
/-- A slice value that reads as a list, off the heap that stays. -/
def SliceRep {α : Type} (E : Enc α) (s : PHeap) (v : Value) (xs : List α) : Prop :=
  (v = .slice none 0 0 ∧ xs = []) ∨ (∃ (a : Addr) (cap : Nat), v = .slice (some a) 0 cap ∧ xs = []) ∨
  ∃ (b off cap : Nat) (c : Array Value) (T : TypeId) (fz : Nat × Nat) (cells : List Value), v = .slice (some ⟨b, off, none⟩) xs.length cap ∧ xs.length ≤ cap ∧ cap ≤ maxLen ∧
    s b = some (.cells c T fz) ∧ (c.toList.drop off).take cells.length = cells ∧ reps E s cells xs
theorem SliceRep.mono {α : Type} {E : Enc α} {s t : PHeap} {v : Value} {xs : List α} (l : PHeap.le s t) (h : SliceRep E s v xs) : SliceRep E t v xs := by
  rcases h with h | h | ⟨b, off, cap, c, T, fz, cells, hv, h1, h2, h3, h4, h5⟩
  · exact .inl h
  · exact .inr (.inl h)
  · exact .inr (.inr ⟨b, off, cap, c, T, fz, cells, hv, h1, h2, l _ _ h3, h4, h5.mono l⟩)
def encSlice {α : Type} (E : Enc α) : Enc (List α) where
  agg := false
  sz := 1
  pos := by decide
  rep := fun s cs xs => ∃ v, cs = [v] ∧ SliceRep E s v xs
  len := by rintro s cs xs ⟨v, rfl, _⟩; rfl
  one := by
    rintro s cs xs ⟨v, rfl, h⟩ u hu
    simp at hu; subst hu
    rcases h with ⟨rfl, _⟩ | ⟨a, cap, rfl, _⟩ | ⟨b, off, cap, c, T, fz, cells, rfl, _⟩ <;> rfl
  mono := fun l ⟨v, e, h⟩ => ⟨v, e, h.mono l⟩
  single := fun _ => rfl
theorem encSlice_val {α : Type} {E : Enc α} {s : PHeap} {v : Value} {xs : List α} : (encSlice E).val s v xs ↔ SliceRep E s v xs := by
  simp [Enc.val, encSlice]
/-- An array of fixed length, in cells. -/
def encArr {α : Type} (n : Nat) (hn : 0 < n) (E : Enc α) : Enc (List α) where
  agg := true
  sz := n * E.sz
  pos := Nat.mul_pos hn E.pos
  rep := fun s cs xs => xs.length = n ∧ reps E s cs xs
  len := by rintro s cs xs ⟨rfl, h⟩; exact h.len
  one := fun ⟨_, h⟩ => h.one
  mono := fun l ⟨e, h⟩ => ⟨e, h.mono l⟩
  single := by intro h; cases h
/-! ### What the call owns -/
structure Res where
  p : PHeap → World → List Nat → Prop
  loc : ∀ {s w w' bs}, p s w bs → (∀ b ∈ bs, w'.heap[b]? = w.heap[b]?) → p s w' bs
  mono : ∀ {s t w bs}, PHeap.le s t → p s w bs → p t w bs
  lt : ∀ {s w bs}, p s w bs → ∀ b ∈ bs, b < w.heap.size
/-- A block of cells, known whole. -/
def Res.box (b : Nat) (T : TypeId) (cs : List Value) : Res where
  p := fun _ w bs => bs = [b] ∧ w.heap[b]? = some (.cells cs.toArray T (0, 0))
  loc := by rintro s w w' bs ⟨rfl, h⟩ hw; exact ⟨rfl, by rw [hw b (by simp)]; exact h⟩
  mono := fun _ h => h
  lt := by rintro s w bs ⟨rfl, h⟩ b' hb; simp at hb; subst hb; exact (Array.getElem?_eq_some_iff.1 h).1
/-- A slice that the call has made, nil or at the head of a row of its own. -/
def Res.arr {α : Type} (E : Enc α) (T : TypeId) (v : Value) (xs : List α) : Res where
  p := fun s w bs => ∃ cells, reps E s cells xs ∧ w.ownsRow 0 T E.sz v xs.length cells ∧ bs = v.ownBlock.toList
  loc := by
    rintro s w w' bs ⟨cells, h1, ⟨h2, h3⟩, rfl⟩ hw
    refine ⟨cells, h1, ⟨h2, ?_⟩, rfl⟩
    rcases h3 with h | ⟨g, cap, cur, rfl, hb, hg, r⟩
    · exact .inl h
    · exact .inr ⟨g, cap, cur, rfl, hb, by rw [hw g (by simp [Value.ownBlock])]; exact hg, r⟩
  mono := fun l ⟨cells, h1, h⟩ => ⟨cells, h1.mono l, h⟩
  lt := by
    rintro s w bs ⟨cells, h1, h2, rfl⟩ b hb
    exact (h2.lt b (by simpa using hb)).2
/-- Rows of the call's own, under the headers that lie elsewhere. -/
def rowsP {α : Type} (E : Enc α) (T : TypeId) (s : PHeap) (w : World) : List Value → List (List α) → List Nat → Prop
  | [], [], bs => bs = []
  | h :: hs, xs :: xss, bs => ∃ b1 b2, bs = b1 ++ b2 ∧ (Res.arr E T h xs).p s w b1 ∧ rowsP E T s w hs xss b2
  | _, _, _ => False
theorem rowsP.loc {α : Type} {E : Enc α} {T : TypeId} {s : PHeap} {w w' : World} : ∀ {hs : List Value} {xss : List (List α)} {bs : List Nat}, rowsP E T s w hs xss bs → (∀ b ∈ bs, w'.heap[b]? = w.heap[b]?) → rowsP E T s w' hs xss bs
  | [], [], _, h, _ => h
  | _ :: _, _ :: _, _, ⟨b1, b2, e, h1, h2⟩, hw => by
    subst e
    exact ⟨b1, b2, rfl, (Res.arr E T _ _).loc h1 (fun b hb => hw b (List.mem_append_left _ hb)), rowsP.loc h2 (fun b hb => hw b (List.mem_append_right _ hb))⟩
  | [], _ :: _, _, h, _ => h.elim
  | _ :: _, [], _, h, _ => h.elim
theorem rowsP.mono {α : Type} {E : Enc α} {T : TypeId} {s t : PHeap} {w : World} (l : PHeap.le s t) : ∀ {hs : List Value} {xss : List (List α)} {bs : List Nat}, rowsP E T s w hs xss bs → rowsP E T t w hs xss bs
  | [], [], _, h => h
  | _ :: _, _ :: _, _, ⟨b1, b2, e, h1, h2⟩ => ⟨b1, b2, e, (Res.arr E T _ _).mono l h1, rowsP.mono l h2⟩
  | [], _ :: _, _, h => h.elim
  | _ :: _, [], _, h => h.elim
theorem rowsP.lt {α : Type} {E : Enc α} {T : TypeId} {s : PHeap} {w : World} : ∀ {hs : List Value} {xss : List (List α)} {bs : List Nat}, rowsP E T s w hs xss bs → ∀ b ∈ bs, b < w.heap.size
  | [], [], _, h, b, hb => by cases h; simp at hb
  | _ :: _, _ :: _, _, ⟨b1, b2, e, h1, h2⟩, b, hb => by
    subst e
    rcases List.mem_append.1 hb with h | h
    · exact (Res.arr E T _ _).lt h1 b h
    · exact rowsP.lt h2 b h
  | [], _ :: _, _, h, _, _ => h.elim
  | _ :: _, [], _, h, _, _ => h.elim
theorem rowsP.length {α : Type} {E : Enc α} {T : TypeId} {s : PHeap} {w : World} : ∀ {hs : List Value} {xss : List (List α)} {bs : List Nat}, rowsP E T s w hs xss bs → hs.length = xss.length
  | [], [], _, _ => rfl
  | _ :: _, _ :: _, _, ⟨_, _, _, _, h2⟩ => by simp [rowsP.length h2]
  | [], _ :: _, _, h => h.elim
  | _ :: _, [], _, h => h.elim
def Res.rows {α : Type} (E : Enc α) (T : TypeId) (hs : List Value) (xss : List (List α)) : Res where
  p := fun s w bs => rowsP E T s w hs xss bs
  loc := rowsP.loc
  mono := fun l h => rowsP.mono l h
  lt := rowsP.lt
def seps (s : PHeap) (w : World) : List Res → List Nat → Prop
  | [], bs => bs = []
  | R :: H, bs => ∃ b1 b2, bs = b1 ++ b2 ∧ R.p s w b1 ∧ seps s w H b2
theorem seps.loc {s : PHeap} {w w' : World} : ∀ {H : List Res} {bs : List Nat}, seps s w H bs → (∀ b ∈ bs, w'.heap[b]? = w.heap[b]?) → seps s w' H bs
  | [], _, h, _ => h
  | R :: _, _, ⟨b1, b2, e, h1, h2⟩, hw => by
    subst e
    exact ⟨b1, b2, rfl, R.loc h1 (fun b hb => hw b (List.mem_append_left _ hb)), seps.loc h2 (fun b hb => hw b (List.mem_append_right _ hb))⟩
theorem seps.mono {s t : PHeap} {w : World} (l : PHeap.le s t) : ∀ {H : List Res} {bs : List Nat}, seps s w H bs → seps t w H bs
  | [], _, h => h
  | R :: _, _, ⟨b1, b2, e, h1, h2⟩ => ⟨b1, b2, e, R.mono l h1, seps.mono l h2⟩
theorem seps.lt {s : PHeap} {w : World} : ∀ {H : List Res} {bs : List Nat}, seps s w H bs → ∀ b ∈ bs, b < w.heap.size
  | [], _, h, b, hb => by cases h; simp at hb
  | R :: _, _, ⟨b1, b2, e, h1, h2⟩, b, hb => by
    subst e
    rcases List.mem_append.1 hb with h | h
    · exact R.lt h1 b h
    · exact seps.lt h2 b h
theorem seps.perm {s : PHeap} {w : World} {H H' : List Res} (hp : H.Perm H') : ∀ {bs : List Nat}, seps s w H bs → ∃ bs', bs.Perm bs' ∧ seps s w H' bs' := by
  induction hp with
  | nil => exact fun h => ⟨_, .refl _, h⟩
  | cons R _ ih =>
    rintro bs ⟨b1, b2, e, h1, h2⟩
    obtain ⟨b2', hp', h2'⟩ := ih h2
    subst e
    exact ⟨b1 ++ b2', List.Perm.append_left _ hp', b1, b2', rfl, h1, h2'⟩
  | swap R R' H =>
    rintro bs ⟨b1, b2, e, h1, c1, c2, e2, h2, h3⟩
    subst e; subst e2
    refine ⟨c1 ++ (b1 ++ c2), ?_, c1, b1 ++ c2, rfl, h2, b1, c2, rfl, h1, h3⟩
    rw [← List.append_assoc, ← List.append_assoc]
    exact List.Perm.append_right _ List.perm_append_comm
  | trans _ _ ih1 ih2 =>
    intro bs h
    obtain ⟨bs1, p1, h1⟩ := ih1 h
    obtain ⟨bs2, p2, h2⟩ := ih2 h1
    exact ⟨bs2, p1.trans p2, h2⟩
/-- The state of the walk: since the world w0; the heap that stays; what is owned. -/
structure St (w0 : World) (s : PHeap) (H : List Res) (w : World) : Prop where
  os : w.os = w0.os
  tape : w.tape = w0.tape
  output : w.output = w0.output
  drawn : w0.drawn ≤ w.drawn
  size : w0.heap.size ≤ w.heap.size
  stay : ∀ b o, s b = some o → w.heap[b]? = some o
  own : ∃ bs, bs.Nodup ∧ (∀ b ∈ bs, s b = none) ∧ seps s w H bs
section
variable {w0 w w' : World} {s t : PHeap} {H H' : List Res} {R : Res}
theorem St.perm (h : St w0 s H w) (hp : H.Perm H') : St w0 s H' w := by
  obtain ⟨bs, hn, hs, hb⟩ := h.own
  obtain ⟨bs', p', h'⟩ := hb.perm hp
  exact ⟨h.os, h.tape, h.output, h.drawn, h.size, h.stay, bs', p'.nodup_iff.1 hn, fun b hm => hs b (p'.mem_iff.2 hm), h'⟩
theorem St.drop (h : St w0 s (R :: H) w) : St w0 s H w := by
  obtain ⟨bs, hn, hs, b1, b2, e, h1, h2⟩ := h.own
  subst e
  exact ⟨h.os, h.tape, h.output, h.drawn, h.size, h.stay, b2, (List.nodup_append.1 hn).2.1, fun b hm => hs b (List.mem_append_right _ hm), h2⟩
theorem St.drew (h : St w0 s H w) : St w0 s H w.drew :=
  ⟨h.os, h.tape, h.output, Nat.le_succ_of_le h.drawn, h.size, h.stay, let ⟨bs, hn, hs, hb⟩ := h.own; ⟨bs, hn, hs, hb.loc fun _ _ => rfl⟩⟩
/-- No block that stays is a new one. -/
theorem St.new (h : St w0 s H w) : s w.heap.size = none := by
  cases e : s w.heap.size with
  | none => rfl
  | some o => have := h.stay _ _ e; simp at this
theorem heap_push_lt (w : World) (o : Obj) {b : Nat} (h : b < w.heap.size) : (w.alloc o).heap[b]? = w.heap[b]? := heap_alloc_old w o h
/-- A new block, owned. -/
theorem St.alloc (h : St w0 s H w) (T : TypeId) (cs : List Value) : St w0 s (.box w.heap.size T cs :: H) (w.alloc (.cells cs.toArray T)) := by
  obtain ⟨bs, hn, hs, hb⟩ := h.own
  have hlt := hb.lt
  refine ⟨h.os, h.tape, h.output, h.drawn, Nat.le_trans h.size (by simp), fun b o hbo => ?_, w.heap.size :: bs, List.nodup_cons.2 ⟨fun hm => Nat.lt_irrefl _ (hlt _ hm), hn⟩, ?_, [w.heap.size], bs, rfl, ⟨rfl, heap_alloc_new w _⟩, hb.loc fun b hm => heap_push_lt w _ (hlt b hm)⟩
  · have := h.stay b o hbo
    rw [heap_push_lt w _ (Array.getElem?_eq_some_iff.1 this).1]
    exact this
  · intro b hm
    rcases List.mem_cons.1 hm with e | hm
    · subst e; exact h.new
    · exact hs b hm
/-- The one step by which an owned thing turns: other blocks that it may have in the end are new; all else is as it was. -/
theorem St.turn {R' : Res} (h : St w0 s (R :: H) w) (hos : w'.os = w.os) (htape : w'.tape = w.tape) (hout : w'.output = w.output) (hdr : w.drawn ≤ w'.drawn) (hsize : w.heap.size ≤ w'.heap.size)
    (hk : ∀ b1, R.p s w b1 → ∃ b1', R'.p s w' b1' ∧ b1'.Nodup ∧ (∀ b ∈ b1', b ∈ b1 ∨ w.heap.size ≤ b) ∧ ∀ b, b < w.heap.size → b ∉ b1 → w'.heap[b]? = w.heap[b]?) : St w0 s (R' :: H) w' := by
  obtain ⟨bs, hn, hs, b1, b2, e, h1, h2⟩ := h.own
  subst e
  obtain ⟨b1', r1, r2, r3, r4⟩ := hk b1 h1
  have hlt2 := h2.lt
  obtain ⟨n1, n2, n3⟩ := List.nodup_append.1 hn
  refine ⟨hos.trans h.os, htape.trans h.tape, hout.trans h.output, Nat.le_trans h.drawn hdr, Nat.le_trans h.size hsize, fun b o hbo => ?_, b1' ++ b2, List.nodup_append.2 ⟨r2, n2, ?_⟩, ?_, b1', b2, rfl, r1, h2.loc fun b hm => ?_⟩
  · have hw := h.stay b o hbo
    rw [r4 b (Array.getElem?_eq_some_iff.1 hw).1 (fun hm => by have := hs b (List.mem_append_left _ hm); rw [this] at hbo; cases hbo)]
    exact hw
  · intro a ha b hb e
    subst e
    rcases r3 a ha with hm | hm
    · exact n3 a hm a hb rfl
    · have := hlt2 a hb; omega
  · intro b hm
    rcases List.mem_append.1 hm with hm | hm
    · rcases r3 b hm with hm | hm
      · exact hs b (List.mem_append_left _ hm)
      · cases e : s b with
        | none => rfl
        | some o => have := (Array.getElem?_eq_some_iff.1 (h.stay _ _ e)).1; omega
    · exact hs b (List.mem_append_right _ hm)
  · exact r4 b (hlt2 b hm) (fun hm' => n3 b hm' b hm rfl)
/-- What is owned is given to the heap that stays. -/
theorem St.freezeWith (h : St w0 s (R :: H) w) : ∃ (bs : List Nat) (t : PHeap), R.p s w bs ∧ PHeap.le s t ∧ (∀ b ∈ bs, t b = w.heap[b]?) ∧ St w0 t H w := by
  classical
  obtain ⟨bs, hn, hs, b1, b2, e, h1, h2⟩ := h.own
  subst e
  obtain ⟨n1, n2, n3⟩ := List.nodup_append.1 hn
  let t : PHeap := fun b => if b ∈ b1 then w.heap[b]? else s b
  have hle : PHeap.le s t := by
    intro b o hb
    have : b ∉ b1 := fun hm => by have := hs b (List.mem_append_left _ hm); rw [this] at hb; cases hb
    simp [t, this, hb]
  refine ⟨b1, t, h1, hle, fun b hb => by simp [t, hb], h.os, h.tape, h.output, h.drawn, h.size, ?_, b2, n2, ?_, h2.mono hle⟩
  · intro b o hb
    simp only [t] at hb
    split at hb
    · exact hb
    · exact h.stay b o hb
  · intro b hb
    have : b ∉ b1 := fun hm => n3 b hm b hb rfl
    simp only [t, if_neg this]
    exact hs b (List.mem_append_right _ hb)
end
end Go.Pw
/-
  My walk's base, part 3: what each kind of operation does (no memory owned): arithmetic, tests, calls, results.
-/
set_option linter.unusedSimpArgs false
namespace Go.Pw
section
variable {P : Program} {ρ : Operand → Value} {o : Oper} {w : World} {K : Value → World → Prop}
theorem Zm {x : Operand} {v : Value} (ho : o.op = .move x) (hv : ρ x = v) (hk : K v w) : Exec P ρ o w K :=
  .of_run (v := v) (by simp [execOp, ho, hv, go_sem]) hk
theorem Zo {x : Operand} {v : Value} (ho : o.op = .assign x) (hv : ρ x = v) (hk : K v w) : Exec P ρ o w K :=
  .of_run (v := v) (by simp [execOp, ho, hv, go_sem]) hk
theorem Zs {c a b : Operand} {v : Value} (ho : o.op = .pick c a b) (hc : ρ c = .bool true) (hv : ρ a = v) (hk : K v w) : Exec P ρ o w K :=
  .of_run (v := v) (by simp [execOp, ho, hc, hv, go_sem, asBool]) hk
theorem Exec.pick_f {c a b : Operand} {v : Value} (ho : o.op = .pick c a b) (hc : ρ c = .bool false) (hv : ρ b = v) (hk : K v w) : Exec P ρ o w K :=
  .of_run (v := v) (by simp [execOp, ho, hc, hv, go_sem, asBool]) hk
theorem exec_bin {op : BinOp} {T T' : TypeId} {x y : Operand} {a b v : Value} (ho : o.op = .binOp op T x y T') (hx : ρ x = a) (hy : ρ y = b) (hg : (eqGuard op T x y a b).run P w = .ok () w) (h : (binOp op T a b).run P w = .ok v w) (hk : K v w) : Exec P ρ o w K := by
  refine .of_run (v := v) ?_ hk
  unfold execOp
  simp only [ho, hx, hy, Sem.run_bind, hg, Result.andThen_ok, h, Sem.run_pure]
theorem int_beq (a b : Int) : (a == b) = decide (a = b) := by
  by_cases h : a = b
  · subst h; simp
  · simp [h]
section ints
variable {T T' : TypeId} {x y : Operand} {k : IntKind} {a b : Int}
theorem run_bin {op : BinOp} {v : Value} (ho : o.op = .binOp op T x y T') (hx : ρ x = .int k a) (hy : ρ y = .int k b) (h : (binOp op T (.int k a) (.int k b)).run P w = .ok v w) : (execOp ρ o).run P w = .ok (.value v) w := by
  have hg : (eqGuard op T x y (.int k a) (.int k b)).run P w = .ok () w := by cases op <;> simp [eqGuard, go_sem]
  unfold execOp
  simp only [ho, hx, hy, Sem.run_bind, hg, Result.andThen_ok, h, Sem.run_pure]
theorem Zq (ho : o.op = .binOp .lss T x y T') (hx : ρ x = .int k a) (hy : ρ y = .int k b) (hk : K (.bool (decide (a < b))) w) : Exec P ρ o w K :=
  .of_run (run_bin ho hx hy (by simp [binOp, go_sem])) hk
theorem Exec.leq (ho : o.op = .binOp .leq T x y T') (hx : ρ x = .int k a) (hy : ρ y = .int k b) (hk : K (.bool (decide (a ≤ b))) w) : Exec P ρ o w K :=
  .of_run (run_bin ho hx hy (by simp [binOp, go_sem])) hk
theorem Exec.gtr (ho : o.op = .binOp .gtr T x y T') (hx : ρ x = .int k a) (hy : ρ y = .int k b) (hk : K (.bool (decide (b < a))) w) : Exec P ρ o w K :=
  .of_run (run_bin ho hx hy (by simp [binOp, go_sem])) hk
theorem Exec.geq (ho : o.op = .binOp .geq T x y T') (hx : ρ x = .int k a) (hy : ρ y = .int k b) (hk : K (.bool (decide (b ≤ a))) w) : Exec P ρ o w K :=
  .of_run (run_bin ho hx hy (by simp [binOp, go_sem])) hk
theorem Exec.eql (ho : o.op = .binOp .eql T x y T') (hx : ρ x = .int k a) (hy : ρ y = .int k b) (hk : K (.bool (decide (a = b))) w) : Exec P ρ o w K :=
  .of_run (run_bin ho hx hy (by simp [binOp, go_sem]; exact int_beq a b)) hk
theorem Exec.neq (ho : o.op = .binOp .neq T x y T') (hx : ρ x = .int k a) (hy : ρ y = .int k b) (hk : K (.bool (!decide (a = b))) w) : Exec P ρ o w K :=
  .of_run (run_bin ho hx hy (by simp [binOp, go_sem]; show (!(a == b)) = _; rw [int_beq])) hk
theorem Exec.add (ho : o.op = .binOp .add T x y T') (hx : ρ x = .int k a) (hy : ρ y = .int k b) (hk : K (.int k (k.wrap (a + b))) w) : Exec P ρ o w K :=
  .of_run (run_bin ho hx hy (by simp [binOp, go_sem])) hk
theorem Exec.sub (ho : o.op = .binOp .sub T x y T') (hx : ρ x = .int k a) (hy : ρ y = .int k b) (hk : K (.int k (k.wrap (a - b))) w) : Exec P ρ o w K :=
  .of_run (run_bin ho hx hy (by simp [binOp, go_sem])) hk
theorem Exec.neg (ho : o.op = .unOp .neg T x) (hx : ρ x = .int k a) (hk : K (.int k (k.wrap (0 - a))) w) : Exec P ρ o w K :=
  .of_run (by unfold execOp; simp only [ho, hx]; rfl) hk
end ints
theorem Exec.not {T : TypeId} {x : Operand} {b : Bool} (ho : o.op = .unOp .not T x) (hx : ρ x = .bool b) (hk : K (.bool (!b)) w) : Exec P ρ o w K :=
  .of_run (by unfold execOp; simp only [ho, hx]; rfl) hk
section strs
variable {T T' : TypeId} {x y : Operand} {a b : ByteArray}
theorem str_beq (a b : ByteArray) : (a.toList == b.toList) = decide (a = b) := by
  rw [ByteArray.toList_eq, ByteArray.toList_eq]
  by_cases h : a = b
  · subst h; simp
  · have : a.data.toList ≠ b.data.toList := fun e => h (by obtain ⟨⟨x⟩⟩ := a; obtain ⟨⟨y⟩⟩ := b; simp at e; rw [e])
    rw [decide_eq_false h]; exact beq_eq_false_iff_ne.2 this
theorem Exec.str_eql (ho : o.op = .binOp .eql T x y T') (hx : ρ x = .string a) (hy : ρ y = .string b) (hk : K (.bool (decide (a = b))) w) : Exec P ρ o w K :=
  exec_bin (op := .eql) (a := .string a) (b := .string b) ho hx hy (by simp [eqGuard]) (by rw [← str_beq]; simp [go_sem]) hk
theorem Exec.str_neq (ho : o.op = .binOp .neq T x y T') (hx : ρ x = .string a) (hy : ρ y = .string b) (hk : K (.bool (!decide (a = b))) w) : Exec P ρ o w K :=
  exec_bin (op := .neq) (a := .string a) (b := .string b) ho hx hy (by simp [eqGuard]) (by rw [← str_beq]; simp [go_sem]) hk
end strs
section bools
variable {T T' : TypeId} {x y : Operand} {a b : Bool}
end bools
section ptr
variable {T T' E : TypeId} {x y : Operand}
theorem Exec.ptr_eql_nil {p : Option Addr} (hT : P.underlying T = some (.pointer E)) (ho : o.op = .binOp .eql T x (.const (.pointer none)) T') (hx : ρ x = .pointer p) (hc : ρ (.const (.pointer none)) = .pointer none) (hk : K (.bool p.isNone) w) : Exec P ρ o w K := by
  refine .of_run ?_ hk
  have hp : P.pointee T = E := by simp [Program.pointee, hT]
  simp [execOp, ho, hx, hc, eqGuard, go_sem, run_eql_pointer_nil (P := P) w T p (by rw [hp]; exact hT)]
end ptr
section slc
variable {T T' E : TypeId} {x y : Operand} {a : Option Addr} {n c : Nat}
theorem run_equalIn_slice_nil (w : World) (d : Nat) (t e : TypeId) (a : Option Addr) (n c n' c' : Nat) (h : P.underlying t = some (.slice e)) :
    (Op.equalIn (d + 1) t (.slice a n c) (.slice none n' c')).run P w = .ok a.isNone w := by
  cases a <;> simp [Op.equalIn, run_underlying h]
theorem run_equal_slice_nil (w : World) (t e : TypeId) (a : Option Addr) (n c n' c' : Nat) (h : P.underlying t = some (.slice e)) :
    (Op.equal t (.slice a n c) (.slice none n' c')).run P w = .ok a.isNone w := run_equalIn_slice_nil w 9999 t e a n c n' c' h
theorem Exec.slice_eql_nil (hT : P.underlying T = some (.slice E)) (ho : o.op = .binOp .eql T x (.const (.slice none 0 0)) T') (hx : ρ x = .slice a n c) (hc : ρ (.const (.slice none 0 0)) = .slice none 0 0) (hk : K (.bool a.isNone) w) : Exec P ρ o w K :=
  exec_bin (op := .eql) (a := .slice a n c) (b := .slice none 0 0) ho hx hc (by simp [eqGuard]) (by simp only [binOp]; simp [run_equal_slice_nil w T E a n c 0 0 hT]) hk
theorem Exec.len_slice (hT : P.underlying T = some (.slice E)) (ho : o.op = .call { callee := .builtin .len, args := #[x], argTypes := #[T] }) (hx : ρ x = .slice a n c) (hk : K (.int .i64 (n : Int)) w) : Exec P ρ o w K := by
  refine .of_run ?_ hk
  simp [execOp, ho, hx, resolve, invoke, builtin, go_sem, Builtin.len_, run_underlying hT, goInt]
theorem Exec.len_str {s : ByteArray} (hT : P.underlying T = some .string) (ho : o.op = .call { callee := .builtin .len, args := #[x], argTypes := #[T] }) (hx : ρ x = .string s) (hk : K (.int .i64 (s.size : Int)) w) : Exec P ρ o w K := by
  refine .of_run ?_ hk
  simp [execOp, ho, hx, resolve, invoke, builtin, go_sem, Builtin.len_, run_underlying hT, goInt]
end slc
theorem Exec.convert_int {S T : TypeId} {x : Operand} {k k' : IntKind} {n : Int} (hS : (P.underlying S).isSome = true) (hT : P.underlying T = some (.int k)) (ho : o.op = .convert S T x) (hx : ρ x = .int k' n) (hk : K (.int k (k.wrap n)) w) : Exec P ρ o w K := by
  refine .of_run ?_ hk
  obtain ⟨d, hd⟩ := Option.isSome_iff_exists.1 hS
  simp [execOp, ho, hx, convert, go_sem, run_underlying hd, run_underlying hT, Conv.intToInt]
theorem Exec.makeInterface {T : TypeId} {x : Operand} {v : Value} (hT : P.concrete T = true) (ho : o.op = .makeInterface T x) (hx : ρ x = v) (hk : K (.iface T v) w) : Exec P ρ o w K :=
  .of_run (by unfold execOp; simp only [ho, hx, Sem.run_bind, run_makeInterface (P := P) w T v hT, Result.andThen_ok, Sem.run_pure]) hk
theorem Exec.extract {t : Operand} {i : Nat} {vs : Array Value} {v : Value} (ho : o.op = .extract t i) (ht : ρ t = .tuple vs) (hv : vs[i]? = some v) (hk : K v w) : Exec P ρ o w K :=
  .of_run (by simp [execOp, ho, ht, hv, Instr.extract, go_sem]) hk
theorem Exec.nilCheck_ptr {x : Operand} {a : Addr} (ho : o.op = .nilCheck x) (hx : ρ x = .pointer (some a)) (hk : K (.pointer (some a)) w) : Exec P ρ o w K :=
  .of_run (by simp [execOp, ho, hx, go_sem]) hk
/-! ### errors -/
section errs
variable {T T' I : TypeId} {x y : Operand} {e : Option Int} {ms : Array (String × TypeId)}
theorem run_equalIn_err_nil (w : World) (d : Nat) (I : TypeId) (h : P.underlying I = some (.interface ms)) (e : Option Int) :
    (Op.equalIn (d + 1) I (errV T e) .nilIface).run P w = .ok e.isNone w := by
  cases e <;> simp [Op.equalIn, run_underlying h, errV]
theorem run_equal_err_nil (w : World) (I : TypeId) (h : P.underlying I = some (.interface ms)) (e : Option Int) :
    (Op.equal I (errV T e) .nilIface).run P w = .ok e.isNone w := run_equalIn_err_nil w 9999 I h e
theorem eqGuard_err (w : World) (op : BinOp) (I : TypeId) (x : Operand) (c : Value) (e : Option Int) : (eqGuard op I x (.const c) (errV T e) .nilIface).run P w = .ok () w := by
  cases op <;> cases e <;> cases x <;> simp [eqGuard, errV, go_sem]
theorem run_eql_err_nil (w : World) (I : TypeId) (h : P.underlying I = some (.interface ms)) (e : Option Int) : (binOp .eql I (errV T e) .nilIface).run P w = .ok (.bool e.isNone) w := by
  have h1 := run_equal_err_nil (T := T) w I h e
  have h2 : binOp .eql I (errV T e) .nilIface = (do pure (.bool (← Op.equal I (errV T e) .nilIface))) := by cases e <;> rfl
  rw [h2, Sem.run_bind, h1]; rfl
theorem run_neq_err_nil (w : World) (I : TypeId) (h : P.underlying I = some (.interface ms)) (e : Option Int) : (binOp .neq I (errV T e) .nilIface).run P w = .ok (.bool e.isSome) w := by
  have h1 := run_equal_err_nil (T := T) w I h e
  have h2 : binOp .neq I (errV T e) .nilIface = (do pure (.bool (!(← Op.equal I (errV T e) .nilIface)))) := by cases e <;> rfl
  rw [h2, Sem.run_bind, h1]; cases e <;> rfl
theorem Exec.err_eql_nil (hI : P.underlying I = some (.interface ms)) (ho : o.op = .binOp .eql I x (.const .nilIface) T') (hx : ρ x = errV T e) (hc : ρ (.const .nilIface) = .nilIface) (hk : K (.bool e.isNone) w) : Exec P ρ o w K :=
  exec_bin (op := .eql) (a := errV T e) (b := .nilIface) ho hx hc (eqGuard_err w _ _ _ _ e) (run_eql_err_nil w I hI e) hk
theorem Exec.err_neq_nil (hI : P.underlying I = some (.interface ms)) (ho : o.op = .binOp .neq I x (.const .nilIface) T') (hx : ρ x = errV T e) (hc : ρ (.const .nilIface) = .nilIface) (hk : K (.bool e.isSome) w) : Exec P ρ o w K :=
  exec_bin (op := .neq) (a := errV T e) (b := .nilIface) ho hx hc (eqGuard_err w _ _ _ _ e) (run_neq_err_nil w I hI e) hk
end errs
/-! ### calls -/
theorem run_call_aux {c : Operand} {f : FuncId} {fn : Func} {args : List Operand} {ts : Array TypeId} {vs : List Value} {first cap : Array Value} (ho : o.op = .call { callee := .value c, args := args.toArray, argTypes := ts }) (hc : ρ c = .func (.func f) first cap)
    (hf : P.funcs[f]? = some fn) (hb : fn.body.isNone = false) (hn : (fn.name == "runtime.NumGoroutine") = false) (hargs : List.map ρ args = vs) : (execOp ρ o).run P w = .ok (.enter f (first ++ vs.toArray ++ cap)) w := by
  unfold execOp
  simp only [ho, resolve, hc, Deferred.ofValue, invoke, callFunc, Sem.run_bind, Sem.run_pure, Result.andThen_ok, program, Sem.run, hf, hn, hb, List.map_toArray, hargs, Bool.false_eq_true, if_false]
theorem Exec.call {f : FuncId} {fn : Func} {args : List Operand} {ts : Array TypeId} {vs : List Value} (ho : o.op = .call { callee := .value (.func f), args := args.toArray, argTypes := ts }) (hc : ρ (.func f) = .func (.func f) #[] #[])
    (hf : P.funcs[f]? = some fn) (hb : fn.body.isNone = false) (hn : (fn.name == "runtime.NumGoroutine") = false) (hargs : List.map ρ args = vs)
    (h : Calls P f vs.toArray w fun e w' => ∃ v, e = .returned v ∧ K v w') : Exec P ρ o w K := by
  have hrun := run_call_aux (P := P) (w := w) ho hc hf hb hn hargs
  unfold Exec
  rw [hrun]
  simpa using h
/-- A call of a function value that the text itself has made. -/
theorem Exec.callv {c : Operand} {f : FuncId} {fn : Func} {args : List Operand} {ts : Array TypeId} {vs : List Value} {first cap : Array Value} (ho : o.op = .call { callee := .value c, args := args.toArray, argTypes := ts }) (hc : ρ c = .func (.func f) first cap)
    (hf : P.funcs[f]? = some fn) (hb : fn.body.isNone = false) (hn : (fn.name == "runtime.NumGoroutine") = false) (hargs : List.map ρ args = vs)
    (h : Calls P f (first ++ vs.toArray ++ cap) w fun e w' => ∃ v, e = .returned v ∧ K v w') : Exec P ρ o w K := by
  have hrun := run_call_aux (P := P) (w := w) ho hc hf hb hn hargs
  unfold Exec
  rw [hrun]
  exact h
end
end Go.Pw
/-
  My walk's base, part 4: operations on memory.
-/
namespace Go.Pw
/-! ### closed facts on types, as functions that the kernel reckons -/
def tyAgg (P : Program) (T : TypeId) : Option (Bool × Nat) :=
  match P.underlying T, P.info? T with
  | some d, some i => some ((match d with | .struct _ | .array _ _ => true | _ => false), i.size)
  | _, _ => none
/-- the element's type, its cells and bytes -/
def tySlice (P : Program) (T : TypeId) : Option (TypeId × Nat × Nat) :=
  match P.underlying T with
  | some (.slice e) => (P.info? e).map fun i => (e, i.size, i.bytes)
  | _ => none
def tyZero (P : Program) (T : TypeId) : Option Value := (P.info? T).bind (·.zero)
def tyField (P : Program) (T : TypeId) (k : Nat) : Option Nat :=
  match P.underlying T with
  | some (.struct fs) => match fs[k]? with
    | some f => match P.info? f.type with
      | some i => if i.size = 0 then none else some f.offset
      | none => none
    | none => none
  | _ => none
section
variable {P : Program} {T : TypeId} {w : World}
theorem tyAgg_parts {b : Bool} {n : Nat} (h : tyAgg P T = some (b, n)) : ∃ d i, P.underlying T = some d ∧ P.info? T = some i ∧ i.size = n ∧ (match d with | .struct _ | .array _ _ => true | _ => false) = b := by
  unfold tyAgg at h
  split at h
  · rename_i d i hd hi
    simp only [Option.some.injEq, Prod.mk.injEq] at h
    exact ⟨d, i, hd, hi, h.2, h.1⟩
  · cases h
theorem tySlice_parts {e n b : Nat} (h : tySlice P T = some (e, n, b)) : ∃ i, P.underlying T = some (.slice e) ∧ P.info? e = some i ∧ i.size = n ∧ i.bytes = b := by
  unfold tySlice at h
  split at h
  · rename_i e' hd
    obtain ⟨i, hi, hx⟩ := Option.map_eq_some_iff.1 h
    simp only [Prod.mk.injEq] at hx
    obtain ⟨rfl, h1, h2⟩ := hx
    exact ⟨i, hd, hi, h1, h2⟩
  · cases h
theorem tyZero_parts {z : Value} (h : tyZero P T = some z) : ∃ i, P.info? T = some i ∧ i.zero = some z := by
  unfold tyZero at h
  exact Option.bind_eq_some_iff.1 h
theorem run_isAgg {b : Bool} {n : Nat} (h : tyAgg P T = some (b, n)) : (isAgg T).run P w = .ok b w := by
  obtain ⟨d, i, hd, _, _, hb⟩ := tyAgg_parts h
  simp only [isAgg, Sem.run_bind, run_underlying hd, Result.andThen_ok]
  cases d <;> simp at hb <;> subst hb <;> rfl
theorem run_sizeOf' {b : Bool} {n : Nat} (h : tyAgg P T = some (b, n)) : (sizeOf T).run P w = .ok n w := by
  obtain ⟨d, i, _, hi, hs, _⟩ := tyAgg_parts h
  simp [sizeOf, typeInfo, hi, hs]
theorem run_load_cell {a : Addr} {v : Value} (h : w.cell? a = some v) : (load a).run P w = .ok v w := by
  simp [load, Sem.run, h]
theorem run_loadVar_one {a : Addr} {v : Value} {n : Nat} (hT : tyAgg P T = some (false, n)) (h : w.cell? a = some v) : (loadVar T a).run P w = .ok v w := by
  simp only [loadVar, Sem.run_bind, run_isAgg hT, Result.andThen_ok, Bool.false_eq_true, if_false, run_load_cell h]
theorem run_loadVar_agg {a : Addr} {cs : List Value} (hT : tyAgg P T = some (true, cs.length)) (h : ∀ j v, cs[j]? = some v → w.cell? (a.add j) = some v) : (loadVar T a).run P w = .ok (.agg cs.toArray) w := by
  simp only [loadVar, Sem.run_bind, run_isAgg hT, Result.andThen_ok, if_true, run_sizeOf' hT, run_loadCells_list w a cs h, Sem.run_pure]
theorem run_storeVar {b off : Nat} {v : Value} {cs : List Value} {cur : Array Value} {E : TypeId} {ag : Bool} (hT : tyAgg P T = some (ag, cs.length)) (hv : v.cells = cs.toArray) (h : w.heap[b]? = some (.cells cur E (0, 0)))
    (hfit : off + cs.length ≤ cur.size) (h1 : ∀ v ∈ cs, v.oneCell' = true) :
    (storeVar T ⟨b, off, none⟩ v).run P w = .ok () (w.setRow b (cur.toList.take off ++ cs ++ cur.toList.drop (off + cs.length)).toArray) := by
  have := run_storeCells_at P b off E cs 0 cur w h (by simpa using hfit) h1
  simp only [Nat.add_zero] at this
  simp only [storeVar, Sem.run_bind, run_sizeOf' hT, Result.andThen_ok, hv]
  simp [this]
end
/-- Part of what a datum's cells hold. -/
def Sub {α β : Type} (E : Enc α) (off : Nat) (F : Enc β) (f : α → β) : Prop := ∀ s cells a, E.rep s cells a → F.rep s ((cells.drop off).take F.sz) (f a)
section
variable {α β γ : Type} {E : Enc α} {F : Enc β} {off : Nat}
theorem Sub.refl (E : Enc α) : Sub E 0 E id := fun s cells a h => by
  have := E.len h
  rw [List.drop_zero, ← this, List.take_length]; exact h
theorem Sub.iso {f : γ → α} {g : α → β} (h : Sub E off F g) : Sub (E.iso f) off F (fun c => g (f c)) := fun s cells a hr => h s cells (f a) hr
theorem Sub.fst {A : Enc α} {B : Enc γ} {g : α → β} (h : Sub A off F g) : Sub (A.pair B) off F (fun p => g p.1) := by
  rintro s cells p ⟨c1, c2, rfl, h1, h2⟩
  have hr := h s c1 p.1 h1
  have hl := F.len hr
  have : (c1.drop off).length ≥ F.sz := by simp at hl ⊢; omega
  rw [List.drop_append_of_le_length (by simp at this; have := F.pos; omega), List.take_append_of_le_length this]
  exact hr
theorem Sub.snd {A : Enc α} {B : Enc γ} {g : γ → β} {n : Nat} (h : Sub B off F g) (hn : A.sz + off = n) : Sub (A.pair B) n F (fun p => g p.2) := by
  rintro s cells p ⟨c1, c2, rfl, h1, h2⟩
  subst hn
  rw [← A.len h1, List.drop_length_add_append]
  exact h s c2 p.2 h2
end
/-- What stays holds a datum at an address. -/
def At {α : Type} (s : PHeap) (b off : Nat) (E : Enc α) (a : α) : Prop := ∃ c T fz, s b = some (.cells c T fz) ∧ E.rep s ((c.toList.drop off).take E.sz) a
theorem At.mono {α : Type} {s t : PHeap} {b off : Nat} {E : Enc α} {a : α} (h : At s b off E a) (l : PHeap.le s t) : At t b off E a :=
  let ⟨c, T, fz, h1, h2⟩ := h; ⟨c, T, fz, l _ _ h1, E.mono l h2⟩
theorem At.sub {α β : Type} {s : PHeap} {b off n m : Nat} {E : Enc α} {F : Enc β} {f : α → β} {a : α} (h : At s b off E a) (hs : Sub E n F f) (hm : off + n = m) : At s b m F (f a) := by
  obtain ⟨c, T, fz, h1, h2⟩ := h
  refine ⟨c, T, fz, h1, ?_⟩
  have h3 := hs s _ a h2
  have hl := F.len h3
  have hE := E.len h2
  subst hm
  rw [List.drop_take, List.drop_drop] at h3
  rw [List.take_take] at h3
  have : min F.sz (E.sz - n) = F.sz := by
    rcases Nat.le_total F.sz (E.sz - n) with h | h
    · omega
    · simp only [List.length_take, List.length_drop] at hl
      omega
  rw [this] at h3
  exact h3
theorem SliceRep.shape {α : Type} {E : Enc α} {s : PHeap} {v : Value} {xs : List α} (h : SliceRep E s v xs) : ∃ a c, v = .slice a xs.length c := by
  rcases h with ⟨rfl, rfl⟩ | ⟨a, cap, rfl, rfl⟩ | ⟨b, off, cap, c, T, fz, cells, rfl, _⟩ <;> exact ⟨_, _, rfl⟩
theorem SliceRep.one {α : Type} {E : Enc α} {s : PHeap} {v : Value} {xs : List α} (h : SliceRep E s v xs) : v.oneCell' = true := by
  obtain ⟨a, c, rfl⟩ := h.shape; rfl
theorem SliceRep.nil {α : Type} (E : Enc α) (s : PHeap) : SliceRep E s (.slice none 0 0) [] := .inl ⟨rfl, rfl⟩
theorem SliceRep.le {α : Type} {E : Enc α} {s : PHeap} {v : Value} {xs : List α} (h : SliceRep E s v xs) : xs.length ≤ maxLen := by
  rcases h with ⟨rfl, rfl⟩ | ⟨a, cap, rfl, rfl⟩ | ⟨b, off, cap, c, T, fz, cells, rfl, h1, h2, _⟩
  · simp
  · simp
  · omega
theorem SliceRep.at {α : Type} {E : Enc α} {s : PHeap} {v : Value} {xs : List α} {n : Int} {y : α} (h : SliceRep E s v xs) (hy : idx xs n = some y) :
    ∃ b off c, v = .slice (some ⟨b, off, none⟩) xs.length c ∧ At s b (off + n.toNat * E.sz) E y := by
  obtain ⟨_, hlt, hget⟩ := idx_some hy
  rcases h with ⟨rfl, rfl⟩ | ⟨a, cap, rfl, rfl⟩ | ⟨b, off, cap, c, T, fz, cells, rfl, h1, h2, h3, h4, h5⟩
  · simp at hget
  · simp at hget
  · obtain ⟨d, hd, hr⟩ := h5.get hget
    refine ⟨b, off, cap, rfl, c, T, fz, h3, ?_⟩
    have hlen := h5.len
    have hin : n.toNat * E.sz + E.sz ≤ cells.length := by
      rw [hlen, ← Nat.succ_mul]
      exact Nat.mul_le_mul_right _ (by omega)
    rw [← h4, List.drop_take, List.drop_drop, List.take_take] at hr
    have : min E.sz (cells.length - n.toNat * E.sz) = E.sz := by omega
    rw [this] at hr
    rw [hr]; exact hd
section
variable {P : Program} {ρ : Operand → Value} {o : Oper} {w w0 : World} {s : PHeap} {H : List Res} {K : Value → World → Prop} {T : TypeId}
theorem cell_of_stay (hS : St w0 s H w) {b off : Nat} {c : Array Value} {Te : TypeId} {fz : Nat × Nat} (h : s b = some (.cells c Te fz)) : w.cell? ⟨b, off, none⟩ = c[off]? := by
  simp [World.cell?, hS.stay _ _ h]
/-! ### what stays -/
theorem Zr {α : Type} {E : Enc α} {xs : List α} {x : Operand} {v : Value} {e n b : Nat} (hT : tySlice P T = some (e, n, b)) (ho : o.op = .call { callee := .builtin .len, args := #[x], argTypes := #[T] }) (hx : ρ x = v) (h : SliceRep E s v xs)
    (hk : K (.int .i64 (xs.length : Int)) w) : Exec P ρ o w K := by
  obtain ⟨i, hu, _⟩ := tySlice_parts hT
  obtain ⟨a, c, rfl⟩ := h.shape
  exact Exec.len_slice hu ho hx hk
theorem run_indexAt {b off len cap : Nat} {k : IntKind} {n : Int} {e sz by_ : Nat} (hT : tySlice P T = some (e, sz, by_)) (h0 : 0 ≤ n) (h1 : n < len) :
    (Instr.indexAt T (.slice (some ⟨b, off, none⟩) len cap) (.int k n)).run P w = .ok (.pointer (some ⟨b, off + n.toNat * sz, none⟩)) w := by
  obtain ⟨i, hu, hi, hs, _⟩ := tySlice_parts hT
  simp [Instr.indexAt, asIntOf, run_underlying hu, h0, h1, sizeOf, typeInfo, hi, hs, Addr.add_lit]
theorem Exec.index_slice {x i : Operand} {k : IntKind} {n : Int} {b off len cap e sz by_ : Nat} (hT : tySlice P T = some (e, sz, by_)) (ho : o.op = .indexAddr T x i) (hx : ρ x = .slice (some ⟨b, off, none⟩) len cap) (hi : ρ i = .int k n)
    (h0 : 0 ≤ n) (h1 : n < len) (hk : K (.pointer (some ⟨b, off + n.toNat * sz, none⟩)) w) : Exec P ρ o w K := by
  refine .of_run ?_ hk
  unfold execOp
  simp only [ho, hx, hi, Sem.run_bind, run_indexAt hT h0 h1, Result.andThen_ok, Sem.run_pure]
theorem Exec.index_rep {α : Type} {E : Enc α} {xs : List α} {y : α} {x i : Operand} {v : Value} {k : IntKind} {n : Int} {e by_ : Nat} (hT : tySlice P T = some (e, E.sz, by_)) (ho : o.op = .indexAddr T x i) (hx : ρ x = v) (hi : ρ i = .int k n)
    (h : SliceRep E s v xs) (hy : idx xs n = some y) (hk : ∀ b off, At s b off E y → K (.pointer (some ⟨b, off, none⟩)) w) : Exec P ρ o w K := by
  obtain ⟨h0, h1, _⟩ := idx_some hy
  obtain ⟨b, off, c, rfl, hat⟩ := h.at hy
  exact Exec.index_slice hT ho hx hi h0 h1 (hk _ _ hat)
theorem Zp {x : Operand} {k b off foff m : Nat} (hT : tyField P T k = some foff) (ho : o.op = .fieldAddr T x k) (hx : ρ x = .pointer (some ⟨b, off, none⟩)) (hm : off + foff = m) (hk : K (.pointer (some ⟨b, m, none⟩)) w) : Exec P ρ o w K := by
  subst hm
  refine .of_run ?_ hk
  unfold tyField at hT
  split at hT
  · rename_i fs hu
    split at hT
    · rename_i f hf
      split at hT
      · rename_i i hi
        split at hT
        · cases hT
        · rename_i hsz
          have hoff := Zu hT
          subst hoff
          simp [execOp, ho, hx, Instr.fieldAt, run_underlying hu, hf, Instr.sureAddr, fieldPlace, sizeOf, typeInfo, hi, hsz, Addr.add_lit, go_sem]
      · cases hT
    · cases hT
  · cases hT
theorem Zw {α : Type} {E : Enc α} {y : α} {x : Operand} {b off n : Nat} (hS : St w0 s H w) (hT : tyAgg P T = some (E.agg, E.sz)) (ho : o.op = .load T x) (hx : ρ x = .pointer (some ⟨b, off, none⟩)) (hn : off = n)
    (h : At s b n E y) (hk : ∀ v, E.val s v y → K v w) : Exec P ρ o w K := by
  subst hn
  obtain ⟨c, Te, fz, h1, h2⟩ := h
  have hlen := E.len h2
  have hcell : ∀ j v, ((c.toList.drop off).take E.sz)[j]? = some v → w.cell? ((⟨b, off, none⟩ : Addr).add j) = some v := by
    intro j v hv
    rw [Addr.add_lit, cell_of_stay hS h1]
    rw [List.getElem?_take] at hv
    split at hv
    · rw [List.getElem?_drop] at hv
      simpa using hv
    · cases hv
  cases hag : E.agg with
  | true =>
    have hrun := run_loadVar_agg (P := P) (w := w) (a := ⟨b, off, none⟩) (cs := (c.toList.drop off).take E.sz) (by rw [hlen, ← hag]; exact hT) hcell
    refine .of_run (v := .agg ((c.toList.drop off).take E.sz).toArray) ?_ (hk _ ?_)
    · unfold execOp
      simp only [ho, hx, Instr.loadAt, Instr.sureAddr, Sem.run_bind, Sem.run_pure, Result.andThen_ok, hrun]
    · unfold Enc.val
      rw [if_pos hag]
      exact ⟨_, rfl, by simpa using h2⟩
  | false =>
    have h1' := E.single hag
    rw [h1'] at h2 hcell hlen
    obtain ⟨v, hv⟩ : ∃ v, (c.toList.drop off).take 1 = [v] := by
      match hq : (c.toList.drop off).take 1, hlen with
      | [v], _ => exact ⟨v, rfl⟩
    rw [hv] at h2 hcell
    have hc0 := hcell 0 v rfl
    rw [Addr.add_zero'] at hc0
    rw [hag] at hT
    have hrun := run_loadVar_one (P := P) (w := w) hT hc0
    refine .of_run (v := v) ?_ (hk _ ?_)
    · unfold execOp
      simp only [ho, hx, Instr.loadAt, Instr.sureAddr, Sem.run_bind, Sem.run_pure, Result.andThen_ok, hrun]
    · unfold Enc.val
      rw [if_neg (by simp [hag])]
      exact h2
/-! ### boxes -/
theorem St.box_heap {b : Nat} {Tb : TypeId} {cs : List Value} (hS : St w0 s (.box b Tb cs :: H) w) : w.heap[b]? = some (.cells cs.toArray Tb (0, 0)) := by
  obtain ⟨bs, hn, hs, b1, b2, e, h1, h2⟩ := hS.own
  exact h1.2
theorem Exec.box {x : Operand} {v : Value} {cs : List Value} (hS : St w0 s H w) (ho : o.op = .box T x) (hx : ρ x = v) (hc : v.cells = cs.toArray) (hk : ∀ b w', St w0 s (.box b T cs :: H) w' → K (.pointer (some ⟨b, 0, none⟩)) w') : Exec P ρ o w K := by
  refine .of_run (v := .pointer (some ⟨w.heap.size, 0, none⟩)) (w' := w.alloc (.cells cs.toArray T)) ?_ (hk _ _ (hS.alloc T cs))
  unfold execOp
  simp only [ho, hx, Instr.box, newVar, newRow, newObj, hc, Sem.run_bind, Sem.run_pure, Result.andThen_ok, Sem.run]
  rfl
theorem Exec.alloc {z : Value} {cs : List Value} (hS : St w0 s H w) (hT : tyZero P T = some z) (ho : o.op = .alloc T) (hc : z.cells = cs.toArray) (hk : ∀ b w', St w0 s (.box b T cs :: H) w' → K (.pointer (some ⟨b, 0, none⟩)) w') : Exec P ρ o w K := by
  obtain ⟨i, hi, hz⟩ := tyZero_parts hT
  refine .of_run (v := .pointer (some ⟨w.heap.size, 0, none⟩)) (w' := w.alloc (.cells cs.toArray T)) ?_ (hk _ _ (hS.alloc T cs))
  unfold execOp
  simp only [ho, Instr.alloc, zeroValue, typeInfo, program, newVar, newRow, newObj, hc, Sem.run_bind, Sem.run_pure, Result.andThen_ok, Sem.run, hi, hz]
  rfl
theorem Zn {x : Operand} {b off n : Nat} {Tb : TypeId} {cs : List Value} {v : Value} (hS : St w0 s (.box b Tb cs :: H) w) (hT : tyAgg P T = some (false, n)) (ho : o.op = .load T x) (hx : ρ x = .pointer (some ⟨b, off, none⟩)) (hv : cs[off]? = some v) (hk : K v w) : Exec P ρ o w K := by
  have hc : w.cell? ⟨b, off, none⟩ = some v := by simp [World.cell?, hS.box_heap, hv]
  refine .of_run ?_ hk
  unfold execOp
  simp only [ho, hx, Instr.loadAt, Instr.sureAddr, Sem.run_bind, Sem.run_pure, Result.andThen_ok, run_loadVar_one hT hc]
theorem Exec.load_box_agg {x : Operand} {b off : Nat} {Tb : TypeId} {cs ds : List Value} (hS : St w0 s (.box b Tb cs :: H) w) (hT : tyAgg P T = some (true, ds.length)) (ho : o.op = .load T x) (hx : ρ x = .pointer (some ⟨b, off, none⟩)) (hv : (cs.drop off).take ds.length = ds) (hk : K (.agg ds.toArray) w) : Exec P ρ o w K := by
  have hc : ∀ j v, ds[j]? = some v → w.cell? ((⟨b, off, none⟩ : Addr).add j) = some v := by
    intro j v hj
    rw [← hv, List.getElem?_take] at hj
    split at hj
    · rw [List.getElem?_drop] at hj
      rw [Addr.add_lit]
      simp [World.cell?, hS.box_heap, hj]
    · cases hj
  refine .of_run ?_ hk
  unfold execOp
  simp only [ho, hx, Instr.loadAt, Instr.sureAddr, Sem.run_bind, Sem.run_pure, Result.andThen_ok, run_loadVar_agg hT hc]
theorem setRow_size (w : World) (g : Nat) (cs : Array Value) : (w.setRow g cs).heap.size = w.heap.size := by simp [World.setRow]
theorem St.box_set {b : Nat} {Tb : TypeId} {cs ds : List Value} (hS : St w0 s (.box b Tb cs :: H) w) : St w0 s (.box b Tb ds :: H) (w.setRow b ds.toArray) := by
  refine hS.turn rfl rfl rfl (Nat.le_refl _) (by rw [setRow_size]; exact Nat.le_refl _) ?_
  rintro b1 ⟨rfl, hb⟩
  refine ⟨[b], ⟨rfl, setRow_heap w b _ _ _ _ hb⟩, by simp, fun x hx => .inl hx, fun x _ hx => setRow_other w b x _ (by simpa using hx)⟩
theorem Exec.store_box {x y : Operand} {b off : Nat} {Tb : TypeId} {cs ds es : List Value} {v : Value} {ag : Bool} (hS : St w0 s (.box b Tb cs :: H) w) (hT : tyAgg P T = some (ag, ds.length)) (ho : o.op = .store T x y) (hx : ρ x = .pointer (some ⟨b, off, none⟩)) (hy : ρ y = v)
    (hc : v.cells = ds.toArray) (h1 : ∀ v ∈ ds, v.oneCell' = true) (hfit : off + ds.length ≤ cs.length) (he : cs.take off ++ ds ++ cs.drop (off + ds.length) = es) (hk : ∀ w', St w0 s (.box b Tb es :: H) w' → K undef w') : Exec P ρ o w K := by
  subst he
  have hrun := run_storeVar (P := P) (w := w) hT hc hS.box_heap (by simpa using hfit) h1
  refine .of_skip (w' := w.setRow b (cs.take off ++ ds ++ cs.drop (off + ds.length)).toArray) ?_ (hk _ hS.box_set)
  unfold execOp
  simp only [ho, hx, hy, Instr.storeAt, Instr.sureAddr, Sem.run_bind, Sem.run_pure, Result.andThen_ok]
  simp only [List.toList_toArray] at hrun
  simp only [hrun, Result.andThen_ok, Sem.run_pure]
/-! ### slices of the call's own -/
section
variable {α : Type} {E : Enc α} {Te : TypeId} {v : Value} {xs : List α}
theorem ownsRow_shape {base n : Nat} {cells : List Value} {sz : Nat} (h : w.ownsRow base Te sz v n cells) : ∃ a c, v = .slice a n c := by
  rcases h.2 with ⟨rfl, rfl⟩ | ⟨g, cap, cur, rfl, _⟩
  · exact ⟨_, _, rfl⟩
  · exact ⟨_, _, rfl⟩
theorem arrP_shape {bs : List Nat} (h : (Res.arr E Te v xs).p s w bs) : ∃ a c, v = .slice a xs.length c := by
  obtain ⟨cells, _, h2, _⟩ := h
  exact ownsRow_shape h2
theorem St.arr_shape (hS : St w0 s (.arr E Te v xs :: H) w) : ∃ a c, v = .slice a xs.length c := by
  obtain ⟨bs, hn, hs, b1, b2, e, h1, h2⟩ := hS.own
  exact arrP_shape h1
theorem St.arr_one (hS : St w0 s (.arr E Te v xs :: H) w) : v.oneCell' = true := by
  obtain ⟨a, c, rfl⟩ := hS.arr_shape; rfl
theorem arrP_le {bs : List Nat} (h : (Res.arr E Te v xs).p s w bs) : xs.length ≤ maxLen := by
  obtain ⟨cells, h1, h2, _⟩ := h
  rcases h2.2 with ⟨_, h⟩ | ⟨g, cap, cur, rfl, _, _, h3, h4, _⟩
  · rw [h]; exact Nat.zero_le _
  · omega
theorem St.arr_le (hS : St w0 s (.arr E Te v xs :: H) w) : xs.length ≤ maxLen := by
  obtain ⟨bs, hn, hs, b1, b2, e, h1, h2⟩ := hS.own
  exact arrP_le h1
theorem Exec.len_arr {x : Operand} {e n b : Nat} (hS : St w0 s (.arr E Te v xs :: H) w) (hT : tySlice P T = some (e, n, b)) (ho : o.op = .call { callee := .builtin .len, args := #[x], argTypes := #[T] }) (hx : ρ x = v) (hk : K (.int .i64 (xs.length : Int)) w) : Exec P ρ o w K := by
  obtain ⟨i, hu, _⟩ := tySlice_parts hT
  obtain ⟨a, c, rfl⟩ := hS.arr_shape
  exact Exec.len_slice hu ho hx hk
theorem arrP_at {bs : List Nat} {n : Int} {y : α} (h : (Res.arr E Te v xs).p s w bs) (hy : idx xs n = some y) : ∃ g cap, v = .slice (some ⟨g, 0, none⟩) xs.length cap := by
  obtain ⟨_, hlt, hget⟩ := idx_some hy
  obtain ⟨cells, h1, h2, _⟩ := h
  rcases h2.2 with ⟨_, h⟩ | ⟨g, cap, cur, rfl, _⟩
  · omega
  · exact ⟨g, cap, rfl⟩
theorem St.arr_at {n : Int} {y : α} (hS : St w0 s (.arr E Te v xs :: H) w) (hy : idx xs n = some y) : ∃ g cap, v = .slice (some ⟨g, 0, none⟩) xs.length cap := by
  obtain ⟨bs, hn, hs, b1, b2, e, h1, h2⟩ := hS.own
  exact arrP_at h1 hy
/-- The cells of an element of an owned row. -/
theorem arrP_cells {bs : List Nat} {g cap : Nat} {n : Int} {y : α} (h : (Res.arr E Te (.slice (some ⟨g, 0, none⟩) xs.length cap) xs).p s w bs) (hy : idx xs n = some y) :
    ∃ cur, w.heap[g]? = some (.cells cur Te (0, 0)) ∧ E.rep s ((cur.toList.drop (n.toNat * E.sz)).take E.sz) y ∧ n.toNat * E.sz + E.sz ≤ cur.size := by
  obtain ⟨h0, hlt, hget⟩ := idx_some hy
  obtain ⟨cells, h1, h2, _⟩ := h
  rcases h2.2 with ⟨h, _⟩ | ⟨g', cap', cur, hv, _, hg, hnc, _, hcs, htake⟩
  · cases h
  · cases hv
    obtain ⟨d, hd, hr⟩ := h1.get hget
    have hmul : n.toNat * E.sz + E.sz ≤ xs.length * E.sz := by rw [← Nat.succ_mul]; exact Nat.mul_le_mul_right _ (by omega)
    refine ⟨cur, hg, ?_, ?_⟩
    · rw [← htake, List.drop_take, List.take_take] at hr
      have : min E.sz (xs.length * E.sz - n.toNat * E.sz) = E.sz := by omega
      rw [this] at hr
      rw [hr]; exact hd
    · rw [hcs]
      exact Nat.le_trans hmul (Nat.mul_le_mul_right _ hnc)
theorem load_cells {β : Type} {F : Enc β} {z : β} {x : Operand} {b off : Nat} {cur : Array Value} {Tb : TypeId} {fz : Nat × Nat} (hT : tyAgg P T = some (F.agg, F.sz)) (ho : o.op = .load T x) (hx : ρ x = .pointer (some ⟨b, off, none⟩))
    (hw : w.heap[b]? = some (.cells cur Tb fz)) (hr : F.rep s ((cur.toList.drop off).take F.sz) z) (hk : ∀ v, F.val s v z → K v w) : Exec P ρ o w K := by
  have hlen := F.len hr
  have hcell : ∀ j v, ((cur.toList.drop off).take F.sz)[j]? = some v → w.cell? ((⟨b, off, none⟩ : Addr).add j) = some v := by
    intro j v hv
    rw [Addr.add_lit]
    rw [List.getElem?_take] at hv
    split at hv
    · rw [List.getElem?_drop] at hv
      simp [World.cell?, hw]
      simpa using hv
    · cases hv
  cases hag : F.agg with
  | true =>
    have hrun := run_loadVar_agg (P := P) (w := w) (a := ⟨b, off, none⟩) (cs := (cur.toList.drop off).take F.sz) (by rw [hlen, ← hag]; exact hT) hcell
    refine .of_run (v := .agg ((cur.toList.drop off).take F.sz).toArray) ?_ (hk _ ?_)
    · unfold execOp
      simp only [ho, hx, Instr.loadAt, Instr.sureAddr, Sem.run_bind, Sem.run_pure, Result.andThen_ok, hrun]
    · unfold Enc.val
      rw [if_pos hag]
      exact ⟨_, rfl, by simpa using hr⟩
  | false =>
    have h1' := F.single hag
    rw [h1'] at hr hcell hlen
    obtain ⟨v, hv⟩ : ∃ v, (cur.toList.drop off).take 1 = [v] := by
      match hq : (cur.toList.drop off).take 1, hlen with
      | [v], _ => exact ⟨v, rfl⟩
    rw [hv] at hr hcell
    have hc0 := hcell 0 v rfl
    rw [Addr.add_zero'] at hc0
    rw [hag] at hT
    have hrun := run_loadVar_one (P := P) (w := w) hT hc0
    refine .of_run (v := v) ?_ (hk _ ?_)
    · unfold execOp
      simp only [ho, hx, Instr.loadAt, Instr.sureAddr, Sem.run_bind, Sem.run_pure, Result.andThen_ok, hrun]
    · unfold Enc.val
      rw [if_neg (by simp [hag])]
      exact hr
/-- Sub's part of part. -/
theorem sub_cells {β : Type} {F : Enc β} {f : α → β} {y : α} {off base : Nat} {l : List Value} (hs : Sub E off F f) (h : E.rep s ((l.drop base).take E.sz) y) : F.rep s ((l.drop (base + off)).take F.sz) (f y) := by
  have h3 := hs s _ y h
  have hl := F.len h3
  rw [List.drop_take, List.drop_drop, List.take_take] at h3
  have : min F.sz (E.sz - off) = F.sz := by
    rcases Nat.le_total F.sz (E.sz - off) with h | h
    · omega
    · have := F.pos
      simp only [List.length_take, List.length_drop] at hl
      omega
  rw [this] at h3
  exact h3
theorem Exec.load_arr {β : Type} {F : Enc β} {f : α → β} {y : α} {x : Operand} {g cap off m : Nat} {n : Int} (hS : St w0 s (.arr E Te v xs :: H) w) (hv : v = .slice (some ⟨g, 0, none⟩) xs.length cap) (hT : tyAgg P T = some (F.agg, F.sz)) (ho : o.op = .load T x)
    (hx : ρ x = .pointer (some ⟨g, m, none⟩)) (hm : m = 0 + n.toNat * E.sz + off) (hy : idx xs n = some y) (hs : Sub E off F f) (hk : ∀ v, F.val s v (f y) → K v w) : Exec P ρ o w K := by
  rw [Nat.zero_add] at hm
  subst hm
  subst hv
  obtain ⟨bs, hn, hss, b1, b2, e, h1, h2⟩ := hS.own
  obtain ⟨cur, hg, hr, _⟩ := arrP_cells h1 hy
  exact load_cells hT ho hx hg (sub_cells hs hr) hk
theorem encRaw_val {s : PHeap} {v a : Value} : encRaw.val s v a ↔ v = a ∧ a.oneCell' = true := by
  simp [Enc.val, encRaw]
theorem arrP_set {bs : List Nat} {g cap : Nat} {n : Int} {y : α} {ds : List Value} (h : (Res.arr E Te (.slice (some ⟨g, 0, none⟩) xs.length cap) xs).p s w bs) (_h0 : 0 ≤ n) (hlt : n.toNat < xs.length) (hd : E.rep s ds y) :
    ∃ cur, w.heap[g]? = some (.cells cur Te (0, 0)) ∧ n.toNat * E.sz + ds.length ≤ cur.size ∧ bs = [g] ∧
      (Res.arr E Te (.slice (some ⟨g, 0, none⟩) xs.length cap) (xs.set n.toNat y)).p s (w.setRow g (cur.toList.take (n.toNat * E.sz) ++ ds ++ cur.toList.drop (n.toNat * E.sz + ds.length)).toArray) [g] := by
  obtain ⟨cells, h1, h2, rfl⟩ := h
  rcases h2.2 with ⟨h, _⟩ | ⟨g', cap', cur, hv, _, hg, hnc, hcm, hcs, htake⟩
  · cases h
  · cases hv
    have hmul : n.toNat * E.sz + E.sz ≤ xs.length * E.sz := by rw [← Nat.succ_mul]; exact Nat.mul_le_mul_right _ (by omega)
    have hcur : xs.length * E.sz ≤ cur.size := by rw [hcs]; exact Nat.mul_le_mul_right _ hnc
    have hdl := E.len hd
    have hset := h1.set hlt hd
    refine ⟨cur, hg, by omega, by simp [Value.ownBlock], _, hset, ⟨by rw [hset.len], .inr ⟨g, cap, _, by simp, Nat.zero_le _, setRow_heap w g cur _ Te _ hg, by simpa using hnc, hcm, ?_, ?_⟩⟩, by simp [Value.ownBlock]⟩
    · simp only [List.size_toArray, List.length_append, List.length_take, List.length_drop, Array.length_toList]
      omega
    · rw [List.length_set, hdl]
      rw [← htake]
      have hA : (cur.toList.take (n.toNat * E.sz)).length = n.toNat * E.sz := by simp; omega
      rw [List.toList_toArray, List.append_assoc, List.take_append, hA, List.take_append, hdl]
      rw [List.take_of_length_le (by rw [hA]; omega), List.take_of_length_le (by omega : ds.length ≤ _)]
      rw [List.take_take, show min (n.toNat * E.sz) (xs.length * E.sz) = n.toNat * E.sz by omega, List.append_assoc, List.drop_take]
      congr 3
      omega
theorem Exec.store_arr {y : α} {x z : Operand} {u : Value} {g cap m : Nat} {n : Int} {zs : List α} (hS : St w0 s (.arr E Te v xs :: H) w) (hv : v = .slice (some ⟨g, 0, none⟩) xs.length cap) (hT : tyAgg P T = some (E.agg, E.sz)) (ho : o.op = .store T x z)
    (hx : ρ x = .pointer (some ⟨g, m, none⟩)) (hm : m = 0 + n.toNat * E.sz) (hz : ρ z = u) (hu : E.val s u y) (hset : setI xs n y = some zs)
    (hk : ∀ w', St w0 s (.arr E Te v zs :: H) w' → K undef w') : Exec P ρ o w K := by
  rw [Nat.zero_add] at hm
  subst hm
  subst hv
  obtain ⟨h0, hlt, rfl⟩ := setI_some hset
  have hr := Enc.val_cells hu
  have hkey : ∀ b1, (Res.arr E Te (.slice (some ⟨g, 0, none⟩) xs.length cap) xs).p s w b1 → ∃ cur, _ := fun b1 h1 => arrP_set h1 h0 hlt hr
  obtain ⟨bs, hn, hss, b1, b2, e, h1, h2⟩ := hS.own
  obtain ⟨cur, hg, hfit, hb1, _⟩ := arrP_set h1 h0 hlt hr
  have hlen : u.cells.toList.length = E.sz := E.len hr
  have hrun := run_storeVar (P := P) (w := w) (T := T) (v := u) (cs := u.cells.toList) (by rw [hlen]; exact hT) (by simp) hg hfit (E.one hr)
  refine .of_skip (w' := _) ?_ (hk (w.setRow g (cur.toList.take (n.toNat * E.sz) ++ u.cells.toList ++ cur.toList.drop (n.toNat * E.sz + u.cells.toList.length)).toArray) ?_)
  · unfold execOp
    simp only [ho, hx, hz, Instr.storeAt, Instr.sureAddr, Sem.run_bind, Sem.run_pure, Result.andThen_ok, hrun]
  · refine hS.turn rfl rfl rfl (Nat.le_refl _) (by rw [setRow_size]; exact Nat.le_refl _) ?_
    intro c1 hc1
    obtain ⟨cur', hg', _, hc1', hnew⟩ := arrP_set hc1 h0 hlt hr
    rw [hg] at hg'
    cases hg'
    exact ⟨[g], hnew, by simp, fun x hx => .inl (by rw [hc1']; exact hx), fun x _ hx => setRow_other w g x _ (by rw [hc1'] at hx; simpa using hx)⟩
end
/-- A nil slice is owned. -/
theorem St.nilArr {α : Type} (hS : St w0 s H w) (E : Enc α) (Te : TypeId) : St w0 s (.arr E Te (.slice none 0 0) [] :: H) w := by
  obtain ⟨bs, hn, hs, hb⟩ := hS.own
  exact ⟨hS.os, hS.tape, hS.output, hS.drawn, hS.size, hS.stay, bs, hn, hs, [], bs, rfl, ⟨[], rfl, World.ownsRow_nil _ _ _ _, rfl⟩, hb⟩
/-- A box is a row of the call's own. -/
theorem St.boxArr {α : Type} {E : Enc α} {b : Nat} {Te : TypeId} {cs : List Value} {xs : List α} (hS : St w0 s (.box b Te cs :: H) w) (h : reps E s cs xs) (hl : xs.length ≤ maxLen) : St w0 s (.arr E Te (.slice (some ⟨b, 0, none⟩) xs.length xs.length) xs :: H) w := by
  obtain ⟨bs, hn, hs, b1, b2, e, ⟨rfl, h1⟩, h2⟩ := hS.own
  refine ⟨hS.os, hS.tape, hS.output, hS.drawn, hS.size, hS.stay, bs, hn, hs, [b], b2, e, ⟨cs, h, ⟨h.len, .inr ⟨b, xs.length, cs.toArray, rfl, Nat.zero_le _, h1, Nat.le_refl _, hl, by simpa using h.len, ?_⟩⟩, rfl⟩, h2⟩
  rw [List.toList_toArray, List.take_of_length_le (by rw [h.len]; exact Nat.le_refl _)]
/-- An owned slice is given to what stays. -/
theorem St.freezeArr {α : Type} {E : Enc α} {Te : TypeId} {v : Value} {xs : List α} (hS : St w0 s (.arr E Te v xs :: H) w) : ∃ t, PHeap.le s t ∧ St w0 t H w ∧ SliceRep E t v xs := by
  obtain ⟨bs, t, hp, hle, hbs, hS'⟩ := hS.freezeWith
  obtain ⟨cells, h1, h2, rfl⟩ := hp
  refine ⟨t, hle, hS', ?_⟩
  rcases h2.2 with ⟨rfl, h⟩ | ⟨g, cap, cur, rfl, _, hg, hnc, hcm, hcs, htake⟩
  · exact .inl ⟨rfl, List.eq_nil_of_length_eq_zero h⟩
  · refine .inr (.inr ⟨g, 0, cap, cur, Te, (0, 0), cells, rfl, hnc, hcm, by rw [hbs g (by simp [Value.ownBlock]), hg], ?_, h1.mono hle⟩)
    rw [List.drop_zero, h1.len, htake]
/-! ### append -/
theorem arr_append_core {α : Type} {E : Enc α} {Te : TypeId} {v : Value} {xs ys : List α} {t ty by_ : Nat} {z : Value} (hS : St w0 s (.arr E Te v xs :: H) w)
    (hT : tySlice P t = some (Te, E.sz, by_)) (hz : tyZero P Te = some z) (hzs : z.cells.size = E.sz)
    (ad : Addr) (c : Nat) (news : List Value) (hnews : ∀ j u, news[j]? = some u → w.cell? (ad.add j) = some u) (hr : reps E s news ys) (hb : (xs.length + ys.length) * by_ ≤ 140737488355328) (hby : 0 < by_) :
    ∃ v' w', (Builtin.append_ #[t, t] ty #[v, .slice (some ad) ys.length c]).run P w = .ok v' w' ∧ St w0 s (.arr E Te v' (xs ++ ys) :: H) w' := by
  obtain ⟨i, hu, hi, hsz, hbs⟩ := tySlice_parts hT
  obtain ⟨i', hi', hz'⟩ := tyZero_parts hz
  rw [hi] at hi'
  cases hi'
  have h63 : xs.length + ys.length ≤ maxLen := by
    have : xs.length + ys.length ≤ (xs.length + ys.length) * by_ := Nat.le_mul_of_pos_right _ hby
    simp only [maxLen]; omega
  obtain ⟨bs, hn, hss, b1, b2, e, ⟨cells, h1, h2, rfl⟩, h3⟩ := hS.own
  have hlen := h1.len
  -- the turn, once the operation's law says where the row lies
  have close : ∀ (v' : Value) (w' : World), w'.ownsRow 0 Te E.sz v' (xs.length + ys.length) (cells ++ news) → w.grownBy w' v.ownBlock → (v'.ownBlock = v.ownBlock ∨ ∀ g, v'.ownBlock = some g → w.heap.size ≤ g) → w.drawn ≤ w'.drawn → St w0 s (.arr E Te v' (xs ++ ys) :: H) w' := by
    intro v' w' hown hgrow hwhere hdr
    refine hS.turn hgrow.os hgrow.tape hgrow.output hdr hgrow.size ?_
    rintro c1 ⟨_, _, _, rfl⟩
    refine ⟨v'.ownBlock.toList, ⟨cells ++ news, h1.append hr, by rw [List.length_append]; exact hown, rfl⟩, ?_, ?_, ?_⟩
    · cases v'.ownBlock <;> simp
    · intro x hx
      rcases hwhere with h | h
      · exact .inl (by rw [← h]; exact hx)
      · exact .inr (h x (by simpa using hx))
    · intro x hx hne
      refine hgrow.block x hx ?_
      intro e
      rw [← e] at hne
      simp at hne
  rcases h2.2 with ⟨rfl, hx0⟩ | ⟨g, cap, cur, rfl, hbg, hg, hnc, hcm, hcs, htake⟩
  · have h2' : w.ownsRow w.heap.size Te E.sz (.slice none 0 0) xs.length cells := ⟨h2.1, .inl ⟨rfl, hx0⟩⟩
    obtain ⟨v', w', hrun, hown, hgrow, _⟩ := run_append_own (P := P) w w.heap.size t ty Te i z E.sz by_ hu hi hz' hsz hbs hzs E.pos _ xs.length cells h2' ad ys.length c news hr.len hnews (hr.one) h63 hb (Nat.le_refl _)
    refine ⟨v', w', hrun, close v' w' ⟨hown.1, hown.2.imp (fun h => h) (fun ⟨g, cap, cur, a1, _, a2⟩ => ⟨g, cap, cur, a1, Nat.zero_le _, a2⟩)⟩ hgrow (.inr fun g hg => (hown.lt g hg).1) ?_⟩
    by_cases hm : ys.length = 0
    · have h0 : news = [] := List.eq_nil_of_length_eq_zero (by rw [hr.len, hm, Nat.zero_mul])
      have hf := run_firstCells_some (P := P) w i.size 0 ad 0 c [] (by simp) (by simp)
      have hrun0 : (Builtin.append_ #[t, t] ty #[.slice none 0 0, .slice (some ad) 0 c]).run P w = .ok (.slice none 0 0) w := by
        simp [Builtin.append_, run_underlying hu, sizeOf, typeInfo, hi, Builtin.lenOf, hf]
      rw [hm, hrun0] at hrun
      cases hrun
      exact Nat.le_refl _
    · have hrun0 := run_append_nil (P := P) w t ty Te i z hu hi hz' ad ys.length c news (by rw [hr.len, hsz]) hnews (by omega) (by simp only [maxLen] at h63; omega) (by rw [hbs]; rw [hx0, Nat.zero_add] at hb; omega)
      rw [hrun] at hrun0
      cases hrun0
      exact Nat.le_succ _
  · by_cases hroom : xs.length + ys.length ≤ cap
    · obtain ⟨w', hrun, hown, hgrow⟩ := run_append_fits (P := P) w 0 t ty Te i E.sz hu hi hsz g xs.length cap cells h2 ad ys.length c news hr.len hnews hr.one hroom
      refine ⟨_, w', hrun, close _ w' hown hgrow (.inl rfl) ?_⟩
      have hrun0 := run_append_room (P := P) w t ty Te i hu hi g xs.length cap cur hg ad ys.length c news (by rw [hr.len, hsz]) hnews hr.one hroom (by rw [hr.len, hsz, hcs, ← Nat.add_mul]; exact Nat.mul_le_mul_right _ hroom)
      rw [hrun] at hrun0
      cases hrun0
      exact Nat.le_refl _
    · have holds := h2.cells (g := g) rfl
      have hrun := run_append_grow (P := P) w t ty Te i z hu hi hz' ⟨g, 0, none⟩ xs.length cap cells (by rw [hlen, hsz]) holds ad ys.length c news (by rw [hr.len, hsz]) hnews (by omega) (by simp only [maxLen] at h63; omega) (by rw [hbs]; exact growslice_fits (by omega) hb)
      refine ⟨_, _, hrun, ?_⟩
      refine close _ _ ?_ ?_ (.inr fun x hx => ?_) (show w.drawn ≤ w.drawn + 1 from Nat.le_succ w.drawn)
      · have hge := grownCap_ge w (xs.length + ys.length) cap Te
        have hcm' := grownCap_le_maxLen w (xs.length + ys.length) cap Te h63
        refine ⟨by rw [List.length_append, hlen, hr.len, Nat.add_mul], .inr ⟨w.heap.size, _, _, rfl, Nat.zero_le _, heap_alloc_new w.drew _, hge, hcm', ?_, ?_⟩⟩
        · simp only [Array.size_append, List.size_toArray, size_zeroCells, hzs, hlen, hr.len, ← Nat.add_mul]
          congr 1
          omega
        · simp only [Array.toList_append, List.append_assoc]
          rw [← List.append_assoc, Nat.add_mul, ← hlen, ← hr.len, ← List.length_append]
          exact List.take_left
      · exact ⟨rfl, rfl, rfl, by simp, fun k hk _ => heap_push_lt w.drew _ hk⟩
      · simp [Value.ownBlock] at hx
        omega
/-- 'append(v, x)', x laid into a block of its own by the text. -/
theorem Exec.append_box {α : Type} {E : Enc α} {Te : TypeId} {v u z : Value} {xs ys zs : List α} {t by_ b n cap : Nat} {cs : List Value} {x y : Operand} (hS : St w0 s (.arr E Te v xs :: .box b Te cs :: H) w)
    (hT : tySlice P t = some (Te, E.sz, by_)) (hz : tyZero P Te = some z) (hzs : z.cells.size = E.sz) (hby : 0 < by_) (ho : o.op = .call { callee := .builtin .append, args := #[x, y], argTypes := #[t, t] }) (hx : ρ x = v) (hy : ρ y = u)
    (hu : u = .slice (some ⟨b, 0, none⟩) n cap) (hr : reps E s cs ys) (hn : n = ys.length) (ha : app by_ xs ys = some zs)
    (hk : ∀ v' w', St w0 s (.arr E Te v' zs :: H) w' → K v' w') : Exec P ρ o w K := by
  obtain ⟨hb, rfl⟩ := app_some ha
  subst hn
  have hbox := (hS.perm (.swap _ _ _)).box_heap
  have hcell : ∀ j u, cs[j]? = some u → w.cell? ((⟨b, 0, none⟩ : Addr).add j) = some u := by
    intro j u hj
    rw [Addr.add_lit]
    simp [World.cell?, hbox, hj]
  obtain ⟨v', w', hrun, hS'⟩ := arr_append_core (P := P) (ty := o.type) hS hT hz hzs ⟨b, 0, none⟩ cap cs hcell hr hb hby
  refine .of_run (v := v') (w' := w') ?_ (hk v' w' (hS'.perm (.swap _ _ _)).drop)
  unfold execOp
  simp only [ho, resolve, invoke, builtin, Sem.run_bind, Sem.run_pure, Result.andThen_ok, List.map_toArray, List.map_cons, List.map_nil, hx, hy, hu, hrun]
theorem arr_append_nothing {α : Type} {E : Enc α} {Te : TypeId} {v : Value} {xs : List α} {t ty by_ : Nat} (hS : St w0 s (.arr E Te v xs :: H) w) (hT : tySlice P t = some (Te, E.sz, by_)) :
    (Builtin.append_ #[t, t] ty #[v, .slice none 0 0]).run P w = .ok v w := by
  obtain ⟨i, hu, hi, hsz, hbs⟩ := tySlice_parts hT
  obtain ⟨bs, hn, hss, b1, b2, e, ⟨cells, h1, h2, rfl⟩, h3⟩ := hS.own
  exact run_append_owned_none (P := P) w 0 t ty Te i E.sz hu hi v xs.length cells h2
/-- 'append(v, u...)', u off what stays. -/
theorem Exec.append_rep {α : Type} {E : Enc α} {Te : TypeId} {v u z : Value} {xs ys zs : List α} {t by_ : Nat} {x y : Operand} (hS : St w0 s (.arr E Te v xs :: H) w)
    (hT : tySlice P t = some (Te, E.sz, by_)) (hz : tyZero P Te = some z) (hzs : z.cells.size = E.sz) (hby : 0 < by_) (ho : o.op = .call { callee := .builtin .append, args := #[x, y], argTypes := #[t, t] }) (hx : ρ x = v) (hy : ρ y = u)
    (hu : SliceRep E s u ys) (ha : app by_ xs ys = some zs)
    (hk : ∀ v' w', St w0 s (.arr E Te v' zs :: H) w' → K v' w') : Exec P ρ o w K := by
  obtain ⟨hb, rfl⟩ := app_some ha
  rcases hu with ⟨rfl, rfl⟩ | ⟨a, cap, rfl, rfl⟩ | ⟨b, off, cap, c, T', fz, cells, rfl, h1, h2, h3, h4, h5⟩
  · have hrun := arr_append_nothing (P := P) (ty := o.type) hS hT
    rw [List.append_nil] at hk
    refine .of_run (v := v) (w' := w) ?_ (hk v w hS)
    unfold execOp
    simp only [ho, resolve, invoke, builtin, Sem.run_bind, Sem.run_pure, Result.andThen_ok, List.map_toArray, List.map_cons, List.map_nil, hx, hy, hrun]
  · obtain ⟨v', w', hrun, hS'⟩ := arr_append_core (P := P) (ty := o.type) (ys := []) hS hT hz hzs a cap [] (fun j u hj => by simp at hj) rfl hb hby
    refine .of_run (v := v') (w' := w') ?_ (hk v' w' hS')
    unfold execOp
    rw [List.length_nil] at hrun
    simp only [ho, resolve, invoke, builtin, Sem.run_bind, Sem.run_pure, Result.andThen_ok, List.map_toArray, List.map_cons, List.map_nil, hx, hy, hrun]
  · have hcell : ∀ j u, cells[j]? = some u → w.cell? ((⟨b, off, none⟩ : Addr).add j) = some u := by
      intro j u hj
      rw [Addr.add_lit, cell_of_stay hS h3]
      rw [← h4, List.getElem?_take] at hj
      split at hj
      · rw [List.getElem?_drop] at hj; simpa using hj
      · cases hj
    obtain ⟨v', w', hrun, hS'⟩ := arr_append_core (P := P) (ty := o.type) hS hT hz hzs ⟨b, off, none⟩ cap cells hcell h5 hb hby
    refine .of_run (v := v') (w' := w') ?_ (hk v' w' hS')
    unfold execOp
    simp only [ho, resolve, invoke, builtin, Sem.run_bind, Sem.run_pure, Result.andThen_ok, List.map_toArray, List.map_cons, List.map_nil, hx, hy, hrun]
/-- 'append(v, u...)', u another slice of the call's own. -/
theorem Exec.append_arr {α : Type} {E : Enc α} {Te : TypeId} {v u z : Value} {xs ys zs : List α} {t by_ : Nat} {x y : Operand} (hS : St w0 s (.arr E Te v xs :: .arr E Te u ys :: H) w)
    (hT : tySlice P t = some (Te, E.sz, by_)) (hz : tyZero P Te = some z) (hzs : z.cells.size = E.sz) (hby : 0 < by_) (ho : o.op = .call { callee := .builtin .append, args := #[x, y], argTypes := #[t, t] }) (hx : ρ x = v) (hy : ρ y = u)
    (ha : app by_ xs ys = some zs)
    (hk : ∀ v' w', St w0 s (.arr E Te v' zs :: .arr E Te u ys :: H) w' → K v' w') : Exec P ρ o w K := by
  obtain ⟨hb, rfl⟩ := app_some ha
  have hS2 := hS.perm (.swap _ _ _)
  obtain ⟨bs, hn, hss, b1, b2, e, ⟨cells, h1, h2, rfl⟩, h3⟩ := hS2.own
  rcases h2.2 with ⟨rfl, hx0⟩ | ⟨g, cap, cur, rfl, hbg, hg, hnc, hcm, hcs, htake⟩
  · have hrun := arr_append_nothing (P := P) (ty := o.type) hS hT
    have hys : ys = [] := List.eq_nil_of_length_eq_zero hx0
    subst hys
    rw [List.append_nil] at hk
    refine .of_run (v := v) (w' := w) ?_ (hk v w hS)
    unfold execOp
    simp only [ho, resolve, invoke, builtin, Sem.run_bind, Sem.run_pure, Result.andThen_ok, List.map_toArray, List.map_cons, List.map_nil, hx, hy, hrun]
  · have hcell := h2.cells (g := g) rfl
    obtain ⟨v', w', hrun, hS'⟩ := arr_append_core (P := P) (ty := o.type) hS hT hz hzs ⟨g, 0, none⟩ cap cells hcell h1 hb hby
    refine .of_run (v := v') (w' := w') ?_ (hk v' w' hS')
    unfold execOp
    simp only [ho, resolve, invoke, builtin, Sem.run_bind, Sem.run_pure, Result.andThen_ok, List.map_toArray, List.map_cons, List.map_nil, hx, hy, hrun]
/-! ### make, literals -/
theorem reps_replicate {α : Type} {E : Enc α} {c : List Value} {x : α} (h : E.rep s c x) : ∀ n, reps E s (List.replicate n c).flatten (List.replicate n x)
  | 0 => rfl
  | n + 1 => ⟨c, _, by simp [List.replicate_succ], h, reps_replicate h n⟩
theorem madeCells_eq {c : List Value} (hc : 0 < c.length) (n : Nat) : (madeCells c.toArray (n * c.length)).toList = (List.replicate n c).flatten := by
  apply List.ext_getElem?
  intro i
  have h1 : (List.replicate n c).flatten.length = n * c.length := by simp
  by_cases hi : i < n * c.length
  · have hd : i / c.length < n := Nat.div_lt_of_lt_mul (by rw [Nat.mul_comm]; exact hi)
    have e2 : ∀ (m i : Nat), i < m * c.length → (List.replicate m c).flatten[i]? = c[i % c.length]? := by
      intro m
      induction m with
      | zero => intro i h; simp at h
      | succ m ih =>
        intro i h
        rw [List.replicate_succ, List.flatten_cons]
        by_cases hlt : i < c.length
        · rw [List.getElem?_append_left hlt, Nat.mod_eq_of_lt hlt]
        · rw [List.getElem?_append_right (by omega), ih _ (by rw [Nat.add_mul] at h; omega), Nat.mod_eq_sub_mod (a := i) (by omega)]
    rw [e2 n i hi]
    have hm : i % c.length < c.length := Nat.mod_lt _ hc
    simp [madeCells, hi, hm]
  · rw [List.getElem?_eq_none (by simp [madeCells]; omega), List.getElem?_eq_none (by omega)]
theorem Exec.make {α : Type} {E : Enc α} {Te : TypeId} {z : Value} {y : α} {zs : List α} {by_ : Nat} {k k' : IntKind} {l c : Operand} {n : Int} (hS : St w0 s H w) (hT : tySlice P T = some (Te, E.sz, by_)) (hz : tyZero P Te = some z) (hzr : E.rep s z.cells.toList y)
    (ho : o.op = .makeSlice T l c) (hl : ρ l = .int k n) (hc : ρ c = .int k' n) (hm : mk by_ y n = some zs) (hk : ∀ v w', St w0 s (.arr E Te v zs :: H) w' → K v w') : Exec P ρ o w K := by
  obtain ⟨h0, hb, h63, rfl⟩ := mk_some hm
  obtain ⟨i, hu, hi, hsz, hbs⟩ := tySlice_parts hT
  obtain ⟨i', hi', hz'⟩ := tyZero_parts hz
  rw [hi] at hi'
  cases hi'
  have hn63 : n.toNat ≤ maxLen := by simp only [maxLen]; omega
  have hrun := run_make (P := P) w T Te i z hu hi hz' k k' n n h0 (Int.le_refl _) (by rw [hbs]; have h : ((by_ * n.toNat : Nat) : Int) ≤ 281474976710656 := (by omega); rw [Int.natCast_mul, Int.toNat_of_nonneg h0] at h; exact h) h63
  have hzl := E.len hzr
  have hcells : (madeCells z.cells (n.toNat * i.size)).toList = (List.replicate n.toNat z.cells.toList).flatten := by
    have := madeCells_eq (c := z.cells.toList) (by rw [hzl]; exact E.pos) n.toNat
    rw [hzl] at this
    simpa [hsz] using this
  have hA := hS.alloc Te (List.replicate n.toNat z.cells.toList).flatten
  have hB := hA.boxArr (reps_replicate hzr n.toNat) (by simpa using hn63)
  have hv : (madeCells z.cells (n.toNat * i.size)) = (List.replicate n.toNat z.cells.toList).flatten.toArray := by rw [← hcells]
  rw [hv] at hrun
  simp only [List.length_replicate] at hB
  refine .of_run (v := _) (w' := _) ?_ (hk _ _ hB)
  unfold execOp
  simp only [ho, hl, hc, Sem.run_bind, Sem.run_pure, Result.andThen_ok, hrun]
theorem cells_one {v : Value} (h : v.oneCell' = true) : v.cells = [v].toArray := by
  cases v <;> simp_all [Value.cells, Value.oneCell']
theorem cells_of {x v : Value} {c : List Value} (h : x = v) (hc : v.cells = c.toArray) : x.cells = c.toArray := by rw [h, hc]
def partsC (ρ : Operand → Value) (parts : List (Nat × Operand)) (pcs : List (Nat × List Value)) : Prop := List.map (fun (p : Nat × Operand) => (p.1, (ρ p.2).cells)) parts = List.map (fun (q : Nat × List Value) => (q.1, q.2.toArray)) pcs
theorem parts_nil : partsC ρ [] [] := rfl
theorem parts_cons {i : Nat} {x : Operand} {c : List Value} {l : List (Nat × Operand)} {ps : List (Nat × List Value)} (h : (ρ x).cells = c.toArray) (hl : partsC ρ l ps) : partsC ρ ((i, x) :: l) ((i, c) :: ps) := by
  unfold partsC at *
  simp [h, hl]
def aggs (pcs : List (Nat × List Value)) : List (Nat × Value) := pcs.map fun q => (q.1, .agg q.2.toArray)
theorem fill_congr (place : Nat → Option (Nat × Nat)) : ∀ (ps qs : List (Nat × Value)) (cells : Array Value), ps.map (fun p => (p.1, p.2.cells)) = qs.map (fun p => (p.1, p.2.cells)) → Instr.fill place cells ps = Instr.fill place cells qs
  | [], [], _, _ => rfl
  | (i, v) :: ps, (j, u) :: qs, cells, h => by
    simp only [List.map_cons, List.cons.injEq, Prod.mk.injEq] at h
    obtain ⟨⟨rfl, h2⟩, h3⟩ := h
    unfold Instr.fill
    rw [h2]
    cases place i with
    | none => rfl
    | some y =>
      obtain ⟨off, size⟩ := y
      simp only []
      split
      · rfl
      · exact fill_congr place ps qs _ h3
  | [], _ :: _, _, h => by simp at h
  | _ :: _, [], _, h => by simp at h
theorem aggs_cells {parts : List (Nat × Operand)} {pcs : List (Nat × List Value)} (h : partsC ρ parts pcs) : (List.map (fun (p : Nat × Operand) => (p.1, ρ p.2)) parts).map (fun p => (p.1, p.2.cells)) = (aggs pcs).map (fun p => (p.1, p.2.cells)) := by
  unfold partsC at h
  unfold aggs
  rw [List.map_map, List.map_map]
  exact h
theorem build_congr {ps qs : List (Nat × Value)} (h : ps.map (fun p => (p.1, p.2.cells)) = qs.map (fun p => (p.1, p.2.cells))) : (Instr.build T ps.toArray).run P w = (Instr.build T qs.toArray).run P w := by
  have := fun place cells => fill_congr place ps qs cells h
  unfold Instr.build
  simp only [this]
theorem buildSlice_congr {n : Nat} {ps qs : List (Nat × Value)} (h : ps.map (fun p => (p.1, p.2.cells)) = qs.map (fun p => (p.1, p.2.cells))) : (Instr.buildSlice T n ps.toArray).run P w = (Instr.buildSlice T n qs.toArray).run P w := by
  have := fun place cells => fill_congr place ps qs cells h
  unfold Instr.buildSlice
  simp only [this]
theorem one_nil : ∀ v ∈ ([] : List Value), v.oneCell' = true := by simp
theorem Zj {a : Value} {l : List Value} (h : a.oneCell' = true) (hl : ∀ v ∈ l, v.oneCell' = true) : ∀ v ∈ a :: l, v.oneCell' = true := by
  intro v hv
  rcases List.mem_cons.1 hv with e | e
  · rw [e]; exact h
  · exact hl v e
theorem args_nil : List.map ρ [] = [] := rfl
theorem Zi {x : Operand} {v : Value} {l : List Operand} {vs : List Value} (h : ρ x = v) (hl : List.map ρ l = vs) : List.map ρ (x :: l) = v :: vs := by simp [h, hl]
theorem Exec.buildSlice {Te n : Nat} {parts : List (Nat × Operand)} {pcs : List (Nat × List Value)} {cs : List Value} (hS : St w0 s H w) (ho : o.op = .buildSlice T n parts.toArray) (hps : partsC ρ parts pcs)
    (hrun : ∀ w : World, (Instr.buildSlice T n (aggs pcs).toArray).run P w = .ok (.slice (some ⟨w.heap.size, 0, none⟩) n n) (w.alloc (.cells cs.toArray Te))) (hk : ∀ b w', St w0 s (.box b Te cs :: H) w' → K (.slice (some ⟨b, 0, none⟩) n n) w') : Exec P ρ o w K := by
  refine .of_run (v := _) (w' := _) ?_ (hk _ _ (hS.alloc Te cs))
  unfold execOp
  simp only [ho, List.map_toArray, Sem.run_bind, Sem.run_pure, Result.andThen_ok, buildSlice_congr (aggs_cells hps), hrun]
theorem Exec.build {parts : List (Nat × Operand)} {pcs : List (Nat × List Value)} {v : Value} (ho : o.op = .build T parts.toArray) (hps : partsC ρ parts pcs)
    (hrun : ∀ w : World, (Instr.build T (aggs pcs).toArray).run P w = .ok v w) (hk : K v w) : Exec P ρ o w K := by
  refine .of_run (v := v) ?_ hk
  unfold execOp
  simp only [ho, List.map_toArray, Sem.run_bind, Sem.run_pure, Result.andThen_ok, build_congr (aggs_cells hps), hrun]
theorem Exec.indexv {x i : Operand} {u iv v : Value} (ho : o.op = .index T x i) (hx : ρ x = u) (hi : ρ i = iv) (hrun : (Instr.index T u iv).run P w = .ok v w) (hk : K v w) : Exec P ρ o w K := by
  refine .of_run (v := v) ?_ hk
  unfold execOp
  simp only [ho, hx, hi, Sem.run_bind, Sem.run_pure, Result.andThen_ok, hrun]
end
end Go.Pw
