/- -/
import GoSem.Core.Value
import Derived.IntWalk
import Derived.WalkKit
namespace Go.Pw
universe u
theorem Z.{zu} {α : Sort zu} {a : α} : a = a := rfl
abbrev Vs : Option Addr → Nat → Nat → Value := Value.slice
abbrev Vb : Bool → Value := Value.bool
abbrev Vp : Option Addr → Value := Value.pointer
abbrev Vq (b : Nat) : Value := Value.pointer (some ⟨b, 0, none⟩)
abbrev Vn : Value := Value.slice none 0 0
theorem Zu {α : Type} {a b : α} (h : some a = some b) : a = b := Option.some.inj h
theorem Zx {a b : Bool} (h : a = b) : Value.bool a = Value.bool b := congrArg Value.bool h
abbrev U : Int → Value := Value.int IntKind.i64
def Jc {α : Type} (xs : List α) (n : Int) : Option α := if 0 ≤ n then xs[n.toNat]? else none
def Kv {α : Type} (xs : List α) (n : Int) (y : α) : Option (List α) := if 0 ≤ n ∧ n.toNat < xs.length then some (xs.set n.toNat y) else none
def app {α : Type} (b : Nat) (xs ys : List α) : Option (List α) := if (xs.length + ys.length) * b ≤ 140737488355328 then some (xs ++ ys) else none
def mk {α : Type} (b : Nat) (z : α) (n : Int) : Option (List α) := if 0 ≤ n ∧ b * n.toNat ≤ 281474976710656 ∧ n ≤ 9223372036854775807 then some (List.replicate n.toNat z) else none
def cut {α : Type} (xs : List α) (l h : Int) : Option (List α) := if 0 ≤ l ∧ l ≤ h ∧ h ≤ xs.length then some ((xs.take h.toNat).drop l.toNat) else none
def must (b : Bool) : Option Unit := if b then some () else none
inductive Ctl (S R : Type) where
 | next (s : S)
 | brk (s : S)
 | ret (r : R)
def JS {S R : Type} (B : Nat → S → Option (Ctl S R)) : Nat → Nat → S → Option (Ctl S R)
 | 0, _, s => some (.next s)
 | k + 1, i, s => match B i s with
  | some (.next s') => JS B k (i + 1) s'
  | r => r
def forS {S : Type} (B : Nat → S → Option S) : Nat → Nat → S → Option S
 | 0, _, s => some s
 | k + 1, i, s => (B i s).bind fun s' => forS B k (i + 1) s'
def Qam {S R : Type} (B : S → Option (Ctl S R)) : Nat → S → Option (Ctl S R)
 | 0, _ => none
 | k + 1, s => match B s with
  | some (.next s') => Qam B k s'
  | r => r
open Classical in
noncomputable def Kw {S R : Type} (B : S → Option (Ctl S R)) (s : S) : Option (Ctl S R) :=
 if h : ∃ k c, Qam B k s = some c then some h.choose_spec.choose else none
section
variable {S R : Type} {B : S → Option (Ctl S R)}
theorem QdU : ∀ {k : Nat} {s : S} {c : Ctl S R}, Qam B k s = some c → ∀ j, Qam B (k + j) s = some c
 | 0, _, _, h, _ => by simp [Qam] at h
 | k + 1, s, c, h, j => by
  rw [Nat.add_right_comm]
  simp only [Qam] at h ⊢
  split at h
  ·exact QdU h j
  ·exact h
theorem Qk7 {j k : Nat} {s : S} {c d : Ctl S R} (h : Qam B j s = some c) (h' : Qam B k s = some d) : c = d := by
 have h1 := QdU h k
 have h2 := QdU h' j
 rw [Nat.add_comm] at h2
 rw [h1] at h2
 exact Zu h2
theorem QeK {k : Nat} {s : S} {c : Ctl S R} (h : Qam B k s = some c) : Kw B s = some c := by
 have hex : ∃ k c, Qam B k s = some c := ⟨k, c, h⟩
 unfold Kw
 rw [dif_pos hex]
 exact congrArg some (Qk7 hex.choose_spec.choose_spec h)
theorem QiC {s : S} {c : Ctl S R} (h : Kw B s = some c) : ∃ k, Qam B k s = some c := by
 unfold Kw at h
 split at h
 ·rename_i hex
  have := Zu h
  exact ⟨hex.choose, by rw [hex.choose_spec.choose_spec, this]⟩
 ·cases h
theorem QiD {s s' : S} (h : B s = some (.next s')) : Kw B s = Kw B s' := by
 by_cases hex : ∃ k c, Qam B k s' = some c
 ·obtain ⟨k, c, hk⟩ := hex
  rw [QeK hk]
  exact QeK (k := k + 1) (by simp only [Qam, h]; exact hk)
 ·have : ¬ ∃ k c, Qam B k s = some c := by
   rintro ⟨k, c, hk⟩
   cases k with
   | zero => simp [Qam] at hk
   | succ k => simp only [Qam, h] at hk; exact hex ⟨k, c, hk⟩
  unfold Kw
  rw [dif_neg hex, dif_neg this]
theorem Qfc {s : S} {c : Ctl S R} (h : B s = some c) (hc : ∀ s', c ≠ .next s') : Kw B s = some c :=
 QeK (k := 1) (by simp only [Qam, h]; cases c <;> first | rfl | exact absurd rfl (hc _))
end
theorem Zg {α β : Type} {x : Option α} {f : α → Option β} {r : β} (h : x.bind f = some r) : ∃ a, x = some a ∧ f a = some r := by
 cases x with
 | none => cases h
 | some a => exact ⟨a, rfl, h⟩
theorem Q7 {b : Bool} {u : Unit} (h : must b = some u) : b = true := by
 unfold must at h; split at h <;> simp_all
theorem Qev {α : Type} {b : Nat} {xs ys zs : List α} (h : app b xs ys = some zs) : (xs.length + ys.length) * b ≤ 140737488355328 ∧ zs = xs ++ ys := by
 unfold app at h; split at h
 ·rename_i hb; exact ⟨hb, (Zu h).symm⟩
 ·cases h
theorem QjU {α : Type} {b : Nat} {z : α} {n : Int} {zs : List α} (h : mk b z n = some zs) : 0 ≤ n ∧ b * n.toNat ≤ 281474976710656 ∧ n ≤ 9223372036854775807 ∧ zs = List.replicate n.toNat z := by
 unfold mk at h; split at h
 ·rename_i hb; exact ⟨hb.1, hb.2.1, hb.2.2, (Zu h).symm⟩
 ·cases h
theorem Qg {α : Type} {xs : List α} {n : Int} {y : α} (h : Jc xs n = some y) : 0 ≤ n ∧ n < xs.length ∧ xs[n.toNat]? = some y := by
 unfold Jc at h; split at h
 ·rename_i h0
  have := (List.getElem?_eq_some_iff.1 h).1
  exact ⟨h0, by omega, h⟩
 ·cases h
theorem Qao {α : Type} {xs zs : List α} {n : Int} {y : α} (h : Kv xs n y = some zs) : 0 ≤ n ∧ n.toNat < xs.length ∧ zs = xs.set n.toNat y := by
 unfold Kv at h; split at h
 ·rename_i h0; exact ⟨h0.1, h0.2, (Zu h).symm⟩
 ·cases h
theorem Qi8 {α : Type} {xs zs : List α} {l r : Int} (h : cut xs l r = some zs) : 0 ≤ l ∧ l ≤ r ∧ r ≤ xs.length ∧ zs = (xs.take r.toNat).drop l.toNat := by
 unfold cut at h; split at h
 ·rename_i h0; exact ⟨h0.1, h0.2.1, h0.2.2, (Zu h).symm⟩
 ·cases h
abbrev J2 {α1 α2 : Type} {δ : Sort u} (f : α1 → α2 → δ) (t : α1 × α2) : δ := f t.1 t.2
theorem Jp {α1 α2 : Type} {δ : Sort u} {f : α1 → α2 → δ} {a1 : α1} {a2 : α2} {r : δ} (h : J2 f (a1, a2) = r) : f a1 a2 = r := h
abbrev un3 {α1 α2 α3 : Type} {δ : Sort u} (f : α1 → α2 → α3 → δ) (t : α1 × α2 × α3) : δ := f t.1 t.2.1 t.2.2
theorem Qbt {α1 α2 α3 : Type} {δ : Sort u} {f : α1 → α2 → α3 → δ} {a1 : α1} {a2 : α2} {a3 : α3} {r : δ} (h : un3 f (a1, a2, a3) = r) : f a1 a2 a3 = r := h
abbrev un4 {α1 α2 α3 α4 : Type} {δ : Sort u} (f : α1 → α2 → α3 → α4 → δ) (t : α1 × α2 × α3 × α4) : δ := f t.1 t.2.1 t.2.2.1 t.2.2.2
theorem Qhx {α1 α2 α3 α4 : Type} {δ : Sort u} {f : α1 → α2 → α3 → α4 → δ} {a1 : α1} {a2 : α2} {a3 : α3} {a4 : α4} {r : δ} (h : un4 f (a1, a2, a3, a4) = r) : f a1 a2 a3 a4 = r := h
abbrev un7 {α1 α2 α3 α4 α5 α6 α7 : Type} {δ : Sort u} (f : α1 → α2 → α3 → α4 → α5 → α6 → α7 → δ) (t : α1 × α2 × α3 × α4 × α5 × α6 × α7) : δ := f t.1 t.2.1 t.2.2.1 t.2.2.2.1 t.2.2.2.2.1 t.2.2.2.2.2.1 t.2.2.2.2.2.2
theorem Qlp {α1 α2 α3 α4 α5 α6 α7 : Type} {δ : Sort u} {f : α1 → α2 → α3 → α4 → α5 → α6 → α7 → δ} {a1 : α1} {a2 : α2} {a3 : α3} {a4 : α4} {a5 : α5} {a6 : α6} {a7 : α7} {r : δ} (h : un7 f (a1, a2, a3, a4, a5, a6, a7) = r) : f a1 a2 a3 a4 a5 a6 a7 = r := h
def ctl {S R β : Type} (x : Option (Ctl S R)) (kr : R → Option β) (k : S → Option β) : Option β := x.bind fun c => match c with | .ret r => kr r | .next s => k s | .brk s => k s
theorem QN {S R β : Type} {x : Option (Ctl S R)} {kr : R → Option β} {k : S → Option β} {r : β} (h : ctl x kr k = some r) :
  ∃ c, x = some c ∧ (∀ q, c = .ret q → kr q = some r) ∧ (∀ s, c = .next s → k s = some r) ∧ (∀ s, c = .brk s → k s = some r) := by
 obtain ⟨c, h1, h2⟩ := Zg h
 refine ⟨c, h1, ?_, ?_, ?_⟩ <;> (rintro _ rfl; exact h2)
def Qfp {α β : Type} (o : Option α) (kn : Option β) (ks : α → Option β) : Option β := match o with | none => kn | some d => ks d
theorem Qcz {α β : Type} {kn : Option β} {ks : α → Option β} {r : β} (h : Qfp none kn ks = some r) : kn = some r := h
theorem Qcy {α β : Type} {d : α} {kn : Option β} {ks : α → Option β} {r : β} (h : Qfp (some d) kn ks = some r) : ks d = some r := h
end Go.Pw
/- -/
namespace Go.Pw
abbrev Fr := Nat → Value
theorem QdN {m n : Nat} : Nat.beq m n = false ↔ m ≠ n := by
 cases h : Nat.beq m n with
 | true => simp [Nat.eq_of_beq_eq_true h]
 | false => simp; exact Nat.ne_of_beq_eq_false h
def upd (f : Fr) (n : Nat) (v : Value) : Fr := fun m => bif Nat.beq m n then v else f m
def JF (f : Fr) (d : Option Nat) (v : Value) : Fr := match d with | some n => upd f n v | none => f
theorem Qem (f : Fr) (n : Nat) (v : Value) : upd f n v n = v := by simp [upd]
theorem Qc7 (f : Fr) {n m : Nat} (v : Value) (h : m ≠ n) : upd f n v m = f m := by
 have : Nat.beq m n = false := QdN.2 h
 simp [upd, this]
def ev (f : Fr) : Operand → Value
 | .tmp t => f t
 | .const v => v
 | .global g => .pointer (some ⟨g, 0, none⟩)
 | .func k => .func (.func k) #[] #[]
structure Fits (N : Nat) (a : Act) (f : Fr) : Prop where
 nodefer : a.defers = []
 size : a.tmps.size = N
 get : ∀ n, a.tmps.getD n undef = f n
theorem Fits.eval {N : Nat} {a : Act} {f : Fr} (h : Fits N a f) : a.eval = ev f := by
 funext x
 cases x with
 | tmp t => exact h.get t
 | _ => rfl
def QcR (N : Nat) : Option Nat → Bool | some d => Nat.blt d N | none => true
theorem Fits.put {N : Nat} {a : Act} {f : Fr} (h : Fits N a f) {d : Option Nat} (hd : QcR N d = true) (v : Value) : Fits N (a.put d v) (JF f d v) := by
 cases d with
 | none => exact h
 | some d =>
  have hlt : d < N := by simpa [QcR, Nat.blt_eq] using hd
  refine ⟨h.nodefer, by simpa [Act.put] using h.size, fun n => ?_⟩
  by_cases e : n = d
  ·subst e
   simp [Act.put, JF, upd, h.size, hlt]
  ·have := h.get n
   simp only [JF, Qc7 _ _ e]
   rw [← this]
   simp [Act.put, Array.getElem?_setIfInBounds_ne (Ne.symm e)]
abbrev QbC := Exit → Fr → World → Prop
def Qco (N : Nat) (Q : QbC) : Exit → Act → World → Prop := fun e a w => ∃ f, Fits N a f ∧ Q e f w
def W (P : Program) (N : Nat) (c : Code) (Q : QbC) (f : Fr) (w : World) : Prop := ∀ a, Fits N a f → c.wp P (Qco N Q) a w
def Exec (P : Program) (ρ : Operand → Value) (o : Oper) (w : World) (K : Value → World → Prop) : Prop :=
 match (execOp ρ o).run P w with
 | .ok (.value v) w' => K v w'
 | .ok .skip w' => K undef w'
 | .ok (.enter f args) w' => Calls P f args w' (fun e w'' => ∃ v, e = .returned v ∧ K v w'')
 | _ => False
theorem Exec.mono {P : Program} {ρ : Operand → Value} {o : Oper} {w : World} {K K' : Value → World → Prop} (h : Exec P ρ o w K) (hk : ∀ v w', K v w' → K' v w') : Exec P ρ o w K' := by
 unfold Exec at *
 split at h <;> first
  | exact hk _ _ h
  | exact h.mono fun e w'' ⟨v, he, hv⟩ => ⟨v, he, hk _ _ hv⟩
  | exact h.elim
theorem Exec.of_run {P : Program} {ρ : Operand → Value} {o : Oper} {w w' : World} {K : Value → World → Prop} {v : Value} (h : (execOp ρ o).run P w = .ok (.value v) w') (hk : K v w') : Exec P ρ o w K := by
 unfold Exec; rw [h]; exact hk
theorem Exec.of_skip {P : Program} {ρ : Operand → Value} {o : Oper} {w w' : World} {K : Value → World → Prop} (h : (execOp ρ o).run P w = .ok .skip w') (hk : K undef w') : Exec P ρ o w K := by
 unfold Exec; rw [h]; exact hk
theorem QcF {P : Program} {o : Oper} {a : Act} {w : World} {K : Act → World → Prop} {Q : Exit → Act → World → Prop} (h : Exec P a.eval o w fun v w' => K (a.put o.dst v) w') : o.wp P a w K Q := by
 unfold Exec at h
 unfold Oper.wp
 generalize (execOp a.eval o).run P w = r at *
 split at h
 ·exact h
 ·exact h
 ·exact h.mono fun e w'' ⟨v, he, hv⟩ => by subst he; exact hv
 ·exact h.elim
def JA (ops : Array Oper) (f : Fr) (j : Nat) : Option Bool :=
 match (ops[j]?).bind (·.dst) with
 | some d => (match f d with | .bool b => some b | _ => none)
 | none => none
theorem Qbd {N : Nat} {a : Act} {f : Fr} (h : Fits N a f) (ops : Array Oper) : yielded ops a.tmps = JA ops f := by
 funext j
 unfold yielded JA
 cases hd : (ops[j]?).bind (·.dst) with
 | none => rfl
 | some d =>
  simp only [Option.bind_some]
  have hg := h.get d
  rcases Nat.lt_or_ge d a.tmps.size with hlt | hge
  ·simp [hlt] at hg
   simp [hlt, hg]
   split <;> simp_all
  ·simp [Array.getElem?_eq_none hge] at hg ⊢
   rw [← hg]; rfl
def WL (P : Program) (N : Nat) (ops : Array Oper) (Q : QbC) (l : List Oper) (f : Fr) (w : World) : Prop := ∀ a, Fits N a f → wpList P ops (Qco N Q) l a w
section
variable {P : Program} {N : Nat} {ops : Array Oper} {Q : QbC} {f : Fr} {w : World} {o : Oper} {rest : List Oper}
theorem Zb (h : Q .normal f w) : WL P N ops Q [] f w := fun _ hf => wpList_nil ⟨f, hf, h⟩
theorem O (hg : o.guard = none) (hd : QcR N o.dst = true) (h : Exec P (ev f) o w fun v w' => WL P N ops Q rest (JF f o.dst v) w') : WL P N ops Q (o :: rest) f w := by
 intro a hf
 refine wpList_plain hg fun K hK => QcF ?_
 rw [hf.eval]
 exact h.mono fun v w' hv => hK _ _ (hv _ (hf.put hd v))
theorem Qj {j : Nat} {b : Bool} (hg : o.guard = some (j, b)) (hy : JA ops f j = some b) (hd : QcR N o.dst = true)
  (h : Exec P (ev f) o w fun v w' => WL P N ops Q rest (JF f o.dst v) w') : WL P N ops Q (o :: rest) f w := by
 intro a hf
 refine wpList_step fun K hK => ?_
 have hw : Region.wanted o (yielded ops a.tmps) = true := by simp [Region.wanted, hg, Qbd hf, hy]
 rw [if_pos hw]
 refine QcF ?_
 rw [hf.eval]
 exact h.mono fun v w' hv => hK _ _ (hv _ (hf.put hd v))
theorem Zl {j : Nat} {b c : Bool} (hg : o.guard = some (j, b)) (hy : JA ops f j = some c) (hbc : (c == b) = false) (hd : QcR N o.dst = true)
  (h : WL P N ops Q rest (JF f o.dst undef) w) : WL P N ops Q (o :: rest) f w := by
 intro a hf
 refine wpList_step fun K hK => ?_
 have hw : ¬ (Region.wanted o (yielded ops a.tmps) = true) := by
  simp only [Region.wanted, hg, Qbd hf, hy]
  cases b <;> cases c <;> simp at *
 rw [if_neg hw]
 exact hK _ _ (h _ (hf.put hd undef))
theorem QhT {j : Nat} {b : Bool} (hg : o.guard = some (j, b)) (hy : JA ops f j = none) (hd : QcR N o.dst = true)
  (h : WL P N ops Q rest (JF f o.dst undef) w) : WL P N ops Q (o :: rest) f w := by
 intro a hf
 refine wpList_step fun K hK => ?_
 have hw : ¬ (Region.wanted o (yielded ops a.tmps) = true) := by
  simp [Region.wanted, hg, Qbd hf, hy]
 rw [if_neg hw]
 exact hK _ _ (h _ (hf.put hd undef))
end
section
variable {P : Program} {N : Nat} {Q : QbC} {f : Fr} {w : World}
theorem QeI {c : Code} {Q' : QbC} (h : W P N c Q f w) (hq : ∀ e f w, Q e f w → Q' e f w) : W P N c Q' f w :=
 fun a ha => wp_mono (h a ha) fun _ _ _ ⟨g, hg, hQ⟩ => ⟨g, hg, hq _ _ _ hQ⟩
theorem Zd {id : Nat} {l : List Oper} (h : WL P N l.toArray Q l f w) : W P N (.region id l.toArray false) Q f w :=
 fun a ha => wp_region_lit (h a ha)
def andThen (K : Fr → World → Prop) (Q : QbC) : QbC
 | .normal, f, w => K f w
 | e, f, w => Q e f w
theorem Zc {x y : Code} (h : W P N x (andThen (W P N y Q) Q) f w) : W P N (.seq x y) Q f w := by
 intro a ha
 refine wp_seq (wp_mono (h a ha) ?_)
 rintro e a' w' ⟨g, hg, hQ⟩
 cases e <;> first | exact hQ _ hg | exact ⟨g, hg, hQ⟩
theorem Qq (h : Q .normal f w) : W P N .skip Q f w := fun _ ha => wp_skip ⟨f, ha, h⟩
theorem Q0 (h : Q .ret f w) : W P N .ret Q f w := fun _ ha => wp_ret ⟨f, ha, h⟩
theorem QJ {id : Nat} (h : Q (.exit id) f w) : W P N (.exit id) Q f w := fun _ ha => wp_exit ⟨f, ha, h⟩
theorem QL {c : Operand} {x y : Code} (hc : ev f c = .bool true) (h : W P N x Q f w) : W P N (.cond c x y) Q f w :=
 fun a ha => wp_cond_true (by rw [ha.eval]; exact hc) (h a ha)
theorem QB {c : Operand} {x y : Code} (hc : ev f c = .bool false) (h : W P N y Q f w) : W P N (.cond c x y) Q f w :=
 fun a ha => wp_cond_false (by rw [ha.eval]; exact hc) (h a ha)
def QgV (id : Nat) (Q : QbC) : QbC
 | .exit id', f, w => bif Nat.beq id' id then Q .normal f w else Q (.exit id') f w
 | e, f, w => Q e f w
theorem Qo {id : Nat} {c : Code} (h : W P N c (QgV id Q) f w) : W P N (.block id c) Q f w := by
 intro a ha
 refine wp_block (wp_mono (h a ha) ?_)
 rintro e a' w' ⟨g, hg, hQ⟩
 cases e with
 | exit id' =>
  simp only [QgV] at hQ
  simp only [Exit.inBlock]
  by_cases e : id' = id
  ·subst e
   simp at hQ ⊢
   exact ⟨g, hg, hQ⟩
  ·have : Nat.beq id' id = false := QdN.2 e
   simp [this] at hQ
   rw [if_neg e]
   exact ⟨g, hg, hQ⟩
 | _ => exact ⟨g, hg, hQ⟩
theorem Qjp {c : Code} (J : Nat → Fr → World → Prop) (h0 : ∃ k, J k f w)
  (round : ∀ k f w, J k f w → W P N c (andThen (fun f' w' => ∃ k', k' < k ∧ J k' f' w') Q) f w) : W P N (.loop c) Q f w := by
 intro a ha
 classical
 let I : Act → World → Prop := fun a w => ∃ k f, Fits N a f ∧ J k f w
 have hdec : ∀ a w, I a w → ∃ k, (∃ f, Fits N a f ∧ J k f w) ∧ ∀ j, (∃ f, Fits N a f ∧ J j f w) → k ≤ j := by
  intro a w ⟨k, hk⟩
  induction k using Nat.strongRecOn with
  | _ k ih =>
   by_cases hm : ∃ j, j < k ∧ ∃ f, Fits N a f ∧ J j f w
   ·obtain ⟨j, hj, hf⟩ := hm
    exact ih j hj hf
   ·exact ⟨k, hk, fun j hj => Nat.le_of_not_lt fun hlt => hm ⟨j, hlt, hj⟩⟩
 let μ : Act → World → Nat := fun a w => if h : I a w then (hdec a w h).choose else 0
 obtain ⟨k0, hk0⟩ := h0
 refine wp_loop I μ ⟨k0, f, ha, hk0⟩ ?_
 intro a' w' hI
 have hspec := (hdec a' w' hI).choose_spec
 have hμ : μ a' w' = (hdec a' w' hI).choose := by simp [μ, hI]
 obtain ⟨⟨g, hg, hJ⟩, hmin⟩ := hspec
 refine wp_mono (round _ g w' hJ a' hg) ?_
 rintro e a'' w'' ⟨g', hg', hQ⟩
 cases e with
 | normal =>
  obtain ⟨k', hlt, hJ'⟩ := hQ
  have hI' : I a'' w'' := ⟨k', g', hg', hJ'⟩
  refine ⟨hI', ?_⟩
  have hμ' : μ a'' w'' = (hdec a'' w'' hI').choose := by simp [μ, hI']
  rw [hμ, hμ']
  exact Nat.lt_of_le_of_lt ((hdec a'' w'' hI').choose_spec.2 k' ⟨g', hg', hJ'⟩) hlt
 | _ => exact ⟨g', hg', hQ⟩
/-! ### A function's QjK and return -/
def QjK (args : Array Value) : Fr := fun n => args.getD n undef
def QcC (P : Program) (fn : Func) (f : Fr) (w : World) (v : Value) : Prop := ∀ a, Fits fn.ntmps a f → (results fn a.tmps).run P w = .ok v w
def Qn3 (P : Program) (fn : Func) (R : Value → World → Prop) : QbC
 | .normal, f, w | .ret, f, w => ∃ v, QcC P fn f w v ∧ R v w
 | _, _, _ => False
theorem Qw {k : FuncId} {fn : Func} {c : Code} {args : Array Value} {R : Value → World → Prop} (hf : P.funcs[k]? = some fn) (hb : fn.body = some c)
  (hn : Nat.ble args.size fn.ntmps = true) (h : W P fn.ntmps c (Qn3 P fn R) (QjK args) w) : Calls P k args w fun e w' => ∃ v, e = .returned v ∧ R v w' := by
 have hsz : args.size ≤ fn.ntmps := by simpa [Nat.ble_eq] using hn
 refine calls_of_wp hf hb ?_
 have hfit : Fits fn.ntmps { tmps := args ++ Array.replicate (fn.ntmps - args.size) undef, defers := [] } (QjK args) := by
  refine ⟨Z, by simp; omega, fun n => ?_⟩
  unfold QjK
  rcases Nat.lt_or_ge n args.size with h1 | h1
  ·simp [h1, Array.getElem?_append]
  ·simp only [Array.getD_eq_getD_getElem?, Array.getElem?_append, Nat.not_lt.2 h1, if_false, Array.getElem?_eq_none h1, Option.getD_none]
   rcases Nat.lt_or_ge (n - args.size) (fn.ntmps - args.size) with h2 | h2
   ·simp [h2]
   ·simp [h2]
 refine wp_mono (h _ hfit) ?_
 rintro e a w' ⟨g, hg, hQ⟩
 cases e with
 | normal => obtain ⟨v, hr, hR⟩ := hQ; exact ⟨hg.nodefer, v, hr a hg, v, rfl, hR⟩
 | ret => obtain ⟨v, hr, hR⟩ := hQ; exact ⟨hg.nodefer, v, hr a hg, v, rfl, hR⟩
 | exit id => exact hQ.elim
 | goto l => exact hQ.elim
 | panic ch => exact hQ.elim
 | outgrown => exact hQ.elim
theorem QW {fn : Func} {t : Nat} (h : fn.results = #[.tmp t]) : QcC P fn f w (f t) := by
 intro a ha; rw [results_tmp h]; rw [ha.get]
theorem QbU {fn : Func} {t u : Nat} (h : fn.results = #[.tmp t, .tmp u]) : QcC P fn f w (.tuple #[f t, f u]) := by
 intro a ha; rw [results_tmp2 h]; rw [ha.get, ha.get]
end
theorem Qgr {p q : Nat → Bool} {i : Nat} (hp : p i = true) (hq : q i = false) (hpq : ∀ j, j ≠ i → p j = q j) : ∀ n, i < n → (List.range n).countP p = (List.range n).countP q + 1 := by
 have same : ∀ n, n ≤ i → (List.range n).countP p = (List.range n).countP q := by
  intro n
  induction n with
  | zero => intro _; rfl
  | succ n ih =>
   intro h
   rw [List.range_succ, List.countP_append, List.countP_append, ih (by omega)]
   simp [hpq n (by omega)]
 intro n
 induction n with
 | zero => intro h; omega
 | succ n ih =>
  intro h
  rw [List.range_succ, List.countP_append, List.countP_append]
  by_cases e : n = i
  ·subst e
   rw [same n (Nat.le_refl _)]
   simp [hp, hq]
  ·rw [ih (by omega)]
   simp only [List.countP_cons, List.countP_nil]
   rw [hpq n e]
   omega
/-! ### A region that draws its order: the head (the first n0 operations) in any order, the tail (each waits for all ahead of it) in the text's. -/
section
variable {P : Program} {N : Nat} {Q : QbC}
def Qcr (ops : List Oper) (t : Nat) : Bool :=
 match ops[t]? with
 | some o => (List.range t).all fun j => o.after.any fun e => Region.binds .any e && Nat.beq e.on j
 | none => true
def Qdx (ops : List Oper) (t j : Nat) : Bool :=
 match ops[t]? with
 | some o => o.after.any fun e => Region.binds .any e && Nat.beq e.on j
 | none => true
def drawOK (N n0 : Nat) (ops : List Oper) : Bool :=
 (Nat.ble n0 ops.length) && ((List.range ops.length).all fun t => Nat.blt t n0 || Qcr ops t || (Nat.blt n0 t && Qdx ops t (t - 1))) &&
 (ops.take n0).all (fun o => (match o.dst with | some d => Nat.blt d N | none => false)) &&
 (ops.drop n0).all (fun o => QcR N o.dst) &&
 decide (((ops.take n0).map (·.dst)).Nodup) &&
 ((List.range ops.length).all fun t => match ops[t]? with | some o => o.after.all fun e => !(Region.binds .any e) || Nat.blt e.on t | none => true)
def QdI (ops : List Oper) (i : Nat) : Nat := ((ops[i]?).bind (·.dst)).getD 0
end
end Go.Pw
/- -/
namespace Go.Pw
/-! ### The heap that stays -/
abbrev PHeap := Nat → Option Obj
def PHeap.le (s t : PHeap) : Prop := ∀ b o, s b = some o → t b = some o
theorem Zv (s : PHeap) : PHeap.le s s := fun _ _ h => h
theorem PHeap.le.trans {s t u : PHeap} (h : PHeap.le s t) (k : PHeap.le t u) : PHeap.le s u := fun b o hb => k b o (h b o hb)
theorem Zt {s t u : PHeap} (h : PHeap.le s t) (k : PHeap.le t u) : PHeap.le s u := h.trans k
/-! ### How data lie in cells -/
structure Enc (α : Type) where
 agg : Bool
 sz : Nat
 pos : 0 < sz
 rep : PHeap → List Value → α → Prop
 len : ∀ {s cs a}, rep s cs a → cs.length = sz
 one : ∀ {s cs a}, rep s cs a → ∀ v ∈ cs, v.oneCell' = true
 mono : ∀ {s t cs a}, PHeap.le s t → rep s cs a → rep t cs a
 single : agg = false → sz = 1
def Enc.val {α : Type} (E : Enc α) (s : PHeap) (v : Value) (a : α) : Prop := if E.agg then ∃ cs, v = .agg cs ∧ E.rep s cs.toList a else E.rep s [v] a
theorem QhZ {α : Type} {E : Enc α} {s t : PHeap} {v : Value} {a : α} (h : E.val s v a) (l : PHeap.le s t) : E.val t v a := by
 unfold Enc.val at *
 split
 ·rename_i hg; rw [if_pos hg] at h; exact let ⟨cs, hv, hr⟩ := h; ⟨cs, hv, E.mono l hr⟩
 ·rename_i hg; rw [if_neg hg] at h; exact E.mono l h
theorem QgS {α : Type} {E : Enc α} {s : PHeap} {v : Value} {a : α} (h : E.val s v a) : E.rep s v.cells.toList a := by
 unfold Enc.val at h
 split at h
 ·obtain ⟨cs, rfl, hr⟩ := h; exact hr
 ·rename_i hg
  have h1 := E.one h v (by simp)
  have : v.cells = #[v] := by cases v <;> simp_all [Value.cells, Value.oneCell']
  rw [this]; exact h
def Yi {α : Type} (f : α → Value) (h : ∀ a, (f a).oneCell' = true) : Enc α where
 agg := false
 sz := 1
 pos := by decide
 rep := fun _ cs a => cs = [f a]
 len := by rintro s cs a rfl; rfl
 one := by rintro s cs a rfl v hv; simp at hv; subst hv; exact h a
 mono := fun _ h => h
 single := fun _ => rfl
def Qa (k : IntKind) : Enc Int := Yi (.int k) (fun _ => rfl)
def encBool : Enc Bool := Yi .bool (fun _ => rfl)
def encStr : Enc ByteArray := Yi .string (fun _ => rfl)
def QD (T : TypeId) : Option Int → Value
 | none => .nilIface
 | some n => .iface T (.int .i64 n)
def encRaw : Enc Value where
 agg := false
 sz := 1
 pos := by decide
 rep := fun _ cs a => cs = [a] ∧ a.oneCell' = true
 len := by rintro s cs a ⟨rfl, _⟩; rfl
 one := by rintro s cs a ⟨rfl, h⟩ v hv; simp at hv; subst hv; exact h
 mono := fun _ h => h
 single := fun _ => rfl
theorem Qdi {α : Type} {f : α → Value} {h : ∀ a, (f a).oneCell' = true} {s : PHeap} {v : Value} {a : α} : (Yi f h).val s v a ↔ v = f a := by
 simp [Enc.val, Yi]
theorem Qv {k : IntKind} {s : PHeap} {v : Value} {a : Int} : (Qa k).val s v a ↔ v = .int k a := Qdi
theorem J0 {s : PHeap} {v : Value} {a : Bool} : encBool.val s v a ↔ v = .bool a := Qdi
theorem QdX {s : PHeap} {v : Value} {a : ByteArray} : encStr.val s v a ↔ v = .string a := Qdi
def Enc.pair {α β : Type} (A : Enc α) (B : Enc β) : Enc (α × β) where
 agg := true
 sz := A.sz + B.sz
 pos := Nat.add_pos_left A.pos _
 rep := fun s cs p => ∃ c1 c2, cs = c1 ++ c2 ∧ A.rep s c1 p.1 ∧ B.rep s c2 p.2
 len := by rintro s cs p ⟨c1, c2, rfl, h1, h2⟩; simp [A.len h1, B.len h2]
 one := by rintro s cs p ⟨c1, c2, rfl, h1, h2⟩ v hv; rcases List.mem_append.1 hv with h | h; exact A.one h1 v h; exact B.one h2 v h
 mono := fun l ⟨c1, c2, e, h1, h2⟩ => ⟨c1, c2, e, A.mono l h1, B.mono l h2⟩
 single := by intro h; cases h
def Enc.iso {α β : Type} (A : Enc α) (f : β → α) : Enc β where
 agg := true
 sz := A.sz
 pos := A.pos
 rep := fun s cs b => A.rep s cs (f b)
 len := A.len
 one := A.one
 mono := A.mono
 single := by intro h; cases h
/-! ### Rows of data -/
def reps {α : Type} (E : Enc α) (s : PHeap) : List Value → List α → Prop
 | cs, [] => cs = []
 | cs, x :: xs => ∃ c r, cs = c ++ r ∧ E.rep s c x ∧ reps E s r xs
section
variable {α : Type} {E : Enc α} {s t : PHeap}
theorem reps.mono (l : PHeap.le s t) : ∀ {xs : List α} {cs : List Value}, reps E s cs xs → reps E t cs xs
 | [], _, h => h
 | _ :: _, _, ⟨c, r, e, h1, h2⟩ => ⟨c, r, e, E.mono l h1, reps.mono l h2⟩
theorem reps.len : ∀ {xs : List α} {cs : List Value}, reps E s cs xs → cs.length = xs.length * E.sz
 | [], _, h => by cases h; simp
 | x :: xs, _, ⟨c, r, e, h1, h2⟩ => by
  subst e
  simp only [List.length_append, List.length_cons, E.len h1, reps.len h2, Nat.add_mul, Nat.one_mul]
  omega
theorem reps.one : ∀ {xs : List α} {cs : List Value}, reps E s cs xs → ∀ v ∈ cs, v.oneCell' = true
 | [], _, h => by cases h; simp
 | x :: xs, _, ⟨c, r, e, h1, h2⟩ => by
  subst e
  intro v hv
  rcases List.mem_append.1 hv with h | h
  ·exact E.one h1 v h
  ·exact reps.one h2 v h
theorem reps.append : ∀ {xs ys : List α} {cs ds : List Value}, reps E s cs xs → reps E s ds ys → reps E s (cs ++ ds) (xs ++ ys)
 | [], _, _, _, h, k => by cases h; exact k
 | x :: xs, _, _, _, ⟨c, r, e, h1, h2⟩, k => ⟨c, r ++ _, by rw [e, List.append_assoc], h1, reps.append h2 k⟩
theorem reps.get : ∀ {xs : List α} {cs : List Value} {i : Nat} {x : α}, reps E s cs xs → xs[i]? = some x → ∃ c, E.rep s c x ∧ (cs.drop (i * E.sz)).take E.sz = c
 | [], _, _, _, _, hx => by simp at hx
 | y :: ys, _, 0, x, ⟨c, r, e, h1, h2⟩, hx => by
  simp at hx
  subst hx; subst e
  exact ⟨c, h1, by rw [Nat.zero_mul, List.drop_zero, ← E.len h1, List.take_left]⟩
 | y :: ys, _, i + 1, x, ⟨c, r, e, h1, h2⟩, hx => by
  simp at hx
  obtain ⟨d, hd, hr⟩ := reps.get h2 hx
  subst e
  refine ⟨d, hd, ?_⟩
  rw [← hr, Nat.add_mul, Nat.one_mul, Nat.add_comm (i * E.sz), ← List.drop_drop, ← E.len h1, List.drop_left]
theorem reps.set : ∀ {xs : List α} {cs : List Value} {i : Nat} {c : List Value} {x : α}, reps E s cs xs → i < xs.length → E.rep s c x →
  reps E s (cs.take (i * E.sz) ++ c ++ cs.drop (i * E.sz + E.sz)) (xs.set i x)
 | [], _, _, _, _, _, hi, _ => by simp at hi
 | y :: ys, _, 0, c, x, ⟨c1, r, e, h1, h2⟩, _, hc => by
  subst e
  refine ⟨c, r, ?_, hc, h2⟩
  simp only [Nat.zero_mul, List.take_zero, List.nil_append, Nat.zero_add]
  rw [← E.len h1, List.drop_left]
 | y :: ys, _, i + 1, c, x, ⟨c1, r, e, h1, h2⟩, hi, hc => by
  subst e
  refine ⟨c1, _, ?_, h1, reps.set h2 (by simpa using hi) hc⟩
  rw [show (i + 1) * E.sz = c1.length + i * E.sz by rw [E.len h1, Nat.add_mul]; omega, Nat.add_assoc, List.take_length_add_append, List.drop_length_add_append, List.append_assoc, List.append_assoc, List.append_assoc]
theorem reps.take : ∀ {xs : List α} {cs : List Value} (n : Nat), reps E s cs xs → reps E s (cs.take (n * E.sz)) (xs.take n)
 | [], _, n, h => by cases h; simp [reps]
 | x :: xs, _, 0, _ => by simp [reps]
 | x :: xs, _, n + 1, ⟨c, r, e, h1, h2⟩ => by
  subst e
  refine ⟨c, r.take (n * E.sz), ?_, h1, reps.take n h2⟩
  rw [show (n + 1) * E.sz = c.length + n * E.sz by rw [E.len h1, Nat.add_mul]; omega, List.take_length_add_append]
theorem reps.drop : ∀ {xs : List α} {cs : List Value} (n : Nat), reps E s cs xs → reps E s (cs.drop (n * E.sz)) (xs.drop n)
 | [], _, n, h => by cases h; simp [reps]
 | x :: xs, _, 0, h => by simpa using h
 | x :: xs, _, n + 1, ⟨c, r, e, h1, h2⟩ => by
  subst e
  rw [show (n + 1) * E.sz = c.length + n * E.sz by rw [E.len h1, Nat.add_mul]; omega, List.drop_length_add_append]
  exact reps.drop n h2
end
def SliceRep {α : Type} (E : Enc α) (s : PHeap) (v : Value) (xs : List α) : Prop :=
 (v = .slice none 0 0 ∧ xs = []) ∨ (∃ (a : Addr) (cap : Nat), v = .slice (some a) 0 cap ∧ xs = []) ∨
 ∃ (b off cap : Nat) (c : Array Value) (T : TypeId) (fz : Nat × Nat) (cells : List Value), v = .slice (some ⟨b, off, none⟩) xs.length cap ∧ xs.length ≤ cap ∧ cap ≤ maxLen ∧
  s b = some (.cells c T fz) ∧ (c.toList.drop off).take cells.length = cells ∧ reps E s cells xs
theorem SliceRep.mono {α : Type} {E : Enc α} {s t : PHeap} {v : Value} {xs : List α} (l : PHeap.le s t) (h : SliceRep E s v xs) : SliceRep E t v xs := by
 rcases h with h | h | ⟨b, off, cap, c, T, fz, cells, hv, h1, h2, h3, h4, h5⟩
 ·exact .inl h
 ·exact .inr (.inl h)
 ·exact .inr (.inr ⟨b, off, cap, c, T, fz, cells, hv, h1, h2, l _ _ h3, h4, h5.mono l⟩)
def QM {α : Type} (E : Enc α) : Enc (List α) where
 agg := false
 sz := 1
 pos := by decide
 rep := fun s cs xs => ∃ v, cs = [v] ∧ SliceRep E s v xs
 len := by rintro s cs xs ⟨v, rfl, _⟩; rfl
 one := by
  rintro s cs xs ⟨v, rfl, h⟩ u hu
  simp at hu; subst hu
  rcases h with ⟨rfl, _⟩ | ⟨a, cap, rfl, _⟩ | ⟨b, off, cap, c, T, fz, cells, rfl, _⟩ <;> rfl
 mono := fun l ⟨v, e, h⟩ => ⟨v, e, h.mono l⟩
 single := fun _ => rfl
theorem K3 {α : Type} {E : Enc α} {s : PHeap} {v : Value} {xs : List α} : (QM E).val s v xs ↔ SliceRep E s v xs := by
 simp [Enc.val, QM]
def Qn6 {α : Type} (n : Nat) (hn : 0 < n) (E : Enc α) : Enc (List α) where
 agg := true
 sz := n * E.sz
 pos := Nat.mul_pos hn E.pos
 rep := fun s cs xs => xs.length = n ∧ reps E s cs xs
 len := by rintro s cs xs ⟨rfl, h⟩; exact h.len
 one := fun ⟨_, h⟩ => h.one
 mono := fun l ⟨e, h⟩ => ⟨e, h.mono l⟩
 single := by intro h; cases h
/-! ### What the call owns -/
structure Res where
 p : PHeap → World → List Nat → Prop
 loc : ∀ {s w w' bs}, p s w bs → (∀ b ∈ bs, w'.heap[b]? = w.heap[b]?) → p s w' bs
 mono : ∀ {s t w bs}, PHeap.le s t → p s w bs → p t w bs
 lt : ∀ {s w bs}, p s w bs → ∀ b ∈ bs, b < w.heap.size
def Res.box (b : Nat) (T : TypeId) (cs : List Value) : Res where
 p := fun _ w bs => bs = [b] ∧ w.heap[b]? = some (.cells cs.toArray T (0, 0))
 loc := by rintro s w w' bs ⟨rfl, h⟩ hw; exact ⟨rfl, by rw [hw b (by simp)]; exact h⟩
 mono := fun _ h => h
 lt := by rintro s w bs ⟨rfl, h⟩ b' hb; simp at hb; subst hb; exact (Array.getElem?_eq_some_iff.1 h).1
def Res.arr {α : Type} (E : Enc α) (T : TypeId) (v : Value) (xs : List α) : Res where
 p := fun s w bs => ∃ cells, reps E s cells xs ∧ w.ownsRow 0 T E.sz v xs.length cells ∧ bs = v.ownBlock.toList
 loc := by
  rintro s w w' bs ⟨cells, h1, ⟨h2, h3⟩, rfl⟩ hw
  refine ⟨cells, h1, ⟨h2, ?_⟩, Z⟩
  rcases h3 with h | ⟨g, cap, cur, rfl, hb, hg, r⟩
  ·exact .inl h
  ·exact .inr ⟨g, cap, cur, Z, hb, by rw [hw g (by simp [Value.ownBlock])]; exact hg, r⟩
 mono := fun l ⟨cells, h1, h⟩ => ⟨cells, h1.mono l, h⟩
 lt := by
  rintro s w bs ⟨cells, h1, h2, rfl⟩ b hb
  exact (h2.lt b (by simpa using hb)).2
def rowsP {α : Type} (E : Enc α) (T : TypeId) (s : PHeap) (w : World) : List Value → List (List α) → List Nat → Prop
 | [], [], bs => bs = []
 | h :: hs, xs :: xss, bs => ∃ b1 b2, bs = b1 ++ b2 ∧ (Res.arr E T h xs).p s w b1 ∧ rowsP E T s w hs xss b2
 | _, _, _ => False
theorem rowsP.loc {α : Type} {E : Enc α} {T : TypeId} {s : PHeap} {w w' : World} : ∀ {hs : List Value} {xss : List (List α)} {bs : List Nat}, rowsP E T s w hs xss bs → (∀ b ∈ bs, w'.heap[b]? = w.heap[b]?) → rowsP E T s w' hs xss bs
 | [], [], _, h, _ => h
 | _ :: _, _ :: _, _, ⟨b1, b2, e, h1, h2⟩, hw => by
  subst e
  exact ⟨b1, b2, Z, (Res.arr E T _ _).loc h1 (fun b hb => hw b (List.mem_append_left _ hb)), rowsP.loc h2 (fun b hb => hw b (List.mem_append_right _ hb))⟩
 | [], _ :: _, _, h, _ => h.elim
 | _ :: _, [], _, h, _ => h.elim
theorem rowsP.mono {α : Type} {E : Enc α} {T : TypeId} {s t : PHeap} {w : World} (l : PHeap.le s t) : ∀ {hs : List Value} {xss : List (List α)} {bs : List Nat}, rowsP E T s w hs xss bs → rowsP E T t w hs xss bs
 | [], [], _, h => h
 | _ :: _, _ :: _, _, ⟨b1, b2, e, h1, h2⟩ => ⟨b1, b2, e, (Res.arr E T _ _).mono l h1, rowsP.mono l h2⟩
 | [], _ :: _, _, h => h.elim
 | _ :: _, [], _, h => h.elim
theorem rowsP.lt {α : Type} {E : Enc α} {T : TypeId} {s : PHeap} {w : World} : ∀ {hs : List Value} {xss : List (List α)} {bs : List Nat}, rowsP E T s w hs xss bs → ∀ b ∈ bs, b < w.heap.size
 | [], [], _, h, b, hb => by cases h; simp at hb
 | _ :: _, _ :: _, _, ⟨b1, b2, e, h1, h2⟩, b, hb => by
  subst e
  rcases List.mem_append.1 hb with h | h
  ·exact (Res.arr E T _ _).lt h1 b h
  ·exact rowsP.lt h2 b h
 | [], _ :: _, _, h, _, _ => h.elim
 | _ :: _, [], _, h, _, _ => h.elim
theorem rowsP.length {α : Type} {E : Enc α} {T : TypeId} {s : PHeap} {w : World} : ∀ {hs : List Value} {xss : List (List α)} {bs : List Nat}, rowsP E T s w hs xss bs → hs.length = xss.length
 | [], [], _, _ => rfl
 | _ :: _, _ :: _, _, ⟨_, _, _, _, h2⟩ => by simp [rowsP.length h2]
 | [], _ :: _, _, h => h.elim
 | _ :: _, [], _, h => h.elim
def Res.rows {α : Type} (E : Enc α) (T : TypeId) (hs : List Value) (xss : List (List α)) : Res where
 p := fun s w bs => rowsP E T s w hs xss bs
 loc := rowsP.loc
 mono := fun l h => rowsP.mono l h
 lt := rowsP.lt
def seps (s : PHeap) (w : World) : List Res → List Nat → Prop
 | [], bs => bs = []
 | R :: H, bs => ∃ b1 b2, bs = b1 ++ b2 ∧ R.p s w b1 ∧ seps s w H b2
theorem seps.loc {s : PHeap} {w w' : World} : ∀ {H : List Res} {bs : List Nat}, seps s w H bs → (∀ b ∈ bs, w'.heap[b]? = w.heap[b]?) → seps s w' H bs
 | [], _, h, _ => h
 | R :: _, _, ⟨b1, b2, e, h1, h2⟩, hw => by
  subst e
  exact ⟨b1, b2, Z, R.loc h1 (fun b hb => hw b (List.mem_append_left _ hb)), seps.loc h2 (fun b hb => hw b (List.mem_append_right _ hb))⟩
theorem seps.mono {s t : PHeap} {w : World} (l : PHeap.le s t) : ∀ {H : List Res} {bs : List Nat}, seps s w H bs → seps t w H bs
 | [], _, h => h
 | R :: _, _, ⟨b1, b2, e, h1, h2⟩ => ⟨b1, b2, e, R.mono l h1, seps.mono l h2⟩
theorem seps.lt {s : PHeap} {w : World} : ∀ {H : List Res} {bs : List Nat}, seps s w H bs → ∀ b ∈ bs, b < w.heap.size
 | [], _, h, b, hb => by cases h; simp at hb
 | R :: _, _, ⟨b1, b2, e, h1, h2⟩, b, hb => by
  subst e
  rcases List.mem_append.1 hb with h | h
  ·exact R.lt h1 b h
  ·exact seps.lt h2 b h
theorem seps.perm {s : PHeap} {w : World} {H H' : List Res} (hp : H.Perm H') : ∀ {bs : List Nat}, seps s w H bs → ∃ bs', bs.Perm bs' ∧ seps s w H' bs' := by
 induction hp with
 | nil => exact fun h => ⟨_, .refl _, h⟩
 | cons R _ ih =>
  rintro bs ⟨b1, b2, e, h1, h2⟩
  obtain ⟨b2', hp', h2'⟩ := ih h2
  subst e
  exact ⟨b1 ++ b2', List.Perm.append_left _ hp', b1, b2', Z, h1, h2'⟩
 | swap R R' H =>
  rintro bs ⟨b1, b2, e, h1, c1, c2, e2, h2, h3⟩
  subst e; subst e2
  refine ⟨c1 ++ (b1 ++ c2), ?_, c1, b1 ++ c2, Z, h2, b1, c2, Z, h1, h3⟩
  rw [← List.append_assoc, ← List.append_assoc]
  exact List.Perm.append_right _ List.perm_append_comm
 | trans _ _ ih1 ih2 =>
  intro bs h
  obtain ⟨bs1, p1, h1⟩ := ih1 h
  obtain ⟨bs2, p2, h2⟩ := ih2 h1
  exact ⟨bs2, p1.trans p2, h2⟩
structure St (w0 : World) (s : PHeap) (H : List Res) (w : World) : Prop where
 os : w.os = w0.os
 tape : w.tape = w0.tape
 output : w.output = w0.output
 drawn : w0.drawn ≤ w.drawn
 size : w0.heap.size ≤ w.heap.size
 stay : ∀ b o, s b = some o → w.heap[b]? = some o
 own : ∃ bs, bs.Nodup ∧ (∀ b ∈ bs, s b = none) ∧ seps s w H bs
section
variable {w0 w w' : World} {s t : PHeap} {H H' : List Res} {R : Res}
theorem St.perm (h : St w0 s H w) (hp : H.Perm H') : St w0 s H' w := by
 obtain ⟨bs, hn, hs, hb⟩ := h.own
 obtain ⟨bs', p', h'⟩ := hb.perm hp
 exact ⟨h.os, h.tape, h.output, h.drawn, h.size, h.stay, bs', p'.nodup_iff.1 hn, fun b hm => hs b (p'.mem_iff.2 hm), h'⟩
theorem St.drop (h : St w0 s (R :: H) w) : St w0 s H w := by
 obtain ⟨bs, hn, hs, b1, b2, e, h1, h2⟩ := h.own
 subst e
 exact ⟨h.os, h.tape, h.output, h.drawn, h.size, h.stay, b2, (List.nodup_append.1 hn).2.1, fun b hm => hs b (List.mem_append_right _ hm), h2⟩
theorem St.drew (h : St w0 s H w) : St w0 s H w.drew :=
 ⟨h.os, h.tape, h.output, Nat.le_succ_of_le h.drawn, h.size, h.stay, let ⟨bs, hn, hs, hb⟩ := h.own; ⟨bs, hn, hs, hb.loc fun _ _ => rfl⟩⟩
theorem St.new (h : St w0 s H w) : s w.heap.size = none := by
 cases e : s w.heap.size with
 | none => rfl
 | some o => have := h.stay _ _ e; simp at this
theorem K2 (w : World) (o : Obj) {b : Nat} (h : b < w.heap.size) : (w.alloc o).heap[b]? = w.heap[b]? := heap_alloc_old w o h
theorem St.alloc (h : St w0 s H w) (T : TypeId) (cs : List Value) : St w0 s (.box w.heap.size T cs :: H) (w.alloc (.cells cs.toArray T)) := by
 obtain ⟨bs, hn, hs, hb⟩ := h.own
 have hlt := hb.lt
 refine ⟨h.os, h.tape, h.output, h.drawn, Nat.le_trans h.size (by simp), fun b o hbo => ?_, w.heap.size :: bs, List.nodup_cons.2 ⟨fun hm => Nat.lt_irrefl _ (hlt _ hm), hn⟩, ?_, [w.heap.size], bs, Z, ⟨Z, heap_alloc_new w _⟩, hb.loc fun b hm => K2 w _ (hlt b hm)⟩
 ·have := h.stay b o hbo
  rw [K2 w _ (Array.getElem?_eq_some_iff.1 this).1]
  exact this
 ·intro b hm
  rcases List.mem_cons.1 hm with e | hm
  ·subst e; exact h.new
  ·exact hs b hm
theorem St.turn {R' : Res} (h : St w0 s (R :: H) w) (hos : w'.os = w.os) (htape : w'.tape = w.tape) (hout : w'.output = w.output) (hdr : w.drawn ≤ w'.drawn) (hsize : w.heap.size ≤ w'.heap.size)
  (hk : ∀ b1, R.p s w b1 → ∃ b1', R'.p s w' b1' ∧ b1'.Nodup ∧ (∀ b ∈ b1', b ∈ b1 ∨ w.heap.size ≤ b) ∧ ∀ b, b < w.heap.size → b ∉ b1 → w'.heap[b]? = w.heap[b]?) : St w0 s (R' :: H) w' := by
 obtain ⟨bs, hn, hs, b1, b2, e, h1, h2⟩ := h.own
 subst e
 obtain ⟨b1', r1, r2, r3, r4⟩ := hk b1 h1
 have hlt2 := h2.lt
 obtain ⟨n1, n2, n3⟩ := List.nodup_append.1 hn
 refine ⟨hos.trans h.os, htape.trans h.tape, hout.trans h.output, Nat.le_trans h.drawn hdr, Nat.le_trans h.size hsize, fun b o hbo => ?_, b1' ++ b2, List.nodup_append.2 ⟨r2, n2, ?_⟩, ?_, b1', b2, Z, r1, h2.loc fun b hm => ?_⟩
 ·have hw := h.stay b o hbo
  rw [r4 b (Array.getElem?_eq_some_iff.1 hw).1 (fun hm => by have := hs b (List.mem_append_left _ hm); rw [this] at hbo; cases hbo)]
  exact hw
 ·intro a ha b hb e
  subst e
  rcases r3 a ha with hm | hm
  ·exact n3 a hm a hb Z
  ·have := hlt2 a hb; omega
 ·intro b hm
  rcases List.mem_append.1 hm with hm | hm
  ·rcases r3 b hm with hm | hm
   ·exact hs b (List.mem_append_left _ hm)
   ·cases e : s b with
    | none => rfl
    | some o => have := (Array.getElem?_eq_some_iff.1 (h.stay _ _ e)).1; omega
  ·exact hs b (List.mem_append_right _ hm)
 ·exact r4 b (hlt2 b hm) (fun hm' => n3 b hm' b hm Z)
theorem St.freezeWith (h : St w0 s (R :: H) w) : ∃ (bs : List Nat) (t : PHeap), R.p s w bs ∧ PHeap.le s t ∧ (∀ b ∈ bs, t b = w.heap[b]?) ∧ St w0 t H w := by
 classical
 obtain ⟨bs, hn, hs, b1, b2, e, h1, h2⟩ := h.own
 subst e
 obtain ⟨n1, n2, n3⟩ := List.nodup_append.1 hn
 let t : PHeap := fun b => if b ∈ b1 then w.heap[b]? else s b
 have hle : PHeap.le s t := by
  intro b o hb
  have : b ∉ b1 := fun hm => by have := hs b (List.mem_append_left _ hm); rw [this] at hb; cases hb
  simp [t, this, hb]
 refine ⟨b1, t, h1, hle, fun b hb => by simp [t, hb], h.os, h.tape, h.output, h.drawn, h.size, ?_, b2, n2, ?_, h2.mono hle⟩
 ·intro b o hb
  simp only [t] at hb
  split at hb
  ·exact hb
  ·exact h.stay b o hb
 ·intro b hb
  have : b ∉ b1 := fun hm => n3 b hm b hb rfl
  simp only [t, if_neg this]
  exact hs b (List.mem_append_right _ hb)
end
end Go.Pw
/- -/
set_option linter.unusedSimpArgs false
namespace Go.Pw
section
variable {P : Program} {ρ : Operand → Value} {o : Oper} {w : World} {K : Value → World → Prop}
theorem Zm {x : Operand} {v : Value} (ho : o.op = .move x) (hv : ρ x = v) (hk : K v w) : Exec P ρ o w K :=
 .of_run (v := v) (by simp [execOp, ho, hv, go_sem]) hk
theorem Zo {x : Operand} {v : Value} (ho : o.op = .assign x) (hv : ρ x = v) (hk : K v w) : Exec P ρ o w K :=
 .of_run (v := v) (by simp [execOp, ho, hv, go_sem]) hk
theorem Zs {c a b : Operand} {v : Value} (ho : o.op = .pick c a b) (hc : ρ c = .bool true) (hv : ρ a = v) (hk : K v w) : Exec P ρ o w K :=
 .of_run (v := v) (by simp [execOp, ho, hc, hv, go_sem, asBool]) hk
theorem Q8 {c a b : Operand} {v : Value} (ho : o.op = .pick c a b) (hc : ρ c = .bool false) (hv : ρ b = v) (hk : K v w) : Exec P ρ o w K :=
 .of_run (v := v) (by simp [execOp, ho, hc, hv, go_sem, asBool]) hk
theorem Qbb {op : BinOp} {T T' : TypeId} {x y : Operand} {a b v : Value} (ho : o.op = .binOp op T x y T') (hx : ρ x = a) (hy : ρ y = b) (hg : (eqGuard op T x y a b).run P w = .ok () w) (h : (binOp op T a b).run P w = .ok v w) (hk : K v w) : Exec P ρ o w K := by
 refine .of_run (v := v) ?_ hk
 unfold execOp
 simp only [ho, hx, hy, Sem.run_bind, hg, Result.andThen_ok, h, Sem.run_pure]
theorem QjV (a b : Int) : (a == b) = decide (a = b) := by
 by_cases h : a = b
 ·subst h; simp
 ·simp [h]
section Qbq
variable {T T' : TypeId} {x y : Operand} {k : IntKind} {a b : Int}
theorem Qay {op : BinOp} {v : Value} (ho : o.op = .binOp op T x y T') (hx : ρ x = .int k a) (hy : ρ y = .int k b) (h : (binOp op T (.int k a) (.int k b)).run P w = .ok v w) : (execOp ρ o).run P w = .ok (.value v) w := by
 have hg : (eqGuard op T x y (.int k a) (.int k b)).run P w = .ok () w := by cases op <;> simp [eqGuard, go_sem]
 unfold execOp
 simp only [ho, hx, hy, Sem.run_bind, hg, Result.andThen_ok, h, Sem.run_pure]
theorem Zq (ho : o.op = .binOp .lss T x y T') (hx : ρ x = .int k a) (hy : ρ y = .int k b) (hk : K (.bool (decide (a < b))) w) : Exec P ρ o w K :=
 .of_run (Qay ho hx hy (by simp [binOp, go_sem])) hk
theorem Exec.leq (ho : o.op = .binOp .leq T x y T') (hx : ρ x = .int k a) (hy : ρ y = .int k b) (hk : K (.bool (decide (a ≤ b))) w) : Exec P ρ o w K :=
 .of_run (Qay ho hx hy (by simp [binOp, go_sem])) hk
theorem Exec.gtr (ho : o.op = .binOp .gtr T x y T') (hx : ρ x = .int k a) (hy : ρ y = .int k b) (hk : K (.bool (decide (b < a))) w) : Exec P ρ o w K :=
 .of_run (Qay ho hx hy (by simp [binOp, go_sem])) hk
theorem Exec.geq (ho : o.op = .binOp .geq T x y T') (hx : ρ x = .int k a) (hy : ρ y = .int k b) (hk : K (.bool (decide (b ≤ a))) w) : Exec P ρ o w K :=
 .of_run (Qay ho hx hy (by simp [binOp, go_sem])) hk
theorem Exec.eql (ho : o.op = .binOp .eql T x y T') (hx : ρ x = .int k a) (hy : ρ y = .int k b) (hk : K (.bool (decide (a = b))) w) : Exec P ρ o w K :=
 .of_run (Qay ho hx hy (by simp [binOp, go_sem]; exact QjV a b)) hk
theorem Exec.neq (ho : o.op = .binOp .neq T x y T') (hx : ρ x = .int k a) (hy : ρ y = .int k b) (hk : K (.bool (!decide (a = b))) w) : Exec P ρ o w K :=
 .of_run (Qay ho hx hy (by simp [binOp, go_sem]; show (!(a == b)) = _; rw [QjV])) hk
theorem Exec.add (ho : o.op = .binOp .add T x y T') (hx : ρ x = .int k a) (hy : ρ y = .int k b) (hk : K (.int k (k.wrap (a + b))) w) : Exec P ρ o w K :=
 .of_run (Qay ho hx hy (by simp [binOp, go_sem])) hk
theorem Exec.sub (ho : o.op = .binOp .sub T x y T') (hx : ρ x = .int k a) (hy : ρ y = .int k b) (hk : K (.int k (k.wrap (a - b))) w) : Exec P ρ o w K :=
 .of_run (Qay ho hx hy (by simp [binOp, go_sem])) hk
theorem Exec.mul (ho : o.op = .binOp .mul T x y T') (hx : ρ x = .int k a) (hy : ρ y = .int k b) (hk : K (.int k (k.wrap (a * b))) w) : Exec P ρ o w K :=
 .of_run (Qay ho hx hy (by simp [binOp, go_sem])) hk
theorem Exec.quo (ho : o.op = .binOp .quo T x y T') (hx : ρ x = .int k a) (hy : ρ y = .int k b) (h0 : b ≠ 0) (hk : K (.int k (k.wrap (a.tdiv b))) w) : Exec P ρ o w K :=
 .of_run (Qay ho hx hy (by simp [binOp, go_sem, Op.intDiv, h0])) hk
theorem Exec.rem (ho : o.op = .binOp .rem T x y T') (hx : ρ x = .int k a) (hy : ρ y = .int k b) (h0 : b ≠ 0) (hk : K (.int k (a.tmod b)) w) : Exec P ρ o w K :=
 .of_run (Qay ho hx hy (by simp [binOp, go_sem, Op.intDiv, h0])) hk
end Qbq
theorem Exec.not {T : TypeId} {x : Operand} {b : Bool} (ho : o.op = .unOp .not T x) (hx : ρ x = .bool b) (hk : K (.bool (!b)) w) : Exec P ρ o w K :=
 .of_run (by unfold execOp; simp only [ho, hx]; rfl) hk
section strs
variable {T T' : TypeId} {x y : Operand} {a b : ByteArray}
end strs
section bools
variable {T T' : TypeId} {x y : Operand} {a b : Bool}
theorem QgR (hT : P.underlying T = some .bool) (ho : o.op = .binOp .eql T x y T') (hx : ρ x = .bool a) (hy : ρ y = .bool b) (hk : K (.bool (a == b)) w) : Exec P ρ o w K :=
 .of_run (by simp [execOp, ho, hx, hy, eqGuard, go_sem, hT]) hk
end bools
section ptr
variable {T T' E : TypeId} {x y : Operand}
theorem Kh {p : Option Addr} (hT : P.underlying T = some (.pointer E)) (ho : o.op = .binOp .eql T x (.const (.pointer none)) T') (hx : ρ x = .pointer p) (hc : ρ (.const (.pointer none)) = .pointer none) (hk : K (.bool p.isNone) w) : Exec P ρ o w K := by
 refine .of_run ?_ hk
 have hp : P.pointee T = E := by simp [Program.pointee, hT]
 simp [execOp, ho, hx, hc, eqGuard, go_sem, run_eql_pointer_nil (P := P) w T p (by rw [hp]; exact hT)]
theorem Qc6 {p : Option Addr} (hT : P.underlying T = some (.pointer E)) (ho : o.op = .binOp .neq T x (.const (.pointer none)) T') (hx : ρ x = .pointer p) (hc : ρ (.const (.pointer none)) = .pointer none) (hk : K (.bool p.isSome) w) : Exec P ρ o w K := by
 refine .of_run ?_ hk
 have hp : P.pointee T = E := by simp [Program.pointee, hT]
 simp [execOp, ho, hx, hc, eqGuard, go_sem, run_neq_pointer_nil (P := P) w T p (by rw [hp]; exact hT)]
end ptr
section slc
variable {T T' E : TypeId} {x y : Operand} {a : Option Addr} {n c : Nat}
theorem QcX (w : World) (d : Nat) (t e : TypeId) (a : Option Addr) (n c n' c' : Nat) (h : P.underlying t = some (.slice e)) :
  (Op.equalIn (d + 1) t (.slice a n c) (.slice none n' c')).run P w = .ok a.isNone w := by
 cases a <;> simp [Op.equalIn, run_underlying h]
theorem QdC (w : World) (t e : TypeId) (a : Option Addr) (n c n' c' : Nat) (h : P.underlying t = some (.slice e)) :
  (Op.equal t (.slice a n c) (.slice none n' c')).run P w = .ok a.isNone w := QcX w 9999 t e a n c n' c' h
theorem QbQ (hT : P.underlying T = some (.slice E)) (ho : o.op = .binOp .eql T x (.const (.slice none 0 0)) T') (hx : ρ x = .slice a n c) (hc : ρ (.const (.slice none 0 0)) = .slice none 0 0) (hk : K (.bool a.isNone) w) : Exec P ρ o w K :=
 Qbb (op := .eql) (a := .slice a n c) (b := .slice none 0 0) ho hx hc (by simp [eqGuard]) (by simp only [binOp]; simp [QdC w T E a n c 0 0 hT]) hk
theorem YE (hT : P.underlying T = some (.slice E)) (ho : o.op = .call { callee := .builtin .len, args := #[x], argTypes := #[T] }) (hx : ρ x = .slice a n c) (hk : K (.int .i64 (n : Int)) w) : Exec P ρ o w K := by
 refine .of_run ?_ hk
 simp [execOp, ho, hx, resolve, invoke, builtin, go_sem, Builtin.len_, run_underlying hT, goInt]
theorem Qa6 {s : ByteArray} (hT : P.underlying T = some .string) (ho : o.op = .call { callee := .builtin .len, args := #[x], argTypes := #[T] }) (hx : ρ x = .string s) (hk : K (.int .i64 (s.size : Int)) w) : Exec P ρ o w K := by
 refine .of_run ?_ hk
 simp [execOp, ho, hx, resolve, invoke, builtin, go_sem, Builtin.len_, run_underlying hT, goInt]
end slc
theorem QeU {x y : Operand} {ts : Array TypeId} {k : IntKind} {a b : Int} (ho : o.op = .call { callee := .builtin .min, args := #[x, y], argTypes := ts }) (hx : ρ x = .int k a) (hy : ρ y = .int k b) (hk : K (.int k (min a b)) w) : Exec P ρ o w K := by
 refine .of_run (v := .int k (min a b)) ?_ hk
 simp [execOp, ho, hx, hy, resolve, invoke, builtin, go_sem]
 omega
theorem Qc5 {x y : Operand} {ts : Array TypeId} {k : IntKind} {a b : Int} (ho : o.op = .call { callee := .builtin .max, args := #[x, y], argTypes := ts }) (hx : ρ x = .int k a) (hy : ρ y = .int k b) (hk : K (.int k (max a b)) w) : Exec P ρ o w K := by
 refine .of_run (v := .int k (max a b)) ?_ hk
 simp [execOp, ho, hx, hy, resolve, invoke, builtin, go_sem]
 omega
theorem Exec.makeInterface {T : TypeId} {x : Operand} {v : Value} (hT : P.concrete T = true) (ho : o.op = .makeInterface T x) (hx : ρ x = v) (hk : K (.iface T v) w) : Exec P ρ o w K :=
 .of_run (by unfold execOp; simp only [ho, hx, Sem.run_bind, run_makeInterface (P := P) w T v hT, Result.andThen_ok, Sem.run_pure]) hk
theorem Exec.extract {t : Operand} {i : Nat} {vs : Array Value} {v : Value} (ho : o.op = .extract t i) (ht : ρ t = .tuple vs) (hv : vs[i]? = some v) (hk : K v w) : Exec P ρ o w K :=
 .of_run (by simp [execOp, ho, ht, hv, Instr.extract, go_sem]) hk
theorem QI {x : Operand} {a : Addr} (ho : o.op = .nilCheck x) (hx : ρ x = .pointer (some a)) (hk : K (.pointer (some a)) w) : Exec P ρ o w K :=
 .of_run (by simp [execOp, ho, hx, go_sem]) hk
/-! ### errors -/
section errs
variable {T T' I : TypeId} {x y : Operand} {e : Option Int} {ms : Array (String × TypeId)}
theorem QdD (w : World) (d : Nat) (I : TypeId) (h : P.underlying I = some (.interface ms)) (e : Option Int) :
  (Op.equalIn (d + 1) I (QD T e) .nilIface).run P w = .ok e.isNone w := by
 cases e <;> simp [Op.equalIn, run_underlying h, QD]
theorem Qce (w : World) (I : TypeId) (h : P.underlying I = some (.interface ms)) (e : Option Int) :
  (Op.equal I (QD T e) .nilIface).run P w = .ok e.isNone w := QdD w 9999 I h e
theorem Qfj (w : World) (op : BinOp) (I : TypeId) (x : Operand) (c : Value) (e : Option Int) : (eqGuard op I x (.const c) (QD T e) .nilIface).run P w = .ok () w := by
 cases op <;> cases e <;> cases x <;> simp [eqGuard, QD, go_sem]
theorem Qfs (w : World) (I : TypeId) (h : P.underlying I = some (.interface ms)) (e : Option Int) : (binOp .eql I (QD T e) .nilIface).run P w = .ok (.bool e.isNone) w := by
 have h1 := Qce (T := T) w I h e
 have h2 : binOp .eql I (QD T e) .nilIface = (do pure (.bool (← Op.equal I (QD T e) .nilIface))) := by cases e <;> rfl
 rw [h2, Sem.run_bind, h1]; rfl
theorem Qfr (w : World) (I : TypeId) (h : P.underlying I = some (.interface ms)) (e : Option Int) : (binOp .neq I (QD T e) .nilIface).run P w = .ok (.bool e.isSome) w := by
 have h1 := Qce (T := T) w I h e
 have h2 : binOp .neq I (QD T e) .nilIface = (do pure (.bool (!(← Op.equal I (QD T e) .nilIface)))) := by cases e <;> rfl
 rw [h2, Sem.run_bind, h1]; cases e <;> rfl
theorem Ki (hI : P.underlying I = some (.interface ms)) (ho : o.op = .binOp .eql I x (.const .nilIface) T') (hx : ρ x = QD T e) (hc : ρ (.const .nilIface) = .nilIface) (hk : K (.bool e.isNone) w) : Exec P ρ o w K :=
 Qbb (op := .eql) (a := QD T e) (b := .nilIface) ho hx hc (Qfj w _ _ _ _ e) (Qfs w I hI e) hk
theorem Jj (hI : P.underlying I = some (.interface ms)) (ho : o.op = .binOp .neq I x (.const .nilIface) T') (hx : ρ x = QD T e) (hc : ρ (.const .nilIface) = .nilIface) (hk : K (.bool e.isSome) w) : Exec P ρ o w K :=
 Qbb (op := .neq) (a := QD T e) (b := .nilIface) ho hx hc (Qfj w _ _ _ _ e) (Qfr w I hI e) hk
end errs
/-! ### calls -/
theorem Qe0 {c : Operand} {f : FuncId} {fn : Func} {args : List Operand} {ts : Array TypeId} {vs : List Value} {first cap : Array Value} (ho : o.op = .call { callee := .value c, args := args.toArray, argTypes := ts }) (hc : ρ c = .func (.func f) first cap)
  (hf : P.funcs[f]? = some fn) (hb : fn.body.isNone = false) (hn : (fn.name == "runtime.NumGoroutine") = false) (hargs : List.map ρ args = vs) : (execOp ρ o).run P w = .ok (.enter f (first ++ vs.toArray ++ cap)) w := by
 unfold execOp
 simp only [ho, resolve, hc, Deferred.ofValue, invoke, callFunc, Sem.run_bind, Sem.run_pure, Result.andThen_ok, program, Sem.run, hf, hn, hb, List.map_toArray, hargs, Bool.false_eq_true, if_false]
theorem Exec.call {f : FuncId} {fn : Func} {args : List Operand} {ts : Array TypeId} {vs : List Value} (ho : o.op = .call { callee := .value (.func f), args := args.toArray, argTypes := ts }) (hc : ρ (.func f) = .func (.func f) #[] #[])
  (hf : P.funcs[f]? = some fn) (hb : fn.body.isNone = false) (hn : (fn.name == "runtime.NumGoroutine") = false) (hargs : List.map ρ args = vs)
  (h : Calls P f vs.toArray w fun e w' => ∃ v, e = .returned v ∧ K v w') : Exec P ρ o w K := by
 have hrun := Qe0 (P := P) (w := w) ho hc hf hb hn hargs
 unfold Exec
 rw [hrun]
 simpa using h
theorem Qgx {c : Operand} {f : FuncId} {fn : Func} {args : List Operand} {ts : Array TypeId} {vs : List Value} {first cap : Array Value} (ho : o.op = .call { callee := .value c, args := args.toArray, argTypes := ts }) (hc : ρ c = .func (.func f) first cap)
  (hf : P.funcs[f]? = some fn) (hb : fn.body.isNone = false) (hn : (fn.name == "runtime.NumGoroutine") = false) (hargs : List.map ρ args = vs)
  (h : Calls P f (first ++ vs.toArray ++ cap) w fun e w' => ∃ v, e = .returned v ∧ K v w') : Exec P ρ o w K := by
 have hrun := Qe0 (P := P) (w := w) ho hc hf hb hn hargs
 unfold Exec
 rw [hrun]
 exact h
end
end Go.Pw
/- -/
namespace Go.Pw
/-! ### closed facts on types, as functions that the kernel reckons -/
def JU (P : Program) (T : TypeId) : Option (Bool × Nat) :=
 match P.underlying T, P.info? T with
 | some d, some i => some ((match d with | .struct _ | .array _ _ => true | _ => false), i.size)
 | _, _ => none
def Je (P : Program) (T : TypeId) : Option (TypeId × Nat × Nat) :=
 match P.underlying T with
 | some (.slice e) => (P.info? e).map fun i => (e, i.size, i.bytes)
 | _ => none
def JL (P : Program) (T : TypeId) : Option Value := (P.info? T).bind (·.zero)
def Jt (P : Program) (T : TypeId) (k : Nat) : Option Nat :=
 match P.underlying T with
 | some (.struct fs) => match fs[k]? with
  | some f => match P.info? f.type with
   | some i => if i.size = 0 then none else some f.offset
   | none => none
  | none => none
 | _ => none
section
variable {P : Program} {T : TypeId} {w : World}
theorem Qfd {b : Bool} {n : Nat} (h : JU P T = some (b, n)) : ∃ d i, P.underlying T = some d ∧ P.info? T = some i ∧ i.size = n ∧ (match d with | .struct _ | .array _ _ => true | _ => false) = b := by
 unfold JU at h
 split at h
 ·rename_i d i hd hi
  simp only [Option.some.injEq, Prod.mk.injEq] at h
  exact ⟨d, i, hd, hi, h.2, h.1⟩
 ·cases h
theorem Jq {e n b : Nat} (h : Je P T = some (e, n, b)) : ∃ i, P.underlying T = some (.slice e) ∧ P.info? e = some i ∧ i.size = n ∧ i.bytes = b := by
 unfold Je at h
 split at h
 ·rename_i e' hd
  obtain ⟨i, hi, hx⟩ := Option.map_eq_some_iff.1 h
  simp only [Prod.mk.injEq] at hx
  obtain ⟨rfl, h1, h2⟩ := hx
  exact ⟨i, hd, hi, h1, h2⟩
 ·cases h
theorem YI {z : Value} (h : JL P T = some z) : ∃ i, P.info? T = some i ∧ i.zero = some z := by
 unfold JL at h
 exact Option.bind_eq_some_iff.1 h
theorem Qha {b : Bool} {n : Nat} (h : JU P T = some (b, n)) : (isAgg T).run P w = .ok b w := by
 obtain ⟨d, i, hd, _, _, hb⟩ := Qfd h
 simp only [isAgg, Sem.run_bind, run_underlying hd, Result.andThen_ok]
 cases d <;> simp at hb <;> subst hb <;> rfl
theorem run_sizeOf' {b : Bool} {n : Nat} (h : JU P T = some (b, n)) : (sizeOf T).run P w = .ok n w := by
 obtain ⟨d, i, _, hi, hs, _⟩ := Qfd h
 simp [sizeOf, typeInfo, hi, hs]
theorem QgG {a : Addr} {v : Value} (h : w.cell? a = some v) : (load a).run P w = .ok v w := by
 simp [load, Sem.run, h]
theorem Qbv {a : Addr} {v : Value} {n : Nat} (hT : JU P T = some (false, n)) (h : w.cell? a = some v) : (loadVar T a).run P w = .ok v w := by
 simp only [loadVar, Sem.run_bind, Qha hT, Result.andThen_ok, Bool.false_eq_true, if_false, QgG h]
theorem Qaf {a : Addr} {cs : List Value} (hT : JU P T = some (true, cs.length)) (h : ∀ j v, cs[j]? = some v → w.cell? (a.add j) = some v) : (loadVar T a).run P w = .ok (.agg cs.toArray) w := by
 simp only [loadVar, Sem.run_bind, Qha hT, Result.andThen_ok, if_true, run_sizeOf' hT, run_loadCells_list w a cs h, Sem.run_pure]
theorem Qez {b off : Nat} {v : Value} {cs : List Value} {cur : Array Value} {E : TypeId} {ag : Bool} (hT : JU P T = some (ag, cs.length)) (hv : v.cells = cs.toArray) (h : w.heap[b]? = some (.cells cur E (0, 0)))
  (hfit : off + cs.length ≤ cur.size) (h1 : ∀ v ∈ cs, v.oneCell' = true) :
  (storeVar T ⟨b, off, none⟩ v).run P w = .ok () (w.setRow b (cur.toList.take off ++ cs ++ cur.toList.drop (off + cs.length)).toArray) := by
 have := run_storeCells_at P b off E cs 0 cur w h (by simpa using hfit) h1
 simp only [Nat.add_zero] at this
 simp only [storeVar, Sem.run_bind, run_sizeOf' hT, Result.andThen_ok, hv]
 simp [this]
end
def Sub {α β : Type} (E : Enc α) (off : Nat) (F : Enc β) (f : α → β) : Prop := ∀ s cells a, E.rep s cells a → F.rep s ((cells.drop off).take F.sz) (f a)
section
variable {α β γ : Type} {E : Enc α} {F : Enc β} {off : Nat}
theorem Sub.refl (E : Enc α) : Sub E 0 E id := fun s cells a h => by
 have := E.len h
 rw [List.drop_zero, ← this, List.take_length]; exact h
theorem Sub.iso {f : γ → α} {g : α → β} (h : Sub E off F g) : Sub (E.iso f) off F (fun c => g (f c)) := fun s cells a hr => h s cells (f a) hr
theorem QmT {A : Enc α} {B : Enc γ} {g : α → β} (h : Sub A off F g) : Sub (A.pair B) off F (fun p => g p.1) := by
 rintro s cells p ⟨c1, c2, rfl, h1, h2⟩
 have hr := h s c1 p.1 h1
 have hl := F.len hr
 have : (c1.drop off).length ≥ F.sz := by simp at hl ⊢; omega
 rw [List.drop_append_of_le_length (by simp at this; have := F.pos; omega), List.take_append_of_le_length this]
 exact hr
end
def At {α : Type} (s : PHeap) (b off : Nat) (E : Enc α) (a : α) : Prop := ∃ c T fz, s b = some (.cells c T fz) ∧ E.rep s ((c.toList.drop off).take E.sz) a
theorem At.mono {α : Type} {s t : PHeap} {b off : Nat} {E : Enc α} {a : α} (h : At s b off E a) (l : PHeap.le s t) : At t b off E a :=
 let ⟨c, T, fz, h1, h2⟩ := h; ⟨c, T, fz, l _ _ h1, E.mono l h2⟩
theorem At.sub {α β : Type} {s : PHeap} {b off n m : Nat} {E : Enc α} {F : Enc β} {f : α → β} {a : α} (h : At s b off E a) (hs : Sub E n F f) (hm : off + n = m) : At s b m F (f a) := by
 obtain ⟨c, T, fz, h1, h2⟩ := h
 refine ⟨c, T, fz, h1, ?_⟩
 have h3 := hs s _ a h2
 have hl := F.len h3
 have hE := E.len h2
 subst hm
 rw [List.drop_take, List.drop_drop] at h3
 rw [List.take_take] at h3
 have : min F.sz (E.sz - n) = F.sz := by
  rcases Nat.le_total F.sz (E.sz - n) with h | h
  ·omega
  ·simp only [List.length_take, List.length_drop] at hl
   omega
 rw [this] at h3
 exact h3
theorem SliceRep.shape {α : Type} {E : Enc α} {s : PHeap} {v : Value} {xs : List α} (h : SliceRep E s v xs) : ∃ a c, v = .slice a xs.length c := by
 rcases h with ⟨rfl, rfl⟩ | ⟨a, cap, rfl, rfl⟩ | ⟨b, off, cap, c, T, fz, cells, rfl, _⟩ <;> exact ⟨_, _, rfl⟩
theorem SliceRep.one {α : Type} {E : Enc α} {s : PHeap} {v : Value} {xs : List α} (h : SliceRep E s v xs) : v.oneCell' = true := by
 obtain ⟨a, c, rfl⟩ := h.shape; rfl
theorem SliceRep.nil {α : Type} (E : Enc α) (s : PHeap) : SliceRep E s (.slice none 0 0) [] := .inl ⟨rfl, rfl⟩
theorem SliceRep.le {α : Type} {E : Enc α} {s : PHeap} {v : Value} {xs : List α} (h : SliceRep E s v xs) : xs.length ≤ maxLen := by
 rcases h with ⟨rfl, rfl⟩ | ⟨a, cap, rfl, rfl⟩ | ⟨b, off, cap, c, T, fz, cells, rfl, h1, h2, _⟩
 ·simp
 ·simp
 ·omega
theorem SliceRep.at {α : Type} {E : Enc α} {s : PHeap} {v : Value} {xs : List α} {n : Int} {y : α} (h : SliceRep E s v xs) (hy : Jc xs n = some y) :
  ∃ b off c, v = .slice (some ⟨b, off, none⟩) xs.length c ∧ At s b (off + n.toNat * E.sz) E y := by
 obtain ⟨_, hlt, hget⟩ := Qg hy
 rcases h with ⟨rfl, rfl⟩ | ⟨a, cap, rfl, rfl⟩ | ⟨b, off, cap, c, T, fz, cells, rfl, h1, h2, h3, h4, h5⟩
 ·simp at hget
 ·simp at hget
 ·obtain ⟨d, hd, hr⟩ := h5.get hget
  refine ⟨b, off, cap, Z, c, T, fz, h3, ?_⟩
  have hlen := h5.len
  have hin : n.toNat * E.sz + E.sz ≤ cells.length := by
   rw [hlen, ← Nat.succ_mul]
   exact Nat.mul_le_mul_right _ (by omega)
  rw [← h4, List.drop_take, List.drop_drop, List.take_take] at hr
  have : min E.sz (cells.length - n.toNat * E.sz) = E.sz := by omega
  rw [this] at hr
  rw [hr]; exact hd
section
variable {P : Program} {ρ : Operand → Value} {o : Oper} {w w0 : World} {s : PHeap} {H : List Res} {K : Value → World → Prop} {T : TypeId}
theorem Qb6 (hS : St w0 s H w) {b off : Nat} {c : Array Value} {Te : TypeId} {fz : Nat × Nat} (h : s b = some (.cells c Te fz)) : w.cell? ⟨b, off, none⟩ = c[off]? := by
 simp [World.cell?, hS.stay _ _ h]
/-! ### what stays -/
theorem Zr {α : Type} {E : Enc α} {xs : List α} {x : Operand} {v : Value} {e n b : Nat} (hT : Je P T = some (e, n, b)) (ho : o.op = .call { callee := .builtin .len, args := #[x], argTypes := #[T] }) (hx : ρ x = v) (h : SliceRep E s v xs)
  (hk : K (.int .i64 (xs.length : Int)) w) : Exec P ρ o w K := by
 obtain ⟨i, hu, _⟩ := Jq hT
 obtain ⟨a, c, rfl⟩ := h.shape
 exact YE hu ho hx hk
theorem Qfe {b off len cap : Nat} {k : IntKind} {n : Int} {e sz by_ : Nat} (hT : Je P T = some (e, sz, by_)) (h0 : 0 ≤ n) (h1 : n < len) :
  (Instr.indexAt T (.slice (some ⟨b, off, none⟩) len cap) (.int k n)).run P w = .ok (.pointer (some ⟨b, off + n.toNat * sz, none⟩)) w := by
 obtain ⟨i, hu, hi, hs, _⟩ := Jq hT
 simp [Instr.indexAt, asIntOf, run_underlying hu, h0, h1, sizeOf, typeInfo, hi, hs, Addr.add_lit]
theorem Qd {x i : Operand} {k : IntKind} {n : Int} {b off len cap e sz by_ : Nat} (hT : Je P T = some (e, sz, by_)) (ho : o.op = .indexAddr T x i) (hx : ρ x = .slice (some ⟨b, off, none⟩) len cap) (hi : ρ i = .int k n)
  (h0 : 0 ≤ n) (h1 : n < len) (hk : K (.pointer (some ⟨b, off + n.toNat * sz, none⟩)) w) : Exec P ρ o w K := by
 refine .of_run ?_ hk
 unfold execOp
 simp only [ho, hx, hi, Sem.run_bind, Qfe hT h0 h1, Result.andThen_ok, Sem.run_pure]
theorem Qy {α : Type} {E : Enc α} {xs : List α} {y : α} {x i : Operand} {v : Value} {k : IntKind} {n : Int} {e by_ : Nat} (hT : Je P T = some (e, E.sz, by_)) (ho : o.op = .indexAddr T x i) (hx : ρ x = v) (hi : ρ i = .int k n)
  (h : SliceRep E s v xs) (hy : Jc xs n = some y) (hk : ∀ b off, At s b off E y → K (.pointer (some ⟨b, off, none⟩)) w) : Exec P ρ o w K := by
 obtain ⟨h0, h1, _⟩ := Qg hy
 obtain ⟨b, off, c, rfl, hat⟩ := h.at hy
 exact Qd hT ho hx hi h0 h1 (hk _ _ hat)
theorem Zp {x : Operand} {k b off foff m : Nat} (hT : Jt P T k = some foff) (ho : o.op = .fieldAddr T x k) (hx : ρ x = .pointer (some ⟨b, off, none⟩)) (hm : off + foff = m) (hk : K (.pointer (some ⟨b, m, none⟩)) w) : Exec P ρ o w K := by
 subst hm
 refine .of_run ?_ hk
 unfold Jt at hT
 split at hT
 ·rename_i fs hu
  split at hT
  ·rename_i f hf
   split at hT
   ·rename_i i hi
    split at hT
    ·cases hT
    ·rename_i hsz
     have hoff := Zu hT
     subst hoff
     simp [execOp, ho, hx, Instr.fieldAt, run_underlying hu, hf, Instr.sureAddr, fieldPlace, sizeOf, typeInfo, hi, hsz, Addr.add_lit, go_sem]
   ·cases hT
  ·cases hT
 ·cases hT
theorem Zw {α : Type} {E : Enc α} {y : α} {x : Operand} {b off n : Nat} (hS : St w0 s H w) (hT : JU P T = some (E.agg, E.sz)) (ho : o.op = .load T x) (hx : ρ x = .pointer (some ⟨b, off, none⟩)) (hn : off = n)
  (h : At s b n E y) (hk : ∀ v, E.val s v y → K v w) : Exec P ρ o w K := by
 subst hn
 obtain ⟨c, Te, fz, h1, h2⟩ := h
 have hlen := E.len h2
 have hcell : ∀ j v, ((c.toList.drop off).take E.sz)[j]? = some v → w.cell? ((⟨b, off, none⟩ : Addr).add j) = some v := by
  intro j v hv
  rw [Addr.add_lit, Qb6 hS h1]
  rw [List.getElem?_take] at hv
  split at hv
  ·rw [List.getElem?_drop] at hv
   simpa using hv
  ·cases hv
 cases hag : E.agg with
 | true =>
  have hrun := Qaf (P := P) (w := w) (a := ⟨b, off, none⟩) (cs := (c.toList.drop off).take E.sz) (by rw [hlen, ← hag]; exact hT) hcell
  refine .of_run (v := .agg ((c.toList.drop off).take E.sz).toArray) ?_ (hk _ ?_)
  ·unfold execOp
   simp only [ho, hx, Instr.loadAt, Instr.sureAddr, Sem.run_bind, Sem.run_pure, Result.andThen_ok, hrun]
  ·unfold Enc.val
   rw [if_pos hag]
   exact ⟨_, Z, by simpa using h2⟩
 | false =>
  have h1' := E.single hag
  rw [h1'] at h2 hcell hlen
  obtain ⟨v, hv⟩ : ∃ v, (c.toList.drop off).take 1 = [v] := by
   match hq : (c.toList.drop off).take 1, hlen with
   | [v], _ => exact ⟨v, rfl⟩
  rw [hv] at h2 hcell
  have hc0 := hcell 0 v rfl
  rw [Addr.add_zero'] at hc0
  rw [hag] at hT
  have hrun := Qbv (P := P) (w := w) hT hc0
  refine .of_run (v := v) ?_ (hk _ ?_)
  ·unfold execOp
   simp only [ho, hx, Instr.loadAt, Instr.sureAddr, Sem.run_bind, Sem.run_pure, Result.andThen_ok, hrun]
  ·unfold Enc.val
   rw [if_neg (by simp [hag])]
   exact h2
/-! ### boxes -/
theorem St.box_heap {b : Nat} {Tb : TypeId} {cs : List Value} (hS : St w0 s (.box b Tb cs :: H) w) : w.heap[b]? = some (.cells cs.toArray Tb (0, 0)) := by
 obtain ⟨bs, hn, hs, b1, b2, e, h1, h2⟩ := hS.own
 exact h1.2
theorem Exec.box {x : Operand} {v : Value} {cs : List Value} (hS : St w0 s H w) (ho : o.op = .box T x) (hx : ρ x = v) (hc : v.cells = cs.toArray) (hk : ∀ b w', St w0 s (.box b T cs :: H) w' → K (.pointer (some ⟨b, 0, none⟩)) w') : Exec P ρ o w K := by
 refine .of_run (v := .pointer (some ⟨w.heap.size, 0, none⟩)) (w' := w.alloc (.cells cs.toArray T)) ?_ (hk _ _ (hS.alloc T cs))
 unfold execOp
 simp only [ho, hx, Instr.box, newVar, newRow, newObj, hc, Sem.run_bind, Sem.run_pure, Result.andThen_ok, Sem.run]
 rfl
theorem Exec.alloc {z : Value} {cs : List Value} (hS : St w0 s H w) (hT : JL P T = some z) (ho : o.op = .alloc T) (hc : z.cells = cs.toArray) (hk : ∀ b w', St w0 s (.box b T cs :: H) w' → K (.pointer (some ⟨b, 0, none⟩)) w') : Exec P ρ o w K := by
 obtain ⟨i, hi, hz⟩ := YI hT
 refine .of_run (v := .pointer (some ⟨w.heap.size, 0, none⟩)) (w' := w.alloc (.cells cs.toArray T)) ?_ (hk _ _ (hS.alloc T cs))
 unfold execOp
 simp only [ho, Instr.alloc, zeroValue, typeInfo, program, newVar, newRow, newObj, hc, Sem.run_bind, Sem.run_pure, Result.andThen_ok, Sem.run, hi, hz]
 rfl
theorem Zn {x : Operand} {b off n : Nat} {Tb : TypeId} {cs : List Value} {v : Value} (hS : St w0 s (.box b Tb cs :: H) w) (hT : JU P T = some (false, n)) (ho : o.op = .load T x) (hx : ρ x = .pointer (some ⟨b, off, none⟩)) (hv : cs[off]? = some v) (hk : K v w) : Exec P ρ o w K := by
 have hc : w.cell? ⟨b, off, none⟩ = some v := by simp [World.cell?, hS.box_heap, hv]
 refine .of_run ?_ hk
 unfold execOp
 simp only [ho, hx, Instr.loadAt, Instr.sureAddr, Sem.run_bind, Sem.run_pure, Result.andThen_ok, Qbv hT hc]
theorem Ql {x : Operand} {b off : Nat} {Tb : TypeId} {cs ds : List Value} (hS : St w0 s (.box b Tb cs :: H) w) (hT : JU P T = some (true, ds.length)) (ho : o.op = .load T x) (hx : ρ x = .pointer (some ⟨b, off, none⟩)) (hv : (cs.drop off).take ds.length = ds) (hk : K (.agg ds.toArray) w) : Exec P ρ o w K := by
 have hc : ∀ j v, ds[j]? = some v → w.cell? ((⟨b, off, none⟩ : Addr).add j) = some v := by
  intro j v hj
  rw [← hv, List.getElem?_take] at hj
  split at hj
  ·rw [List.getElem?_drop] at hj
   rw [Addr.add_lit]
   simp [World.cell?, hS.box_heap, hj]
  ·cases hj
 refine .of_run ?_ hk
 unfold execOp
 simp only [ho, hx, Instr.loadAt, Instr.sureAddr, Sem.run_bind, Sem.run_pure, Result.andThen_ok, Qaf hT hc]
theorem Qbh (w : World) (g : Nat) (cs : Array Value) : (w.setRow g cs).heap.size = w.heap.size := by simp [World.setRow]
theorem St.box_set {b : Nat} {Tb : TypeId} {cs ds : List Value} (hS : St w0 s (.box b Tb cs :: H) w) : St w0 s (.box b Tb ds :: H) (w.setRow b ds.toArray) := by
 refine hS.turn Z Z Z (Nat.le_refl _) (by rw [Qbh]; exact Nat.le_refl _) ?_
 rintro b1 ⟨rfl, hb⟩
 refine ⟨[b], ⟨Z, setRow_heap w b _ _ _ _ hb⟩, by simp, fun x hx => .inl hx, fun x _ hx => setRow_other w b x _ (by simpa using hx)⟩
theorem Qe {x y : Operand} {b off : Nat} {Tb : TypeId} {cs ds es : List Value} {v : Value} {ag : Bool} (hS : St w0 s (.box b Tb cs :: H) w) (hT : JU P T = some (ag, ds.length)) (ho : o.op = .store T x y) (hx : ρ x = .pointer (some ⟨b, off, none⟩)) (hy : ρ y = v)
  (hc : v.cells = ds.toArray) (h1 : ∀ v ∈ ds, v.oneCell' = true) (hfit : off + ds.length ≤ cs.length) (he : cs.take off ++ ds ++ cs.drop (off + ds.length) = es) (hk : ∀ w', St w0 s (.box b Tb es :: H) w' → K undef w') : Exec P ρ o w K := by
 subst he
 have hrun := Qez (P := P) (w := w) hT hc hS.box_heap (by simpa using hfit) h1
 refine .of_skip (w' := w.setRow b (cs.take off ++ ds ++ cs.drop (off + ds.length)).toArray) ?_ (hk _ hS.box_set)
 unfold execOp
 simp only [ho, hx, hy, Instr.storeAt, Instr.sureAddr, Sem.run_bind, Sem.run_pure, Result.andThen_ok]
 simp only [List.toList_toArray] at hrun
 simp only [hrun, Result.andThen_ok, Sem.run_pure]
/-! ### slices of the call's own -/
section
variable {α : Type} {E : Enc α} {Te : TypeId} {v : Value} {xs : List α}
theorem QgH {base n : Nat} {cells : List Value} {sz : Nat} (h : w.ownsRow base Te sz v n cells) : ∃ a c, v = .slice a n c := by
 rcases h.2 with ⟨rfl, rfl⟩ | ⟨g, cap, cur, rfl, _⟩
 ·exact ⟨_, _, Z⟩
 ·exact ⟨_, _, Z⟩
theorem Qgu {bs : List Nat} (h : (Res.arr E Te v xs).p s w bs) : ∃ a c, v = .slice a xs.length c := by
 obtain ⟨cells, _, h2, _⟩ := h
 exact QgH h2
theorem St.arr_shape (hS : St w0 s (.arr E Te v xs :: H) w) : ∃ a c, v = .slice a xs.length c := by
 obtain ⟨bs, hn, hs, b1, b2, e, h1, h2⟩ := hS.own
 exact Qgu h1
theorem St.arr_one (hS : St w0 s (.arr E Te v xs :: H) w) : v.oneCell' = true := by
 obtain ⟨a, c, rfl⟩ := hS.arr_shape; rfl
theorem QmN {bs : List Nat} (h : (Res.arr E Te v xs).p s w bs) : xs.length ≤ maxLen := by
 obtain ⟨cells, h1, h2, _⟩ := h
 rcases h2.2 with ⟨_, h⟩ | ⟨g, cap, cur, rfl, _, _, h3, h4, _⟩
 ·rw [h]; exact Nat.zero_le _
 ·omega
theorem St.arr_le (hS : St w0 s (.arr E Te v xs :: H) w) : xs.length ≤ maxLen := by
 obtain ⟨bs, hn, hs, b1, b2, e, h1, h2⟩ := hS.own
 exact QmN h1
theorem QP {x : Operand} {e n b : Nat} (hS : St w0 s (.arr E Te v xs :: H) w) (hT : Je P T = some (e, n, b)) (ho : o.op = .call { callee := .builtin .len, args := #[x], argTypes := #[T] }) (hx : ρ x = v) (hk : K (.int .i64 (xs.length : Int)) w) : Exec P ρ o w K := by
 obtain ⟨i, hu, _⟩ := Jq hT
 obtain ⟨a, c, rfl⟩ := hS.arr_shape
 exact YE hu ho hx hk
theorem QmO {bs : List Nat} {n : Int} {y : α} (h : (Res.arr E Te v xs).p s w bs) (hy : Jc xs n = some y) : ∃ g cap, v = .slice (some ⟨g, 0, none⟩) xs.length cap := by
 obtain ⟨_, hlt, hget⟩ := Qg hy
 obtain ⟨cells, h1, h2, _⟩ := h
 rcases h2.2 with ⟨_, h⟩ | ⟨g, cap, cur, rfl, _⟩
 ·omega
 ·exact ⟨g, cap, Z⟩
theorem St.arr_at {n : Int} {y : α} (hS : St w0 s (.arr E Te v xs :: H) w) (hy : Jc xs n = some y) : ∃ g cap, v = .slice (some ⟨g, 0, none⟩) xs.length cap := by
 obtain ⟨bs, hn, hs, b1, b2, e, h1, h2⟩ := hS.own
 exact QmO h1 hy
theorem QjC {bs : List Nat} {g cap : Nat} {n : Int} {y : α} (h : (Res.arr E Te (.slice (some ⟨g, 0, none⟩) xs.length cap) xs).p s w bs) (hy : Jc xs n = some y) :
  ∃ cur, w.heap[g]? = some (.cells cur Te (0, 0)) ∧ E.rep s ((cur.toList.drop (n.toNat * E.sz)).take E.sz) y ∧ n.toNat * E.sz + E.sz ≤ cur.size := by
 obtain ⟨h0, hlt, hget⟩ := Qg hy
 obtain ⟨cells, h1, h2, _⟩ := h
 rcases h2.2 with ⟨h, _⟩ | ⟨g', cap', cur, hv, _, hg, hnc, _, hcs, htake⟩
 ·cases h
 ·cases hv
  obtain ⟨d, hd, hr⟩ := h1.get hget
  have hmul : n.toNat * E.sz + E.sz ≤ xs.length * E.sz := by rw [← Nat.succ_mul]; exact Nat.mul_le_mul_right _ (by omega)
  refine ⟨cur, hg, ?_, ?_⟩
  ·rw [← htake, List.drop_take, List.take_take] at hr
   have : min E.sz (xs.length * E.sz - n.toNat * E.sz) = E.sz := by omega
   rw [this] at hr
   rw [hr]; exact hd
  ·rw [hcs]
   exact Nat.le_trans hmul (Nat.mul_le_mul_right _ hnc)
theorem Qgk {β : Type} {F : Enc β} {z : β} {x : Operand} {b off : Nat} {cur : Array Value} {Tb : TypeId} {fz : Nat × Nat} (hT : JU P T = some (F.agg, F.sz)) (ho : o.op = .load T x) (hx : ρ x = .pointer (some ⟨b, off, none⟩))
  (hw : w.heap[b]? = some (.cells cur Tb fz)) (hr : F.rep s ((cur.toList.drop off).take F.sz) z) (hk : ∀ v, F.val s v z → K v w) : Exec P ρ o w K := by
 have hlen := F.len hr
 have hcell : ∀ j v, ((cur.toList.drop off).take F.sz)[j]? = some v → w.cell? ((⟨b, off, none⟩ : Addr).add j) = some v := by
  intro j v hv
  rw [Addr.add_lit]
  rw [List.getElem?_take] at hv
  split at hv
  ·rw [List.getElem?_drop] at hv
   simp [World.cell?, hw]
   simpa using hv
  ·cases hv
 cases hag : F.agg with
 | true =>
  have hrun := Qaf (P := P) (w := w) (a := ⟨b, off, none⟩) (cs := (cur.toList.drop off).take F.sz) (by rw [hlen, ← hag]; exact hT) hcell
  refine .of_run (v := .agg ((cur.toList.drop off).take F.sz).toArray) ?_ (hk _ ?_)
  ·unfold execOp
   simp only [ho, hx, Instr.loadAt, Instr.sureAddr, Sem.run_bind, Sem.run_pure, Result.andThen_ok, hrun]
  ·unfold Enc.val
   rw [if_pos hag]
   exact ⟨_, Z, by simpa using hr⟩
 | false =>
  have h1' := F.single hag
  rw [h1'] at hr hcell hlen
  obtain ⟨v, hv⟩ : ∃ v, (cur.toList.drop off).take 1 = [v] := by
   match hq : (cur.toList.drop off).take 1, hlen with
   | [v], _ => exact ⟨v, rfl⟩
  rw [hv] at hr hcell
  have hc0 := hcell 0 v rfl
  rw [Addr.add_zero'] at hc0
  rw [hag] at hT
  have hrun := Qbv (P := P) (w := w) hT hc0
  refine .of_run (v := v) ?_ (hk _ ?_)
  ·unfold execOp
   simp only [ho, hx, Instr.loadAt, Instr.sureAddr, Sem.run_bind, Sem.run_pure, Result.andThen_ok, hrun]
  ·unfold Enc.val
   rw [if_neg (by simp [hag])]
   exact hr
theorem Qkp {β : Type} {F : Enc β} {f : α → β} {y : α} {off base : Nat} {l : List Value} (hs : Sub E off F f) (h : E.rep s ((l.drop base).take E.sz) y) : F.rep s ((l.drop (base + off)).take F.sz) (f y) := by
 have h3 := hs s _ y h
 have hl := F.len h3
 rw [List.drop_take, List.drop_drop, List.take_take] at h3
 have : min F.sz (E.sz - off) = F.sz := by
  rcases Nat.le_total F.sz (E.sz - off) with h | h
  ·omega
  ·have := F.pos
   simp only [List.length_take, List.length_drop] at hl
   omega
 rw [this] at h3
 exact h3
theorem Qt {β : Type} {F : Enc β} {f : α → β} {y : α} {x : Operand} {g cap off m : Nat} {n : Int} (hS : St w0 s (.arr E Te v xs :: H) w) (hv : v = .slice (some ⟨g, 0, none⟩) xs.length cap) (hT : JU P T = some (F.agg, F.sz)) (ho : o.op = .load T x)
  (hx : ρ x = .pointer (some ⟨g, m, none⟩)) (hm : m = 0 + n.toNat * E.sz + off) (hy : Jc xs n = some y) (hs : Sub E off F f) (hk : ∀ v, F.val s v (f y) → K v w) : Exec P ρ o w K := by
 rw [Nat.zero_add] at hm
 subst hm
 subst hv
 obtain ⟨bs, hn, hss, b1, b2, e, h1, h2⟩ := hS.own
 obtain ⟨cur, hg, hr, _⟩ := QjC h1 hy
 exact Qgk hT ho hx hg (Qkp hs hr) hk
theorem Yr {s : PHeap} {v a : Value} : encRaw.val s v a ↔ v = a ∧ a.oneCell' = true := by
 simp [Enc.val, encRaw]
theorem QfZ {bs : List Nat} {g cap : Nat} {n : Int} {y : α} {ds : List Value} (h : (Res.arr E Te (.slice (some ⟨g, 0, none⟩) xs.length cap) xs).p s w bs) (_h0 : 0 ≤ n) (hlt : n.toNat < xs.length) (hd : E.rep s ds y) :
  ∃ cur, w.heap[g]? = some (.cells cur Te (0, 0)) ∧ n.toNat * E.sz + ds.length ≤ cur.size ∧ bs = [g] ∧
   (Res.arr E Te (.slice (some ⟨g, 0, none⟩) xs.length cap) (xs.set n.toNat y)).p s (w.setRow g (cur.toList.take (n.toNat * E.sz) ++ ds ++ cur.toList.drop (n.toNat * E.sz + ds.length)).toArray) [g] := by
 obtain ⟨cells, h1, h2, rfl⟩ := h
 rcases h2.2 with ⟨h, _⟩ | ⟨g', cap', cur, hv, _, hg, hnc, hcm, hcs, htake⟩
 ·cases h
 ·cases hv
  have hmul : n.toNat * E.sz + E.sz ≤ xs.length * E.sz := by rw [← Nat.succ_mul]; exact Nat.mul_le_mul_right _ (by omega)
  have hcur : xs.length * E.sz ≤ cur.size := by rw [hcs]; exact Nat.mul_le_mul_right _ hnc
  have hdl := E.len hd
  have hset := h1.set hlt hd
  refine ⟨cur, hg, by omega, by simp [Value.ownBlock], _, hset, ⟨by rw [hset.len], .inr ⟨g, cap, _, by simp, Nat.zero_le _, setRow_heap w g cur _ Te _ hg, by simpa using hnc, hcm, ?_, ?_⟩⟩, by simp [Value.ownBlock]⟩
  ·simp only [List.size_toArray, List.length_append, List.length_take, List.length_drop, Array.length_toList]
   omega
  ·rw [List.length_set, hdl]
   rw [← htake]
   have hA : (cur.toList.take (n.toNat * E.sz)).length = n.toNat * E.sz := by simp; omega
   rw [List.toList_toArray, List.append_assoc, List.take_append, hA, List.take_append, hdl]
   rw [List.take_of_length_le (by rw [hA]; omega), List.take_of_length_le (by omega : ds.length ≤ _)]
   rw [List.take_take, show min (n.toNat * E.sz) (xs.length * E.sz) = n.toNat * E.sz by omega, List.append_assoc, List.drop_take]
   congr 3
   omega
theorem QQ {y : α} {x z : Operand} {u : Value} {g cap m : Nat} {n : Int} {zs : List α} (hS : St w0 s (.arr E Te v xs :: H) w) (hv : v = .slice (some ⟨g, 0, none⟩) xs.length cap) (hT : JU P T = some (E.agg, E.sz)) (ho : o.op = .store T x z)
  (hx : ρ x = .pointer (some ⟨g, m, none⟩)) (hm : m = 0 + n.toNat * E.sz) (hz : ρ z = u) (hu : E.val s u y) (hset : Kv xs n y = some zs)
  (hk : ∀ w', St w0 s (.arr E Te v zs :: H) w' → K undef w') : Exec P ρ o w K := by
 rw [Nat.zero_add] at hm
 subst hm
 subst hv
 obtain ⟨h0, hlt, rfl⟩ := Qao hset
 have hr := QgS hu
 have hkey : ∀ b1, (Res.arr E Te (.slice (some ⟨g, 0, none⟩) xs.length cap) xs).p s w b1 → ∃ cur, _ := fun b1 h1 => QfZ h1 h0 hlt hr
 obtain ⟨bs, hn, hss, b1, b2, e, h1, h2⟩ := hS.own
 obtain ⟨cur, hg, hfit, hb1, _⟩ := QfZ h1 h0 hlt hr
 have hlen : u.cells.toList.length = E.sz := E.len hr
 have hrun := Qez (P := P) (w := w) (T := T) (v := u) (cs := u.cells.toList) (by rw [hlen]; exact hT) (by simp) hg hfit (E.one hr)
 refine .of_skip (w' := _) ?_ (hk (w.setRow g (cur.toList.take (n.toNat * E.sz) ++ u.cells.toList ++ cur.toList.drop (n.toNat * E.sz + u.cells.toList.length)).toArray) ?_)
 ·unfold execOp
  simp only [ho, hx, hz, Instr.storeAt, Instr.sureAddr, Sem.run_bind, Sem.run_pure, Result.andThen_ok, hrun]
 ·refine hS.turn Z Z Z (Nat.le_refl _) (by rw [Qbh]; exact Nat.le_refl _) ?_
  intro c1 hc1
  obtain ⟨cur', hg', _, hc1', hnew⟩ := QfZ hc1 h0 hlt hr
  rw [hg] at hg'
  cases hg'
  exact ⟨[g], hnew, by simp, fun x hx => .inl (by rw [hc1']; exact hx), fun x _ hx => setRow_other w g x _ (by rw [hc1'] at hx; simpa using hx)⟩
end
theorem St.nilArr {α : Type} (hS : St w0 s H w) (E : Enc α) (Te : TypeId) : St w0 s (.arr E Te (.slice none 0 0) [] :: H) w := by
 obtain ⟨bs, hn, hs, hb⟩ := hS.own
 exact ⟨hS.os, hS.tape, hS.output, hS.drawn, hS.size, hS.stay, bs, hn, hs, [], bs, Z, ⟨[], Z, World.ownsRow_nil _ _ _ _, Z⟩, hb⟩
theorem St.boxArr {α : Type} {E : Enc α} {b : Nat} {Te : TypeId} {cs : List Value} {xs : List α} (hS : St w0 s (.box b Te cs :: H) w) (h : reps E s cs xs) (hl : xs.length ≤ maxLen) : St w0 s (.arr E Te (.slice (some ⟨b, 0, none⟩) xs.length xs.length) xs :: H) w := by
 obtain ⟨bs, hn, hs, b1, b2, e, ⟨rfl, h1⟩, h2⟩ := hS.own
 refine ⟨hS.os, hS.tape, hS.output, hS.drawn, hS.size, hS.stay, bs, hn, hs, [b], b2, e, ⟨cs, h, ⟨h.len, .inr ⟨b, xs.length, cs.toArray, Z, Nat.zero_le _, h1, Nat.le_refl _, hl, by simpa using h.len, ?_⟩⟩, Z⟩, h2⟩
 rw [List.toList_toArray, List.take_of_length_le (by rw [h.len]; exact Nat.le_refl _)]
theorem St.freezeArr {α : Type} {E : Enc α} {Te : TypeId} {v : Value} {xs : List α} (hS : St w0 s (.arr E Te v xs :: H) w) : ∃ t, PHeap.le s t ∧ St w0 t H w ∧ SliceRep E t v xs := by
 obtain ⟨bs, t, hp, hle, hbs, hS'⟩ := hS.freezeWith
 obtain ⟨cells, h1, h2, rfl⟩ := hp
 refine ⟨t, hle, hS', ?_⟩
 rcases h2.2 with ⟨rfl, h⟩ | ⟨g, cap, cur, rfl, _, hg, hnc, hcm, hcs, htake⟩
 ·exact .inl ⟨Z, List.eq_nil_of_length_eq_zero h⟩
 ·refine .inr (.inr ⟨g, 0, cap, cur, Te, (0, 0), cells, Z, hnc, hcm, by rw [hbs g (by simp [Value.ownBlock]), hg], ?_, h1.mono hle⟩)
  rw [List.drop_zero, h1.len, htake]
/-! ### append -/
theorem Y2 {α : Type} {E : Enc α} {Te : TypeId} {v : Value} {xs ys : List α} {t ty by_ : Nat} {z : Value} (hS : St w0 s (.arr E Te v xs :: H) w)
  (hT : Je P t = some (Te, E.sz, by_)) (hz : JL P Te = some z) (hzs : z.cells.size = E.sz)
  (ad : Addr) (c : Nat) (news : List Value) (hnews : ∀ j u, news[j]? = some u → w.cell? (ad.add j) = some u) (hr : reps E s news ys) (hb : (xs.length + ys.length) * by_ ≤ 140737488355328) (hby : 0 < by_) :
  ∃ v' w', (Builtin.append_ #[t, t] ty #[v, .slice (some ad) ys.length c]).run P w = .ok v' w' ∧ St w0 s (.arr E Te v' (xs ++ ys) :: H) w' := by
 obtain ⟨i, hu, hi, hsz, hbs⟩ := Jq hT
 obtain ⟨i', hi', hz'⟩ := YI hz
 rw [hi] at hi'
 cases hi'
 have h63 : xs.length + ys.length ≤ maxLen := by
  have : xs.length + ys.length ≤ (xs.length + ys.length) * by_ := Nat.le_mul_of_pos_right _ hby
  simp only [maxLen]; omega
 obtain ⟨bs, hn, hss, b1, b2, e, ⟨cells, h1, h2, rfl⟩, h3⟩ := hS.own
 have hlen := h1.len
 have close : ∀ (v' : Value) (w' : World), w'.ownsRow 0 Te E.sz v' (xs.length + ys.length) (cells ++ news) → w.grownBy w' v.ownBlock → (v'.ownBlock = v.ownBlock ∨ ∀ g, v'.ownBlock = some g → w.heap.size ≤ g) → w.drawn ≤ w'.drawn → St w0 s (.arr E Te v' (xs ++ ys) :: H) w' := by
  intro v' w' hown hgrow hwhere hdr
  refine hS.turn hgrow.os hgrow.tape hgrow.output hdr hgrow.size ?_
  rintro c1 ⟨_, _, _, rfl⟩
  refine ⟨v'.ownBlock.toList, ⟨cells ++ news, h1.append hr, by rw [List.length_append]; exact hown, Z⟩, ?_, ?_, ?_⟩
  ·cases v'.ownBlock <;> simp
  ·intro x hx
   rcases hwhere with h | h
   ·exact .inl (by rw [← h]; exact hx)
   ·exact .inr (h x (by simpa using hx))
  ·intro x hx hne
   refine hgrow.block x hx ?_
   intro e
   rw [← e] at hne
   simp at hne
 rcases h2.2 with ⟨rfl, hx0⟩ | ⟨g, cap, cur, rfl, hbg, hg, hnc, hcm, hcs, htake⟩
 ·have h2' : w.ownsRow w.heap.size Te E.sz (.slice none 0 0) xs.length cells := ⟨h2.1, .inl ⟨rfl, hx0⟩⟩
  obtain ⟨v', w', hrun, hown, hgrow, _⟩ := run_append_own (P := P) w w.heap.size t ty Te i z E.sz by_ hu hi hz' hsz hbs hzs E.pos _ xs.length cells h2' ad ys.length c news hr.len hnews (hr.one) h63 hb (Nat.le_refl _)
  refine ⟨v', w', hrun, close v' w' ⟨hown.1, hown.2.imp (fun h => h) (fun ⟨g, cap, cur, a1, _, a2⟩ => ⟨g, cap, cur, a1, Nat.zero_le _, a2⟩)⟩ hgrow (.inr fun g hg => (hown.lt g hg).1) ?_⟩
  by_cases hm : ys.length = 0
  ·have h0 : news = [] := List.eq_nil_of_length_eq_zero (by rw [hr.len, hm, Nat.zero_mul])
   have hf := run_firstCells_some (P := P) w i.size 0 ad 0 c [] (by simp) (by simp)
   have hrun0 : (Builtin.append_ #[t, t] ty #[.slice none 0 0, .slice (some ad) 0 c]).run P w = .ok (.slice none 0 0) w := by
    simp [Builtin.append_, run_underlying hu, sizeOf, typeInfo, hi, Builtin.lenOf, hf]
   rw [hm, hrun0] at hrun
   cases hrun
   exact Nat.le_refl _
  ·have hrun0 := run_append_nil (P := P) w t ty Te i z hu hi hz' ad ys.length c news (by rw [hr.len, hsz]) hnews (by omega) (by simp only [maxLen] at h63; omega) (by rw [hbs]; rw [hx0, Nat.zero_add] at hb; omega)
   rw [hrun] at hrun0
   cases hrun0
   exact Nat.le_succ _
 ·by_cases hroom : xs.length + ys.length ≤ cap
  ·obtain ⟨w', hrun, hown, hgrow⟩ := run_append_fits (P := P) w 0 t ty Te i E.sz hu hi hsz g xs.length cap cells h2 ad ys.length c news hr.len hnews hr.one hroom
   refine ⟨_, w', hrun, close _ w' hown hgrow (.inl Z) ?_⟩
   have hrun0 := run_append_room (P := P) w t ty Te i hu hi g xs.length cap cur hg ad ys.length c news (by rw [hr.len, hsz]) hnews hr.one hroom (by rw [hr.len, hsz, hcs, ← Nat.add_mul]; exact Nat.mul_le_mul_right _ hroom)
   rw [hrun] at hrun0
   cases hrun0
   exact Nat.le_refl _
  ·have holds := h2.cells (g := g) rfl
   have hrun := run_append_grow (P := P) w t ty Te i z hu hi hz' ⟨g, 0, none⟩ xs.length cap cells (by rw [hlen, hsz]) holds ad ys.length c news (by rw [hr.len, hsz]) hnews (by omega) (by simp only [maxLen] at h63; omega) (by rw [hbs]; exact growslice_fits (by omega) hb)
   refine ⟨_, _, hrun, ?_⟩
   refine close _ _ ?_ ?_ (.inr fun x hx => ?_) (show w.drawn ≤ w.drawn + 1 from Nat.le_succ w.drawn)
   ·have hge := grownCap_ge w (xs.length + ys.length) cap Te
    have hcm' := grownCap_le_maxLen w (xs.length + ys.length) cap Te h63
    refine ⟨by rw [List.length_append, hlen, hr.len, Nat.add_mul], .inr ⟨w.heap.size, _, _, Z, Nat.zero_le _, heap_alloc_new w.drew _, hge, hcm', ?_, ?_⟩⟩
    ·simp only [Array.size_append, List.size_toArray, size_zeroCells, hzs, hlen, hr.len, ← Nat.add_mul]
     congr 1
     omega
    ·simp only [Array.toList_append, List.append_assoc]
     rw [← List.append_assoc, Nat.add_mul, ← hlen, ← hr.len, ← List.length_append]
     exact List.take_left
   ·exact ⟨Z, Z, Z, by simp, fun k hk _ => K2 w.drew _ hk⟩
   ·simp [Value.ownBlock] at hx
    omega
theorem QZ {α : Type} {E : Enc α} {Te : TypeId} {v u z : Value} {xs ys zs : List α} {t by_ b n cap : Nat} {cs : List Value} {x y : Operand} (hS : St w0 s (.arr E Te v xs :: .box b Te cs :: H) w)
  (hT : Je P t = some (Te, E.sz, by_)) (hz : JL P Te = some z) (hzs : z.cells.size = E.sz) (hby : 0 < by_) (ho : o.op = .call { callee := .builtin .append, args := #[x, y], argTypes := #[t, t] }) (hx : ρ x = v) (hy : ρ y = u)
  (hu : u = .slice (some ⟨b, 0, none⟩) n cap) (hr : reps E s cs ys) (hn : n = ys.length) (ha : app by_ xs ys = some zs)
  (hk : ∀ v' w', St w0 s (.arr E Te v' zs :: H) w' → K v' w') : Exec P ρ o w K := by
 obtain ⟨hb, rfl⟩ := Qev ha
 subst hn
 have hbox := (hS.perm (.swap _ _ _)).box_heap
 have hcell : ∀ j u, cs[j]? = some u → w.cell? ((⟨b, 0, none⟩ : Addr).add j) = some u := by
  intro j u hj
  rw [Addr.add_lit]
  simp [World.cell?, hbox, hj]
 obtain ⟨v', w', hrun, hS'⟩ := Y2 (P := P) (ty := o.type) hS hT hz hzs ⟨b, 0, none⟩ cap cs hcell hr hb hby
 refine .of_run (v := v') (w' := w') ?_ (hk v' w' (hS'.perm (.swap _ _ _)).drop)
 unfold execOp
 simp only [ho, resolve, invoke, builtin, Sem.run_bind, Sem.run_pure, Result.andThen_ok, List.map_toArray, List.map_cons, List.map_nil, hx, hy, hu, hrun]
theorem QbP {α : Type} {E : Enc α} {Te : TypeId} {v : Value} {xs : List α} {t ty by_ : Nat} (hS : St w0 s (.arr E Te v xs :: H) w) (hT : Je P t = some (Te, E.sz, by_)) :
  (Builtin.append_ #[t, t] ty #[v, .slice none 0 0]).run P w = .ok v w := by
 obtain ⟨i, hu, hi, hsz, hbs⟩ := Jq hT
 obtain ⟨bs, hn, hss, b1, b2, e, ⟨cells, h1, h2, rfl⟩, h3⟩ := hS.own
 exact run_append_owned_none (P := P) w 0 t ty Te i E.sz hu hi v xs.length cells h2
theorem Qfy {α : Type} {E : Enc α} {Te : TypeId} {v u z : Value} {xs ys zs : List α} {t by_ : Nat} {x y : Operand} (hS : St w0 s (.arr E Te v xs :: H) w)
  (hT : Je P t = some (Te, E.sz, by_)) (hz : JL P Te = some z) (hzs : z.cells.size = E.sz) (hby : 0 < by_) (ho : o.op = .call { callee := .builtin .append, args := #[x, y], argTypes := #[t, t] }) (hx : ρ x = v) (hy : ρ y = u)
  (hu : SliceRep E s u ys) (ha : app by_ xs ys = some zs)
  (hk : ∀ v' w', St w0 s (.arr E Te v' zs :: H) w' → K v' w') : Exec P ρ o w K := by
 obtain ⟨hb, rfl⟩ := Qev ha
 rcases hu with ⟨rfl, rfl⟩ | ⟨a, cap, rfl, rfl⟩ | ⟨b, off, cap, c, T', fz, cells, rfl, h1, h2, h3, h4, h5⟩
 ·have hrun := QbP (P := P) (ty := o.type) hS hT
  rw [List.append_nil] at hk
  refine .of_run (v := v) (w' := w) ?_ (hk v w hS)
  unfold execOp
  simp only [ho, resolve, invoke, builtin, Sem.run_bind, Sem.run_pure, Result.andThen_ok, List.map_toArray, List.map_cons, List.map_nil, hx, hy, hrun]
 ·obtain ⟨v', w', hrun, hS'⟩ := Y2 (P := P) (ty := o.type) (ys := []) hS hT hz hzs a cap [] (fun j u hj => by simp at hj) rfl hb hby
  refine .of_run (v := v') (w' := w') ?_ (hk v' w' hS')
  unfold execOp
  rw [List.length_nil] at hrun
  simp only [ho, resolve, invoke, builtin, Sem.run_bind, Sem.run_pure, Result.andThen_ok, List.map_toArray, List.map_cons, List.map_nil, hx, hy, hrun]
 ·have hcell : ∀ j u, cells[j]? = some u → w.cell? ((⟨b, off, none⟩ : Addr).add j) = some u := by
   intro j u hj
   rw [Addr.add_lit, Qb6 hS h3]
   rw [← h4, List.getElem?_take] at hj
   split at hj
   ·rw [List.getElem?_drop] at hj; simpa using hj
   ·cases hj
  obtain ⟨v', w', hrun, hS'⟩ := Y2 (P := P) (ty := o.type) hS hT hz hzs ⟨b, off, none⟩ cap cells hcell h5 hb hby
  refine .of_run (v := v') (w' := w') ?_ (hk v' w' hS')
  unfold execOp
  simp only [ho, resolve, invoke, builtin, Sem.run_bind, Sem.run_pure, Result.andThen_ok, List.map_toArray, List.map_cons, List.map_nil, hx, hy, hrun]
theorem Qf0 {α : Type} {E : Enc α} {Te : TypeId} {v u z : Value} {xs ys zs : List α} {t by_ : Nat} {x y : Operand} (hS : St w0 s (.arr E Te v xs :: .arr E Te u ys :: H) w)
  (hT : Je P t = some (Te, E.sz, by_)) (hz : JL P Te = some z) (hzs : z.cells.size = E.sz) (hby : 0 < by_) (ho : o.op = .call { callee := .builtin .append, args := #[x, y], argTypes := #[t, t] }) (hx : ρ x = v) (hy : ρ y = u)
  (ha : app by_ xs ys = some zs)
  (hk : ∀ v' w', St w0 s (.arr E Te v' zs :: .arr E Te u ys :: H) w' → K v' w') : Exec P ρ o w K := by
 obtain ⟨hb, rfl⟩ := Qev ha
 have hS2 := hS.perm (.swap _ _ _)
 obtain ⟨bs, hn, hss, b1, b2, e, ⟨cells, h1, h2, rfl⟩, h3⟩ := hS2.own
 rcases h2.2 with ⟨rfl, hx0⟩ | ⟨g, cap, cur, rfl, hbg, hg, hnc, hcm, hcs, htake⟩
 ·have hrun := QbP (P := P) (ty := o.type) hS hT
  have hys : ys = [] := List.eq_nil_of_length_eq_zero hx0
  subst hys
  rw [List.append_nil] at hk
  refine .of_run (v := v) (w' := w) ?_ (hk v w hS)
  unfold execOp
  simp only [ho, resolve, invoke, builtin, Sem.run_bind, Sem.run_pure, Result.andThen_ok, List.map_toArray, List.map_cons, List.map_nil, hx, hy, hrun]
 ·have hcell := h2.cells (g := g) rfl
  obtain ⟨v', w', hrun, hS'⟩ := Y2 (P := P) (ty := o.type) hS hT hz hzs ⟨g, 0, none⟩ cap cells hcell h1 hb hby
  refine .of_run (v := v') (w' := w') ?_ (hk v' w' hS')
  unfold execOp
  simp only [ho, resolve, invoke, builtin, Sem.run_bind, Sem.run_pure, Result.andThen_ok, List.map_toArray, List.map_cons, List.map_nil, hx, hy, hrun]
/-! ### make, literals -/
theorem QbJ {α : Type} {E : Enc α} {c : List Value} {x : α} (h : E.rep s c x) : ∀ n, reps E s (List.replicate n c).flatten (List.replicate n x)
 | 0 => rfl
 | n + 1 => ⟨c, _, by simp [List.replicate_succ], h, QbJ h n⟩
theorem Qe1 {c : List Value} (hc : 0 < c.length) (n : Nat) : (madeCells c.toArray (n * c.length)).toList = (List.replicate n c).flatten := by
 apply List.ext_getElem?
 intro i
 have h1 : (List.replicate n c).flatten.length = n * c.length := by simp
 by_cases hi : i < n * c.length
 ·have hd : i / c.length < n := Nat.div_lt_of_lt_mul (by rw [Nat.mul_comm]; exact hi)
  have e2 : ∀ (m i : Nat), i < m * c.length → (List.replicate m c).flatten[i]? = c[i % c.length]? := by
   intro m
   induction m with
   | zero => intro i h; simp at h
   | succ m ih =>
    intro i h
    rw [List.replicate_succ, List.flatten_cons]
    by_cases hlt : i < c.length
    ·rw [List.getElem?_append_left hlt, Nat.mod_eq_of_lt hlt]
    ·rw [List.getElem?_append_right (by omega), ih _ (by rw [Nat.add_mul] at h; omega), Nat.mod_eq_sub_mod (a := i) (by omega)]
  rw [e2 n i hi]
  have hm : i % c.length < c.length := Nat.mod_lt _ hc
  simp [madeCells, hi, hm]
 ·rw [List.getElem?_eq_none (by simp [madeCells]; omega), List.getElem?_eq_none (by omega)]
theorem Kr {α : Type} {E : Enc α} {Te : TypeId} {z : Value} {y : α} {zs : List α} {by_ : Nat} {k k' : IntKind} {l c : Operand} {n : Int} (hS : St w0 s H w) (hT : Je P T = some (Te, E.sz, by_)) (hz : JL P Te = some z) (hzr : E.rep s z.cells.toList y)
  (ho : o.op = .makeSlice T l c) (hl : ρ l = .int k n) (hc : ρ c = .int k' n) (hm : mk by_ y n = some zs) (hk : ∀ v w', St w0 s (.arr E Te v zs :: H) w' → K v w') : Exec P ρ o w K := by
 obtain ⟨h0, hb, h63, rfl⟩ := QjU hm
 obtain ⟨i, hu, hi, hsz, hbs⟩ := Jq hT
 obtain ⟨i', hi', hz'⟩ := YI hz
 rw [hi] at hi'
 cases hi'
 have hn63 : n.toNat ≤ maxLen := by simp only [maxLen]; omega
 have hrun := run_make (P := P) w T Te i z hu hi hz' k k' n n h0 (Int.le_refl _) (by rw [hbs]; have h : ((by_ * n.toNat : Nat) : Int) ≤ 281474976710656 := (by omega); rw [Int.natCast_mul, Int.toNat_of_nonneg h0] at h; exact h) h63
 have hzl := E.len hzr
 have hcells : (madeCells z.cells (n.toNat * i.size)).toList = (List.replicate n.toNat z.cells.toList).flatten := by
  have := Qe1 (c := z.cells.toList) (by rw [hzl]; exact E.pos) n.toNat
  rw [hzl] at this
  simpa [hsz] using this
 have hA := hS.alloc Te (List.replicate n.toNat z.cells.toList).flatten
 have hB := hA.boxArr (QbJ hzr n.toNat) (by simpa using hn63)
 have hv : (madeCells z.cells (n.toNat * i.size)) = (List.replicate n.toNat z.cells.toList).flatten.toArray := by rw [← hcells]
 rw [hv] at hrun
 simp only [List.length_replicate] at hB
 refine .of_run (v := _) (w' := _) ?_ (hk _ _ hB)
 unfold execOp
 simp only [ho, hl, hc, Sem.run_bind, Sem.run_pure, Result.andThen_ok, hrun]
theorem QX {v : Value} (h : v.oneCell' = true) : v.cells = [v].toArray := by
 cases v <;> simp_all [Value.cells, Value.oneCell']
theorem Qh {x v : Value} {c : List Value} (h : x = v) (hc : v.cells = c.toArray) : x.cells = c.toArray := by rw [h, hc]
def Qdb (ρ : Operand → Value) (parts : List (Nat × Operand)) (pcs : List (Nat × List Value)) : Prop := List.map (fun (p : Nat × Operand) => (p.1, (ρ p.2).cells)) parts = List.map (fun (q : Nat × List Value) => (q.1, q.2.toArray)) pcs
theorem Qu : Qdb ρ [] [] := rfl
theorem Qc {i : Nat} {x : Operand} {c : List Value} {l : List (Nat × Operand)} {ps : List (Nat × List Value)} (h : (ρ x).cells = c.toArray) (hl : Qdb ρ l ps) : Qdb ρ ((i, x) :: l) ((i, c) :: ps) := by
 unfold Qdb at *
 simp [h, hl]
def Qmt (pcs : List (Nat × List Value)) : List (Nat × Value) := pcs.map fun q => (q.1, .agg q.2.toArray)
theorem QdV (place : Nat → Option (Nat × Nat)) : ∀ (ps qs : List (Nat × Value)) (cells : Array Value), ps.map (fun p => (p.1, p.2.cells)) = qs.map (fun p => (p.1, p.2.cells)) → Instr.fill place cells ps = Instr.fill place cells qs
 | [], [], _, _ => rfl
 | (i, v) :: ps, (j, u) :: qs, cells, h => by
  simp only [List.map_cons, List.cons.injEq, Prod.mk.injEq] at h
  obtain ⟨⟨rfl, h2⟩, h3⟩ := h
  unfold Instr.fill
  rw [h2]
  cases place i with
  | none => rfl
  | some y =>
   obtain ⟨off, size⟩ := y
   simp only []
   split
   ·rfl
   ·exact QdV place ps qs _ h3
 | [], _ :: _, _, h => by simp at h
 | _ :: _, [], _, h => by simp at h
theorem Qgw {parts : List (Nat × Operand)} {pcs : List (Nat × List Value)} (h : Qdb ρ parts pcs) : (List.map (fun (p : Nat × Operand) => (p.1, ρ p.2)) parts).map (fun p => (p.1, p.2.cells)) = (Qmt pcs).map (fun p => (p.1, p.2.cells)) := by
 unfold Qdb at h
 unfold Qmt
 rw [List.map_map, List.map_map]
 exact h
theorem QiR {ps qs : List (Nat × Value)} (h : ps.map (fun p => (p.1, p.2.cells)) = qs.map (fun p => (p.1, p.2.cells))) : (Instr.build T ps.toArray).run P w = (Instr.build T qs.toArray).run P w := by
 have := fun place cells => QdV place ps qs cells h
 unfold Instr.build
 simp only [this]
theorem QeX {n : Nat} {ps qs : List (Nat × Value)} (h : ps.map (fun p => (p.1, p.2.cells)) = qs.map (fun p => (p.1, p.2.cells))) : (Instr.buildSlice T n ps.toArray).run P w = (Instr.buildSlice T n qs.toArray).run P w := by
 have := fun place cells => QdV place ps qs cells h
 unfold Instr.buildSlice
 simp only [this]
theorem Q5 : ∀ v ∈ ([] : List Value), v.oneCell' = true := by simp
theorem Zj {a : Value} {l : List Value} (h : a.oneCell' = true) (hl : ∀ v ∈ l, v.oneCell' = true) : ∀ v ∈ a :: l, v.oneCell' = true := by
 intro v hv
 rcases List.mem_cons.1 hv with e | e
 ·rw [e]; exact h
 ·exact hl v e
theorem Qk : List.map ρ [] = [] := rfl
theorem Zi {x : Operand} {v : Value} {l : List Operand} {vs : List Value} (h : ρ x = v) (hl : List.map ρ l = vs) : List.map ρ (x :: l) = v :: vs := by simp [h, hl]
theorem Exec.buildSlice {Te n : Nat} {parts : List (Nat × Operand)} {pcs : List (Nat × List Value)} {cs : List Value} (hS : St w0 s H w) (ho : o.op = .buildSlice T n parts.toArray) (hps : Qdb ρ parts pcs)
  (hrun : ∀ w : World, (Instr.buildSlice T n (Qmt pcs).toArray).run P w = .ok (.slice (some ⟨w.heap.size, 0, none⟩) n n) (w.alloc (.cells cs.toArray Te))) (hk : ∀ b w', St w0 s (.box b Te cs :: H) w' → K (.slice (some ⟨b, 0, none⟩) n n) w') : Exec P ρ o w K := by
 refine .of_run (v := _) (w' := _) ?_ (hk _ _ (hS.alloc Te cs))
 unfold execOp
 simp only [ho, List.map_toArray, Sem.run_bind, Sem.run_pure, Result.andThen_ok, QeX (Qgw hps), hrun]
theorem Exec.build {parts : List (Nat × Operand)} {pcs : List (Nat × List Value)} {v : Value} (ho : o.op = .build T parts.toArray) (hps : Qdb ρ parts pcs)
  (hrun : ∀ w : World, (Instr.build T (Qmt pcs).toArray).run P w = .ok v w) (hk : K v w) : Exec P ρ o w K := by
 refine .of_run (v := v) ?_ hk
 unfold execOp
 simp only [ho, List.map_toArray, Sem.run_bind, Sem.run_pure, Result.andThen_ok, QiR (Qgw hps), hrun]
theorem QiV {x i : Operand} {u iv v : Value} (ho : o.op = .index T x i) (hx : ρ x = u) (hi : ρ i = iv) (hrun : (Instr.index T u iv).run P w = .ok v w) (hk : K v w) : Exec P ρ o w K := by
 refine .of_run (v := v) ?_ hk
 unfold execOp
 simp only [ho, hx, hi, Sem.run_bind, Sem.run_pure, Result.andThen_ok, hrun]
end
end Go.Pw
/- -/
namespace Go.Pw
section
variable {w0 w : World} {s : PHeap} {H : List Res} {α : Type} {E : Enc α} {Te : TypeId}
theorem Qff : ∀ {hs : List Value} {xss : List (List α)} {bs : List Nat} {i : Nat} {h : Value} {xs : List α}, rowsP E Te s w hs xss bs → hs[i]? = some h → xss[i]? = some xs →
  ∃ b1 b2, bs.Perm (b1 ++ b2) ∧ (Res.arr E Te h xs).p s w b1 ∧ rowsP E Te s w (hs.eraseIdx i) (xss.eraseIdx i) b2
 | [], _, _, _, _, _, _, hh, _ => by simp at hh
 | _ :: _, [], _, _, _, _, _, _, hx => by simp at hx
 | a :: hs, ys :: xss, bs, 0, h, xs, ⟨b1, b2, e, h1, h2⟩, hh, hx => by
  simp at hh hx
  subst hh; subst hx; subst e
  exact ⟨b1, b2, .refl _, h1, h2⟩
 | a :: hs, ys :: xss, bs, i + 1, h, xs, ⟨b1, b2, e, h1, h2⟩, hh, hx => by
  simp at hh hx
  obtain ⟨c1, c2, hp, k1, k2⟩ := Qff h2 hh hx
  subst e
  refine ⟨c1, b1 ++ c2, ?_, k1, b1, c2, Z, h1, k2⟩
  refine (List.Perm.append_left b1 hp).trans ?_
  rw [← List.append_assoc, ← List.append_assoc]
  exact List.Perm.append_right _ List.perm_append_comm
theorem rowsP.join : ∀ {hs : List Value} {xss : List (List α)} {b1 b2 : List Nat} {i : Nat} {h : Value} {xs : List α}, i < hs.length → i < xss.length → (Res.arr E Te h xs).p s w b1 → rowsP E Te s w (hs.eraseIdx i) (xss.eraseIdx i) b2 →
  ∃ bs, bs.Perm (b1 ++ b2) ∧ rowsP E Te s w (hs.set i h) (xss.set i xs) bs
 | [], _, _, _, _, _, _, hi, _, _, _ => by simp at hi
 | _ :: _, [], _, _, _, _, _, _, hi, _, _ => by simp at hi
 | a :: hs, ys :: xss, b1, b2, 0, h, xs, _, _, h1, h2 => ⟨b1 ++ b2, .refl _, b1, b2, rfl, h1, h2⟩
 | a :: hs, ys :: xss, b1, b2, i + 1, h, xs, hi, hj, h1, ⟨c1, c2, e, k1, k2⟩ => by
  obtain ⟨bs, hp, hr⟩ := rowsP.join (by simpa using hi) (by simpa using hj) h1 k2
  subst e
  refine ⟨c1 ++ bs, ?_, c1, bs, Z, k1, hr⟩
  refine (List.Perm.append_left c1 hp).trans ?_
  rw [← List.append_assoc, ← List.append_assoc]
  exact List.Perm.append_right _ List.perm_append_comm
theorem St.rows_len {hs : List Value} {xss : List (List α)} (hS : St w0 s (.rows E Te hs xss :: H) w) : hs.length = xss.length := by
 obtain ⟨bs, hn, hss, b1, b2, e, h1, h2⟩ := hS.own
 exact rowsP.length h1
theorem St.rows_split {hs : List Value} {xss : List (List α)} {i : Nat} {h : Value} {xs : List α} (hS : St w0 s (.rows E Te hs xss :: H) w) (hh : hs[i]? = some h) (hx : xss[i]? = some xs) :
  St w0 s (.arr E Te h xs :: .rows E Te (hs.eraseIdx i) (xss.eraseIdx i) :: H) w := by
 obtain ⟨bs, hn, hss, b1, b2, e, h1, h2⟩ := hS.own
 subst e
 obtain ⟨c1, c2, hp, k1, k2⟩ := Qff h1 hh hx
 have hp' : (b1 ++ b2).Perm (c1 ++ (c2 ++ b2)) := by rw [← List.append_assoc]; exact List.Perm.append_right _ hp
 exact ⟨hS.os, hS.tape, hS.output, hS.drawn, hS.size, hS.stay, c1 ++ (c2 ++ b2), hp'.nodup_iff.1 hn, fun b hb => hss b (hp'.mem_iff.2 hb), c1, c2 ++ b2, Z, k1, c2, b2, Z, k2, h2⟩
theorem St.rows_join {hs : List Value} {xss : List (List α)} {i : Nat} {h : Value} {xs : List α} (hS : St w0 s (.arr E Te h xs :: .rows E Te (hs.eraseIdx i) (xss.eraseIdx i) :: H) w) (hi : i < hs.length) (hj : i < xss.length) :
  St w0 s (.rows E Te (hs.set i h) (xss.set i xs) :: H) w := by
 obtain ⟨bs, hn, hss, b1, b2, e, h1, c1, c2, e2, k1, k2⟩ := hS.own
 subst e; subst e2
 obtain ⟨d, hp, hr⟩ := rowsP.join hi hj h1 k1
 have hp' : (b1 ++ (c1 ++ c2)).Perm (d ++ c2) := by rw [← List.append_assoc]; exact (List.Perm.append_right _ hp).symm
 exact ⟨hS.os, hS.tape, hS.output, hS.drawn, hS.size, hS.stay, d ++ c2, hp'.nodup_iff.1 hn, fun b hb => hss b (hp'.mem_iff.2 hb), d, c2, Z, hr, k2⟩
theorem St.rows_back {hs : List Value} {xss : List (List α)} {i : Nat} {h : Value} {xs : List α} (hS : St w0 s (.arr E Te h xs :: .rows E Te (hs.eraseIdx i) (xss.eraseIdx i) :: H) w) (hh : hs[i]? = some h) (hj : i < xss.length) :
  St w0 s (.rows E Te hs (xss.set i xs) :: H) w := by
 have hi := (List.getElem?_eq_some_iff.1 hh).1
 have := hS.rows_join hi hj
 have e : hs.set i h = hs := by
  have hv : hs[i] = h := (List.getElem?_eq_some_iff.1 hh).2
  rw [← hv, List.set_getElem_self]
 rwa [e] at this
theorem St.rows_at {hs : List Value} {xss : List (List α)} {n : Int} {xs : List α} (hS : St w0 s (.rows E Te hs xss :: H) w) (hx : Jc xss n = some xs) : ∃ h, Jc hs n = some h ∧ hs[n.toNat]? = some h ∧ xss[n.toNat]? = some xs := by
 obtain ⟨h0, hlt, hget⟩ := Qg hx
 have hl := hS.rows_len
 have hlt' : n.toNat < hs.length := by omega
 refine ⟨hs[n.toNat], ?_, by simp [hlt'], hget⟩
 simp [Jc, h0, hlt']
theorem rowsP.rep {t : PHeap} (hle : PHeap.le s t) : ∀ {hs : List Value} {xss : List (List α)} {bs : List Nat}, rowsP E Te s w hs xss bs → (∀ b ∈ bs, t b = w.heap[b]?) → reps (QM E) t hs xss
 | [], [], _, _, _ => rfl
 | h :: hs, xs :: xss, bs, ⟨b1, b2, e, h1, h2⟩, ht => by
  subst e
  refine ⟨[h], hs, Z, ⟨h, Z, ?_⟩, rowsP.rep hle h2 (fun b hb => ht b (List.mem_append_right _ hb))⟩
  obtain ⟨cells, k1, k2, rfl⟩ := h1
  rcases k2.2 with ⟨rfl, hx⟩ | ⟨g, cap, cur, rfl, _, hg, hnc, hcm, hcs, htake⟩
  ·exact .inl ⟨Z, List.eq_nil_of_length_eq_zero hx⟩
  ·refine .inr (.inr ⟨g, 0, cap, cur, Te, (0, 0), cells, Z, hnc, hcm, by rw [ht g (by simp [Value.ownBlock]), hg], ?_, k1.mono hle⟩)
   rw [List.drop_zero, k1.len, htake]
 | [], _ :: _, _, h, _ => h.elim
 | _ :: _, [], _, h, _ => h.elim
theorem Qiw : ∀ {hs : List Value} {cells : List Value}, reps encRaw s cells hs → cells = hs
 | [], _, h => h
 | v :: hs, _, ⟨c, r, e, ⟨h1, _⟩, h2⟩ => by rw [e, h1, Qiw h2]; rfl
theorem St.freezeGrid {T : TypeId} {v : Value} {hs : List Value} {xss : List (List α)} (hS : St w0 s (.arr encRaw T v hs :: .rows E Te hs xss :: H) w) : ∃ t, PHeap.le s t ∧ St w0 t H w ∧ SliceRep (QM E) t v xss := by
 have hS2 := hS.perm (.swap _ _ _)
 have hl := hS2.rows_len
 obtain ⟨bs1, t1, hp1, hle1, hbs1, hS1⟩ := hS2.freezeWith
 have hrep := rowsP.rep hle1 hp1 hbs1
 obtain ⟨t2, hle2, hS', h⟩ := hS1.freezeArr
 refine ⟨t2, hle1.trans hle2, hS', ?_⟩
 rcases h with ⟨rfl, rfl⟩ | ⟨a, cap, rfl, rfl⟩ | ⟨b, off, cap, c, T', fz, cells, rfl, h1, h2, h3, h4, h5⟩
 ·refine .inl ⟨Z, ?_⟩
  exact List.eq_nil_of_length_eq_zero (by rw [← hl]; rfl)
 ·refine .inr (.inl ⟨a, cap, Z, ?_⟩)
  exact List.eq_nil_of_length_eq_zero (by rw [← hl]; rfl)
 ·have := Qiw h5
  subst this
  exact .inr (.inr ⟨b, off, cap, c, T', fz, cells, by rw [hl], by rw [← hl]; exact h1, h2, h3, h4, hrep.mono hle2⟩)
end
/-! ### loops -/
section
variable {P : Program} {N : Nat} {Q : QbC} {f : Fr} {w : World}
theorem JZ {S : Type} {B : Nat → S → Option S} {n : Nat} {s0 s1 : S} {c : Code} (I : Nat → S → Fr → World → Prop) (hB : forS B n 0 s0 = some s1) (h0 : I 0 s0 f w)
  (hround : ∀ i s s' f w, i < n → I i s f w → B i s = some s' → W P N c (andThen (I (i + 1) s') Q) f w)
  (hend : ∀ f w, I n s1 f w → W P N c (andThen (fun _ _ => False) Q) f w) : W P N (.loop c) Q f w := by
 refine Qjp (fun k f w => ∃ i s, i + k = n ∧ I i s f w ∧ forS B k i s = some s1) ⟨n, 0, s0, by omega, h0, hB⟩ ?_
 rintro k f w ⟨i, s, hik, hI, hs⟩
 cases k with
 | zero =>
  simp only [forS, Option.some.injEq] at hs
  subst hs
  have : i = n := by omega
  subst this
  exact QeI (hend f w hI) (fun e f w h => by cases e <;> first | exact h.elim | exact h)
 | succ k =>
  simp only [forS] at hs
  obtain ⟨s', h1, h2⟩ := Zg hs
  exact QeI (hround i s s' f w (by omega) hI h1) (fun e f w h => by cases e <;> first | exact ⟨k, by omega, i + 1, s', by omega, h, h2⟩ | exact h)
theorem JI {S R : Type} {B : Nat → S → Option (Ctl S R)} {n : Nat} {s0 : S} {res : Ctl S R} {c : Code} (I : Nat → S → Fr → World → Prop) (hB : JS B n 0 s0 = some res) (h0 : I 0 s0 f w)
  (hround : ∀ i s c' f w, i < n → I i s f w → B i s = some c' → ((∀ s', c' ≠ .next s') → res = c') → W P N c (andThen (fun f w => ∃ s', c' = .next s' ∧ I (i + 1) s' f w) Q) f w)
  (hend : ∀ s f w, I n s f w → res = .next s → W P N c (andThen (fun _ _ => False) Q) f w) : W P N (.loop c) Q f w := by
 refine Qjp (fun k f w => ∃ i s, i + k = n ∧ I i s f w ∧ JS B k i s = some res) ⟨n, 0, s0, by omega, h0, hB⟩ ?_
 rintro k f w ⟨i, s, hik, hI, hs⟩
 cases k with
 | zero =>
  simp only [JS, Option.some.injEq] at hs
  have : i = n := by omega
  subst this
  exact QeI (hend s f w hI hs.symm) (fun e f w h => by cases e <;> first | exact h.elim | exact h)
 | succ k =>
  simp only [JS] at hs
  cases h1 : B i s with
  | none => rw [h1] at hs; cases hs
  | some c' =>
   rw [h1] at hs
   refine QeI (hround i s c' f w (by omega) hI h1 ?_) ?_
   ·intro hc
    cases c' with
    | next s' => exact absurd rfl (hc s')
    | brk s' => exact (Zu hs).symm
    | ret r => exact (Zu hs).symm
   ·intro e f w h
    cases e <;> first
     | (obtain ⟨s', rfl, h2⟩ := h; exact ⟨k, by omega, i + 1, s', by omega, h2, hs⟩)
     | exact h
theorem YG {S R : Type} {B : S → Option (Ctl S R)} {s0 : S} {res : Ctl S R} {c : Code} (I : S → Fr → World → Prop) (hB : Kw B s0 = some res) (h0 : I s0 f w)
  (hround : ∀ s c' f w, I s f w → B s = some c' → ((∀ s', c' ≠ .next s') → res = c') → W P N c (andThen (fun f w => ∃ s', c' = .next s' ∧ I s' f w) Q) f w) : W P N (.loop c) Q f w := by
 obtain ⟨k0, hk0⟩ := QiC hB
 refine Qjp (fun k f w => ∃ s, I s f w ∧ Qam B k s = some res) ⟨k0, s0, h0, hk0⟩ ?_
 rintro k f w ⟨s, hI, hs⟩
 cases k with
 | zero => simp [Qam] at hs
 | succ k =>
  simp only [Qam] at hs
  cases h1 : B s with
  | none => rw [h1] at hs; cases hs
  | some c' =>
   rw [h1] at hs
   refine QeI (hround s c' f w hI h1 ?_) ?_
   ·intro hc
    cases c' with
    | next s' => exact absurd rfl (hc s')
    | brk s' => exact (Zu hs).symm
    | ret r => exact (Zu hs).symm
   ·intro e f w h
    cases e <;> first
     | (obtain ⟨s', rfl, h2⟩ := h; exact ⟨k, by omega, s', h2, hs⟩)
     | exact h
end
/-! ### small helps of the printed walks -/
def HeadAll (p : Nat → Oper → Prop) : Nat → List Oper → Prop
 | _, [] => True
 | i, o :: os => p i o ∧ HeadAll p (i + 1) os
theorem HeadAll.spec {p : Nat → Oper → Prop} : ∀ {l : List Oper} {k : Nat}, HeadAll p k l → ∀ i o, l[i]? = some o → p (k + i) o
 | [], _, _, i, o, h => by simp at h
 | a :: l, k, ⟨h1, h2⟩, 0, o, h => by simp at h; subst h; exact h1
 | a :: l, k, ⟨h1, h2⟩, i + 1, o, h => by
  have := HeadAll.spec h2 i o (by simpa using h)
  rwa [show k + 1 + i = k + (i + 1) by omega] at this
theorem HeadAll.head {p : Nat → Oper → Prop} {n0 : Nat} {ops : List Oper} (h : HeadAll p 0 (ops.take n0)) : ∀ i o, i < n0 → ops[i]? = some o → p i o := by
 intro i o hi ho
 have := h.spec i o (by rw [List.getElem?_take, if_pos hi]; exact ho)
 rwa [Nat.zero_add] at this
theorem HeadAll.nil {p : Nat → Oper → Prop} {i : Nat} : HeadAll p i [] := trivial
theorem HeadAll.cons {p : Nat → Oper → Prop} {i : Nat} {o : Oper} {l : List Oper} (h : p i o) (hl : HeadAll p (i + 1) l) : HeadAll p i (o :: l) := ⟨h, hl⟩
theorem Qf {α : Type} {c : Prop} [Decidable c] {x y : Option α} {r : α} (h : (if c then x else y) = some r) : (c ∧ x = some r) ∨ (¬ c ∧ y = some r) := by
 split at h
 ·exact .inl ⟨‹_›, h⟩
 ·exact .inr ⟨‹_›, h⟩
section
variable {P : Program} {N : Nat} {Q : QbC} {f : Fr} {w : World} {K : Fr → World → Prop}
theorem V (h : K f w) : andThen K Q .normal f w := h
theorem Qi (h : Q .ret f w) : andThen K Q .ret f w := h
theorem Qn {id : Nat} (h : Q (.exit id) f w) : andThen K Q (.exit id) f w := h
theorem Qz {id : Nat} (h : Q .normal f w) : QgV id Q .normal f w := h
theorem QC {id : Nat} (h : Q .ret f w) : QgV id Q .ret f w := h
theorem Q9 {id : Nat} (h : Q .normal f w) : QgV id Q (.exit id) f w := by simpa [QgV] using h
theorem QK {c : Code} (M : Fr → World → Prop) (h1 : W P N c (andThen M Q) f w) (h2 : ∀ f w, M f w → Q .normal f w) : W P N c Q f w :=
 QeI h1 fun e f w h => by cases e <;> first | exact h2 f w h | exact h
theorem Qr {c : Operand} {x y : Code} {b : Bool} (hv : ev f c = .bool b) (hb : b = true) (h : W P N x Q f w) : W P N (.cond c x y) Q f w := QL (by rw [hv, hb]) h
theorem Qs {c : Operand} {x y : Code} {b : Bool} (hv : ev f c = .bool b) (hb : ¬ b = true) (h : W P N y Q f w) : W P N (.cond c x y) Q f w := QB (by rw [hv]; simpa using hb) h
theorem Zf {ops : Array Oper} {j d : Nat} {b : Bool} (hd : (ops[j]?).bind (·.dst) = some d) (hf : f d = .bool b) : JA ops f j = some b := by simp [JA, hd, hf]
theorem Zk {b : Bool} (h : ¬ b = true) : b = false := by simpa using h
theorem Yp {a a' b b' : Value} (h1 : a = a') (h2 : b = b') : Value.tuple #[a, b] = .tuple #[a', b'] := by rw [h1, h2]
theorem Qmp {a a' b b' c c' : Value} (h1 : a = a') (h2 : b = b') (h3 : c = c') : Value.tuple #[a, b, c] = .tuple #[a', b', c'] := by rw [h1, h2, h3]
end
section
variable {w0 w : World} {s : PHeap} {H : List Res}
theorem St.f1 {R0 R1 : Res} (h : St w0 s (R0 :: R1 :: H) w) : St w0 s (R1 :: R0 :: H) w := h.perm (List.perm_middle (l₁ := [R0]))
theorem St.f2 {R0 R1 R2 : Res} (h : St w0 s (R0 :: R1 :: R2 :: H) w) : St w0 s (R2 :: R0 :: R1 :: H) w := h.perm (List.perm_middle (l₁ := [R0, R1]))
theorem St.f3 {R0 R1 R2 R3 : Res} (h : St w0 s (R0 :: R1 :: R2 :: R3 :: H) w) : St w0 s (R3 :: R0 :: R1 :: R2 :: H) w := h.perm (List.perm_middle (l₁ := [R0, R1, R2]))
theorem St.f4 {R0 R1 R2 R3 R4 : Res} (h : St w0 s (R0 :: R1 :: R2 :: R3 :: R4 :: H) w) : St w0 s (R4 :: R0 :: R1 :: R2 :: R3 :: H) w := h.perm (List.perm_middle (l₁ := [R0, R1, R2, R3]))
theorem St.f5 {R0 R1 R2 R3 R4 R5 : Res} (h : St w0 s (R0 :: R1 :: R2 :: R3 :: R4 :: R5 :: H) w) : St w0 s (R5 :: R0 :: R1 :: R2 :: R3 :: R4 :: H) w := h.perm (List.perm_middle (l₁ := [R0, R1, R2, R3, R4]))
theorem St.f6 {R0 R1 R2 R3 R4 R5 R6 : Res} (h : St w0 s (R0 :: R1 :: R2 :: R3 :: R4 :: R5 :: R6 :: H) w) : St w0 s (R6 :: R0 :: R1 :: R2 :: R3 :: R4 :: R5 :: H) w := h.perm (List.perm_middle (l₁ := [R0, R1, R2, R3, R4, R5]))
theorem St.f7 {R0 R1 R2 R3 R4 R5 R6 R7 : Res} (h : St w0 s (R0 :: R1 :: R2 :: R3 :: R4 :: R5 :: R6 :: R7 :: H) w) : St w0 s (R7 :: R0 :: R1 :: R2 :: R3 :: R4 :: R5 :: R6 :: H) w := h.perm (List.perm_middle (l₁ := [R0, R1, R2, R3, R4, R5, R6]))
theorem St.f8 {R0 R1 R2 R3 R4 R5 R6 R7 R8 : Res} (h : St w0 s (R0 :: R1 :: R2 :: R3 :: R4 :: R5 :: R6 :: R7 :: R8 :: H) w) : St w0 s (R8 :: R0 :: R1 :: R2 :: R3 :: R4 :: R5 :: R6 :: R7 :: H) w := h.perm (List.perm_middle (l₁ := [R0, R1, R2, R3, R4, R5, R6, R7]))
theorem St.f9 {R0 R1 R2 R3 R4 R5 R6 R7 R8 R9 : Res} (h : St w0 s (R0 :: R1 :: R2 :: R3 :: R4 :: R5 :: R6 :: R7 :: R8 :: R9 :: H) w) : St w0 s (R9 :: R0 :: R1 :: R2 :: R3 :: R4 :: R5 :: R6 :: R7 :: R8 :: H) w := h.perm (List.perm_middle (l₁ := [R0, R1, R2, R3, R4, R5, R6, R7, R8]))
end
/-! ### draws -/
structure RP where
 p : PHeap → Value → Prop
 mono : ∀ {s t v}, PHeap.le s t → p s v → p t v
def RP.any : RP := ⟨fun _ _ => True, fun _ _ => trivial⟩
def RP.eq (u : Value) : RP := ⟨fun _ v => v = u, fun _ h => h⟩
def RP.val {α : Type} (E : Enc α) (a : α) : RP := ⟨fun s v => E.val s v a, fun l h => QhZ h l⟩
def RP.at {α : Type} (E : Enc α) (a : α) : RP := ⟨fun s v => ∃ b off, v = .pointer (some ⟨b, off, none⟩) ∧ At s b off E a, fun l ⟨b, off, e, h⟩ => ⟨b, off, e, h.mono l⟩⟩
section
variable {P : Program} {N : Nat} {Q : QbC} {f : Fr} {w w0 : World} {s : PHeap} {H : List Res}
end
theorem QnV {p q : Bool} (h : p = true) : (p && q) = q := by rw [h]; rfl
theorem QnW {p q : Bool} (h : p = false) : (p && q) = false := by rw [h]; rfl
theorem Qd7 {p q : Bool} (h : p = true) : (p || q) = true := by rw [h]; rfl
theorem YV {p q : Bool} (h : p = false) : (p || q) = q := by rw [h]; rfl
theorem Qip {n : Int} (h0 : -9223372036854775808 ≤ n) (h1 : n ≤ 9223372036854775807) : IntKind.i64.wrap n = n := IntWalk.i64_in n ⟨h0, h1⟩
theorem QF {i n : Nat} (h : i < n) (hn : n ≤ maxLen) : Value.int .i64 (IntKind.i64.wrap ((i : Int) + 1)) = Value.int .i64 ((i + 1 : Nat) : Int) := by
 have : n ≤ 9223372036854775807 := hn
 rw [Qip (by omega) (by omega)]
 simp
section
variable {P : Program} {ρ : Operand → Value} {o : Oper} {w : World} {K : Value → World → Prop} {T : TypeId} {s : PHeap}
end
section
variable {P : Program} {ρ : Operand → Value} {o : Oper} {w w0 : World} {K : Value → World → Prop} {T : TypeId} {s : PHeap} {H : List Res}
theorem QgO {α β : Type} {E : Enc α} {F : Enc β} {Te Tr : TypeId} {v : Value} {hs : List α} {hs' : List Value} {xss : List (List β)} {x : Operand} {e n b : Nat} (hS : St w0 s (.arr E Te v hs :: .rows F Tr hs' xss :: H) w) (hl : hs.length = xss.length) (hT : Je P T = some (e, n, b)) (ho : o.op = .call { callee := .builtin .len, args := #[x], argTypes := #[T] }) (hx : ρ x = v) (hk : K (.int .i64 (xss.length : Int)) w) : Exec P ρ o w K := by
 rw [← hl] at hk
 exact QP hS hT ho hx hk
end
end Go.Pw
/- -/
namespace Go.Pw
section
variable {P : Program} {N : Nat} {Q : QbC}
def Qb5 (N n0 : Nat) (ops : List Oper) : Bool :=
 (Nat.ble n0 ops.length) && ((List.range ops.length).all fun t => Nat.blt t n0 || Qcr ops t || (Nat.blt n0 t && Qdx ops t (t - 1))) &&
 (ops.take n0).all (fun o => QcR N o.dst) &&
 (ops.drop n0).all (fun o => QcR N o.dst) &&
 decide (((ops.take n0).filterMap (·.dst)).Nodup) &&
 ((List.range ops.length).all fun t => match ops[t]? with | some o => o.after.all fun e => !(Region.binds .any e) || Nat.blt e.on t | none => true)
theorem QmS {id n0 : Nat} {ops : List Oper} {f : Fr} {w : World} (hm : P.follows .mixedOrders = true) (hok : Qb5 N n0 ops = true)
  (I : (Nat → Bool) → Fr → World → Prop) (hI : I (fun _ => false) f w.drew)
  (head : ∀ (i : Nat) (o : Oper) (dn : Nat → Bool) (g : Fr) (w : World), i < n0 → ops[i]? = some o → dn i = false → (∀ e ∈ o.after, Region.binds .any e = true → dn e.on = true) →
   (∀ e ∈ o.after, Region.binds .any e = true → e.on < i) → I dn g w →
   (if Region.wanted o (JA ops.toArray g) then Exec P (ev g) o w fun v w' => I (fun j => if j = i then true else dn j) (JF g o.dst v) w' else I (fun j => if j = i then true else dn j) (JF g o.dst undef) w))
  (tail : ∀ (dn : Nat → Bool) (g : Fr) (w : World), (∀ i, i < n0 → dn i = true) → I dn g w → WL P N ops.toArray Q (ops.drop n0) g w) :
  W P N (.region id ops.toArray true) Q f w := by
 simp only [Qb5, Bool.and_eq_true, decide_eq_true_eq, List.all_eq_true, Bool.or_eq_true] at hok
 obtain ⟨⟨⟨⟨⟨hn0, hwait⟩, hdst⟩, _⟩, hnodup⟩, hback⟩ := hok
 have hn0' : n0 ≤ ops.length := by simpa [Nat.ble_eq] using hn0
 have hdsti : ∀ (i : Nat) (o : Oper), i < n0 → ops[i]? = some o → QcR N o.dst = true := by
  intro i o hi ho
  exact hdst o (List.mem_of_getElem? (i := i) (by rw [List.getElem?_take, if_pos hi]; exact ho))
 have hb : ∀ (i : Nat) (o : Oper) (e : Edge), ops[i]? = some o → e ∈ o.after → Region.binds .any e = true → e.on < i := by
  intro i o e ho he hbi
  have hi : i < ops.length := (List.getElem?_eq_some_iff.1 ho).1
  have := hback i (by simpa using hi)
  simp only [ho] at this
  have := Array.all_eq_true'.1 this e he
  simpa [Nat.blt_eq, hbi] using this
 have both : ∀ (listed : Array Bool) (i : Nat), listed.size = ops.length → i < ops.length → listed.getD i true = listed.getD i false := by
  intro listed i hl hi
  have : i < listed.size := by omega
  simp [this]
 have tailrun : ∀ (l : List Oper) (k : Nat) (listed : Array Bool) (a : Act) (w : World), ops.drop k = l → n0 ≤ k → listed.size = ops.length →
   (∀ i, i < k → listed.getD i false = true) → (∀ i, k ≤ i → i < ops.length → listed.getD i false = false) → wpList P ops.toArray (Qco N Q) l a w → wpAny P .any ops.toArray (Qco N Q) l.length listed a w := by
  intro l
  induction l with
  | nil =>
   intro k listed a w hl hk hls hdone hnot h
   have hkl : ops.length ≤ k := by simpa [List.drop_eq_nil_iff] using hl
   refine ⟨?_, h⟩
   rw [List.eq_nil_iff_forall_not_mem]
   intro i hi
   obtain ⟨hun, oi, hoi, _⟩ := mem_ready.1 hi
   have hilt : i < ops.length := by have := (Array.getElem?_eq_some_iff.1 hoi).1; simpa using this
   rw [both listed i hls hilt, hdone i (by omega)] at hun
   cases hun
  | cons o l ih =>
   intro k listed a w hl hk hls hdone hnot h
   have hkl : k < ops.length := by
    rcases Nat.lt_or_ge k ops.length with h | h
    ·exact h
    ·rw [List.drop_eq_nil_of_le h] at hl; cases hl
   have hok : ops[k]? = some o := by
    have := congrArg List.head? hl
    simpa [List.head?_drop] using this
   have hl' : ops.drop (k + 1) = l := by
    have := congrArg List.tail hl
    simpa [List.tail_drop] using this
   have hready : ∀ i, i ∈ Region.ready .any ops.toArray listed → i = k := by
    intro i hi
    obtain ⟨hun, oi, hoi, hall⟩ := mem_ready.1 hi
    have hilt : i < ops.length := by have := (Array.getElem?_eq_some_iff.1 hoi).1; simpa using this
    rcases Nat.lt_trichotomy i k with hlt | heq | hgt
    ·rw [both listed i hls hilt, hdone i hlt] at hun; cases hun
    ·exact heq
    ·rcases hwait i (by simpa using hilt) with (hw | hw) | ⟨_, hw⟩
     rotate_right
     ·have hoi' : ops[i]? = some oi := by simpa using hoi
      simp only [Qdx, hoi'] at hw
      obtain ⟨e, he, hbb⟩ := Array.any_eq_true'.1 hw
      simp only [Bool.and_eq_true] at hbb
      have hon : e.on = i - 1 := Nat.eq_of_beq_eq_true hbb.2
      have h2 := hall e he hbb.1
      rw [hon, hnot (i - 1) (by omega) (by omega)] at h2
      cases h2
     ·simp [Nat.blt_eq] at hw; omega
     ·have hoi' : ops[i]? = some oi := by simpa using hoi
      simp only [Qcr, hoi', List.all_eq_true, List.mem_range] at hw
      obtain ⟨e, he, hbb⟩ := Array.any_eq_true'.1 (hw k hgt)
      simp only [Bool.and_eq_true] at hbb
      have hon : e.on = k := Nat.eq_of_beq_eq_true hbb.2
      have h2 := hall e he hbb.1
      rw [hon, hnot k (Nat.le_refl _) hkl] at h2
      cases h2
   have hkready : k ∈ Region.ready .any ops.toArray listed :=
    mem_ready.2 ⟨by rw [both listed k hls hkl]; exact hnot k (Nat.le_refl _) hkl, o, by simpa using hok, fun e he q => hdone e.on (hb k o e hok he q)⟩
   refine ⟨fun h0 => (by rw [h0] at hkready; cases hkready), fun i hi => ?_⟩
   have hik := hready i hi
   subst hik
   have hnext : ∀ a w, wpList P ops.toArray (Qco N Q) l a w → wpAny P .any ops.toArray (Qco N Q) l.length (listed.setIfInBounds i true) a w := fun a w hh =>
    ih (i + 1) _ a w hl' (by omega) (by simpa using hls)
     (fun j hj => by
      by_cases e : j = i
      ·subst e; simp [hls, hkl]
      ·rw [getD_set_ne false (Ne.symm e)]; exact hdone j (by omega))
     (fun j hj hj' => by rw [getD_set_ne false (by omega)]; exact hnot j (by omega) hj') hh
   unfold wpOp
   have : ops.toArray[i]? = some o := by simpa using hok
   simp only [this]
   simp only [wpList] at h
   split
   ·rename_i hw
    rw [if_pos hw] at h
    exact h.imp (Oper.wp_mono hnext) (fun h => h)
   ·rename_i hw
    rw [if_neg hw] at h
    exact hnext _ _ h
 have headrun : ∀ (c : Nat) (listed : Array Bool) (a : Act) (w : World), (List.range n0).countP (fun i => !listed.getD i false) = c →
   (∃ (g : Fr), Fits N a g ∧ I (fun i => listed.getD i false) g w ∧ listed.size = ops.length ∧
    (∀ i, n0 ≤ i → i < ops.length → listed.getD i false = false)) →
   wpAny P .any ops.toArray (Qco N Q) (c + (ops.drop n0).length) listed a w := by
  intro c
  induction c with
  | zero =>
   intro listed a w hc ⟨g, hg, hIw, hls, hnot⟩
   rw [Nat.zero_add]
   have hdone : ∀ i, i < n0 → listed.getD i false = true := by
    intro i hi
    have := List.countP_eq_zero.1 hc i (by simpa using hi)
    cases h : listed.getD i false with
    | true => rfl
    | false => rw [h] at this; simp at this
   exact tailrun (ops.drop n0) n0 listed a w Z (Nat.le_refl _) hls hdone hnot (tail _ g w hdone hIw a hg)
  | succ c ih =>
   intro listed a w hc ⟨g, hg, hIw, hls, hnot⟩
   rw [Nat.add_right_comm]
   have hex : ∃ i, i < n0 ∧ listed.getD i false = false ∧ ∀ j, j < i → listed.getD j false = true := by
    have h1 : ∃ i, i < n0 ∧ listed.getD i false = false := by
     have : 0 < (List.range n0).countP (fun i => !listed.getD i false) := by omega
     obtain ⟨i, hi, hp⟩ := List.countP_pos_iff.1 this
     exact ⟨i, by simpa using hi, by simpa using hp⟩
    obtain ⟨i, hi, hu⟩ := h1
    induction i using Nat.strongRecOn with
    | _ i ihi =>
     by_cases hm : ∃ j, j < i ∧ listed.getD j false = false
     ·obtain ⟨j, hj, hju⟩ := hm
      exact ihi j hj (by omega) hju
     ·refine ⟨i, hi, hu, fun j hj => ?_⟩
      cases h : listed.getD j false with
      | true => rfl
      | false => exact absurd ⟨j, hj, h⟩ hm
   obtain ⟨k, hk, hku, hkleast⟩ := hex
   have hkl : k < ops.length := by omega
   have hready : ∀ i, i ∈ Region.ready .any ops.toArray listed → i < n0 := by
    intro i hi
    obtain ⟨hun, oi, hoi, hall⟩ := mem_ready.1 hi
    have hilt : i < ops.length := by have := (Array.getElem?_eq_some_iff.1 hoi).1; simpa using this
    rcases hwait i (by simpa using hilt) with (hw | hw) | ⟨hw0, hw⟩
    rotate_right
    ·have hn0i : n0 < i := by simpa [Nat.blt_eq] using hw0
     have hoi' : ops[i]? = some oi := by simpa using hoi
     simp only [Qdx, hoi'] at hw
     obtain ⟨e, he, hbb⟩ := Array.any_eq_true'.1 hw
     simp only [Bool.and_eq_true] at hbb
     have hon : e.on = i - 1 := Nat.eq_of_beq_eq_true hbb.2
     have h2 := hall e he hbb.1
     rw [hon, hnot (i - 1) (by omega) (by omega)] at h2
     cases h2
    ·simpa [Nat.blt_eq] using hw
    ·rcases Nat.lt_or_ge i n0 with h | h
     ·exact h
     ·have hoi' : ops[i]? = some oi := by simpa using hoi
      simp only [Qcr, hoi', List.all_eq_true, List.mem_range] at hw
      obtain ⟨e, he, hbb⟩ := Array.any_eq_true'.1 (hw k (by omega))
      simp only [Bool.and_eq_true] at hbb
      have hon : e.on = k := Nat.eq_of_beq_eq_true hbb.2
      have h2 := hall e he hbb.1
      rw [hon, hku] at h2
      cases h2
   obtain ⟨ok, hok⟩ : ∃ o, ops[k]? = some o := ⟨ops[k], by simp [hkl]⟩
   have hkready : k ∈ Region.ready .any ops.toArray listed :=
    mem_ready.2 ⟨by rw [both listed k hls hkl]; exact hku, ok, by simpa using hok, fun e he q => hkleast e.on (hb k ok e hok he q)⟩
   refine ⟨fun h0 => (by rw [h0] at hkready; cases hkready), fun i hi => ?_⟩
   have hin := hready i hi
   obtain ⟨hun, o, hoi, hall⟩ := mem_ready.1 hi
   have ho : ops[i]? = some o := by simpa using hoi
   have hilt : i < ops.length := by omega
   rw [both listed i hls hilt] at hun
   have hdN := hdsti i o hin ho
   have hset : (fun j => (listed.setIfInBounds i true).getD j false) = fun j => if j = i then true else listed.getD j false := by
    funext j
    by_cases e : j = i
    ·subst e; simp [hls, hilt]
    ·rw [if_neg e, getD_set_ne false (Ne.symm e)]
   have hnext : ∀ (v : Value) (w' : World), I (fun j => if j = i then true else listed.getD j false) (JF g o.dst v) w' →
     wpAny P .any ops.toArray (Qco N Q) (c + (ops.drop n0).length) (listed.setIfInBounds i true) (a.put o.dst v) w' := by
    intro v w' hIw'
    refine ih _ _ _ ?_ ⟨JF g o.dst v, hg.put hdN v, by rw [hset]; exact hIw', by simpa using hls, ?_⟩
    ·have := Qgr (p := fun j => !listed.getD j false) (q := fun j => !(listed.setIfInBounds i true).getD j false) (i := i) (by show (!listed.getD i false) = true; rw [hun]; rfl)
      (by simp [hls, hilt]) (fun j hj => by show (!listed.getD j false) = _; rw [getD_set_ne false (Ne.symm hj)]) n0 hin
     omega
    ·intro j hj hj'
     rw [getD_set_ne false (by omega)]
     exact hnot j hj hj'
   have hop := head i o _ g w hin ho hun (fun e he hbe => hall e he hbe) (fun e he q => hb i o e ho he q) hIw
   unfold wpOp
   simp only [hoi]
   rw [← Qbd hg] at hop
   split
   ·rename_i hw
    rw [if_pos hw] at hop
    refine .inl (QcF ?_)
    rw [hg.eval]
    exact hop.mono fun v w' h => hnext v w' h
   ·rename_i hw
    rw [if_neg hw] at hop
    exact hnext undef w hop
 intro a ha
 refine wp_region_any hm ?_
 have hcount : (List.range n0).countP (fun i => !(Array.replicate ops.toArray.size false).getD i false) = n0 := by
  rw [List.countP_eq_length.2]
  ·simp
  ·intro i hi
   have hi' : i < n0 := by simpa using hi
   simp [show i < ops.length by omega]
 have := headrun n0 (Array.replicate ops.toArray.size false) a w.drew hcount ⟨f, ha, by
  have e : (fun i => (Array.replicate ops.toArray.size false).getD i false) = fun _ => false := by
   funext i
   by_cases h : i < ops.length <;> simp [h]
  rw [e]; exact hI, by simp, fun i _ hi => by simp [hi]⟩
 have hlen : n0 + (ops.drop n0).length = ops.toArray.size := by simp; omega
 rw [hlen] at this
 exact this
end
structure RR where
 own : Bool
 p : PHeap → Value → List Res → Prop
 mono : ∀ {s t v L}, PHeap.le s t → p s v L → p t v L
 nil : own = false → ∀ {s v L}, p s v L → L = []
def RR.of (R : RP) : RR := ⟨false, fun s v L => L = [] ∧ R.p s v, fun l h => ⟨h.1, R.mono l h.2⟩, fun _ _ _ _ h => h.1⟩
def RR.arr {α : Type} (E : Enc α) (T : TypeId) (xs : List α) : RR := ⟨true, fun _ v L => L = [.arr E T v xs], fun _ h => h, fun h => by cases h⟩
def RR.lit {α : Type} (E : Enc α) (T : TypeId) (n : Nat) (xs : List α) : RR := ⟨true, fun s v L => ∃ b cs, v = .slice (some ⟨b, 0, none⟩) n n ∧ L = [.box b T cs] ∧ reps E s cs xs, fun l ⟨b, cs, h1, h2, h3⟩ => ⟨b, cs, h1, h2, h3.mono l⟩, fun h => by cases h⟩
def RR.box (T : TypeId) (cs : List Value) : RR := ⟨true, fun _ v L => ∃ b, v = .pointer (some ⟨b, 0, none⟩) ∧ L = [.box b T cs], fun _ h => h, fun h => by cases h⟩
theorem Qir {α : Type} [BEq α] [LawfulBEq α] : ∀ (C M : List α), C.Nodup → M.Nodup → (∀ c ∈ C, c ∈ M) → ∃ M', M.Perm (C ++ M') ∧ M'.Nodup ∧ ∀ j, j ∈ M' ↔ j ∈ M ∧ j ∉ C
 | [], M, _, hM, _ => ⟨M, List.Perm.refl _, hM, fun j => by simp⟩
 | c :: C, M, hC, hM, hs => by
  have hc := List.nodup_cons.1 hC
  obtain ⟨M', hp, hn, hm⟩ := Qir C (M.erase c) hc.2 (hM.erase c) (fun x hx => (hM.mem_erase_iff).2 ⟨fun e => hc.1 (e ▸ hx), hs x (by simp [hx])⟩)
  refine ⟨M', ((List.perm_cons_erase (hs c (by simp))).trans (hp.cons c)), hn, fun j => ?_⟩
  rw [hm, hM.mem_erase_iff]
  simp only [List.mem_cons, not_or]
  constructor
  ·rintro ⟨⟨h1, h2⟩, h3⟩; exact ⟨h2, h1, h3⟩
  ·rintro ⟨h1, h2, h3⟩; exact ⟨⟨h2, h1⟩, h3⟩
section
variable {P : Program} {N : Nat} {Q : QbC} {f : Fr} {w w0 : World} {s : PHeap} {H Hs : List Res}
end
end Go.Pw
namespace Go.Pw
section
variable {P : Program} {ρ : Operand → Value} {o : Oper} {w w0 : World} {K : Value → World → Prop} {T : TypeId} {s : PHeap} {H : List Res}
theorem Kg {x i : Operand} {k : IntKind} {n m sz b off : Nat} {ag : Bool} {e : TypeId} {j : Int} (hT : P.underlying T = some (.array n e)) (he : JU P e = some (ag, sz)) (ho : o.op = .indexAddr T x i) (hx : ρ x = .pointer (some ⟨b, off, none⟩))
  (hi : ρ i = .int k j) (h : 0 ≤ j ∧ j < n) (hm : off + j.toNat * sz = m) (hk : K (.pointer (some ⟨b, m, none⟩)) w) : Exec P ρ o w K := by
 subst hm
 refine .of_run ?_ hk
 unfold execOp
 simp only [ho, hx, hi, Sem.run_bind, Instr.indexAt, asIntOf, run_underlying hT, Instr.sureAddr, Sem.run_pure, Result.andThen_ok]
 rw [if_pos h]
 simp only [Sem.run_bind, run_sizeOf' he, Result.andThen_ok, Sem.run_pure, Addr.add_lit]
theorem SliceRep.nilShape {α : Type} {E : Enc α} {v : Value} {xs : List α} (h : SliceRep E s v xs) : ∃ (a : Option Addr) (n c : Nat), v = .slice a n c ∧ (a.isNone = true → xs = []) := by
 rcases h with ⟨rfl, rfl⟩ | ⟨a, cap, rfl, rfl⟩ | ⟨b, off, cap, c, T, fz, cells, rfl, _⟩
 ·exact ⟨_, _, _, Z, fun _ => rfl⟩
 ·exact ⟨_, _, _, Z, fun _ => rfl⟩
 ·exact ⟨_, _, _, Z, fun h => by cases h⟩
theorem St.nilShape {α : Type} {E : Enc α} {Te : TypeId} {v : Value} {xs : List α} (hS : St w0 s (.arr E Te v xs :: H) w) : ∃ (a : Option Addr) (n c : Nat), v = .slice a n c ∧ (a.isNone = true → xs = []) := by
 obtain ⟨t, _, _, h⟩ := hS.freezeArr
 exact h.nilShape
end
end Go.Pw
