/- -/
import Derived.Test.YteiainhbhaodoaaGreatL8
import Derived.Test.YteiainhbhaodoaaGreatL9
import Derived.Test.YteiainhbhaodoaaGreatL12
import Derived.Test.YteiainhbhaodoaaGreatL10
set_option linter.unusedSimpArgs false
set_option linter.unusedVariables false
namespace Go.Pw
class FTy (P : Program) (T k : Nat) (off : outParam Nat) : Prop where h : QfT P T k = some off
class STy (P : Program) (T : Nat) (e n b : outParam Nat) : Prop where h : JT P T = some (e, n, b)
class ATy (P : Program) (T : Nat) (a : outParam Bool) (n : outParam Nat) : Prop where h : Qan P T = some (a, n)
class BoxIn (H : List Res) (b : Nat) (T : outParam Nat) (cs : outParam (List Value)) : Prop where h : ∃ H', H.Perm (Res.box b T cs :: H')
instance (priority := high) {H : List Res} {b T : Nat} {cs : List Value} : BoxIn (Res.box b T cs :: H) b T cs := ⟨H, .refl _⟩
instance {H : List Res} {r : Res} {b T : Nat} {cs : List Value} [h : BoxIn H b T cs] : BoxIn (r :: H) b T cs :=
  let ⟨H', p⟩ := h.h
  ⟨r :: H', (p.cons r).trans (List.Perm.swap _ _ _)⟩
def ups : List (Nat × Value) → Fr → Fr
  | [], g => g
  | (n, v) :: l, g => upd (ups l g) n v
inductive FxL (f : Fr) : List (Nat × Value) → Prop
  | nil : FxL f []
  | cons {n : Nat} {v : Value} {l : List (Nat × Value)} (h : f n = v) (t : FxL f l) : FxL f ((n, v) :: l)
def Fx (f : Fr) (l : List (Nat × Value)) : Prop := ∃ g, f = ups l g
theorem FxL.eq {f : Fr} : ∀ {l : List (Nat × Value)}, FxL f l → f = ups l f
  | [], _ => rfl
  | (n, v) :: l, .cons h t => by
    funext m
    show f m = bif Nat.beq m n then v else ups l f m
    rw [← t.eq]
    cases q : Nat.beq m n with
    | true => rw [Nat.eq_of_beq_eq_true q, h]; rfl
    | false => rfl
theorem fxl {f : Fr} {l : List (Nat × Value)} (h : FxL f l := by repeat (first | exact FxL.nil | refine FxL.cons rfl ?_)) : FxL f l := h
theorem Fx.mk {f : Fr} {l : List (Nat × Value)} (h : FxL f l := by repeat (first | exact FxL.nil | refine FxL.cons rfl ?_)) : Fx f l := ⟨f, h.eq⟩
def QkK (k : IntKind) (a b : Int) : BinOp → Option Value
  | .lss => some (.bool (decide (a < b)))
  | .leq => some (.bool (decide (a ≤ b)))
  | .gtr => some (.bool (decide (b < a)))
  | .geq => some (.bool (decide (b ≤ a)))
  | .eql => some (.bool (decide (a = b)))
  | .neq => some (.bool (!decide (a = b)))
  | .add => some (.int k (k.wrap (a + b)))
  | .sub => some (.int k (k.wrap (a - b)))
  | .mul => some (.int k (k.wrap (a * b)))
  | _ => none
def QkJ (a b : ByteArray) : BinOp → Option Value
  | .eql => some (.bool (decide (a = b)))
  | .neq => some (.bool (!decide (a = b)))
  | _ => none
def Qhe (ρ : Operand → Value) : Op → Option Value
  | .move x => some (ρ x)
  | .assign x => some (ρ x)
  | .binOp op _ x y _ => match ρ x with
    | .int k a => match ρ y with
      | .int k' b => if k = k' then QkK k a b op else none
      | _ => none
    | .string a => match ρ y with
      | .string b => QkJ a b op
      | _ => none
    | _ => none
  | .unOp .not _ x => match ρ x with
    | .bool b => some (.bool (!b))
    | _ => none
  | .extract t i => match ρ t with
    | .tuple vs => vs[i]?
    | _ => none
  | .nilCheck x => match ρ x with
    | .pointer (some a) => some (.pointer (some a))
    | _ => none
  | _ => none
section
variable {P : Program} {ρ : Operand → Value} {o : Oper} {w w0 : World} {s : PHeap} {H : List Res} {K : Value → World → Prop} {T : TypeId}
theorem Xq {v : Value} (h : Qhe ρ o.op = some v) (hk : K v w) : Exec P ρ o w K := by
  unfold Qhe at h
  split at h
  · rename_i x ho; exact Zm ho (Zu h) hk
  · rename_i x ho; exact Zo ho (Zu h) hk
  · rename_i op _ x y _ ho
    split at h
    · rename_i k a hx
      split at h
      · rename_i k' b hy
        split at h
        · rename_i e
          subst e
          cases op <;> simp only [QkK, Option.some.injEq, reduceCtorEq] at h <;> subst h
          · exact Exec.add ho hx hy hk
          · exact Exec.sub ho hx hy hk
          · exact Exec.mul ho hx hy hk
          · exact Exec.eql ho hx hy hk
          · exact Exec.neq ho hx hy hk
          · exact Zq ho hx hy hk
          · exact Exec.leq ho hx hy hk
          · exact Exec.gtr ho hx hy hk
          · exact Exec.geq ho hx hy hk
        · cases h
      · cases h
    · rename_i a hx
      split at h
      · rename_i b hy
        cases op <;> simp only [QkJ, Option.some.injEq, reduceCtorEq] at h <;> subst h
        · exact Qgm ho hx hy hk
        · exact Qgl ho hx hy hk
      · cases h
    · cases h
  · rename_i x ho
    split at h
    · rename_i b hx; cases h; exact Exec.not ho hx hk
    · cases h
  · rename_i t i ho
    split at h
    · rename_i vs ht; exact Exec.extract ho ht h hk
    · cases h
  · rename_i x ho
    split at h
    · rename_i a hx; cases h; exact Qb ho hx hk
    · cases h
  · cases h
theorem QiR {c a b : Operand} {e : Bool} {v : Value} (ho : o.op = .pick c a b) (hc : ρ c = .bool e) (he : e = true) (hv : ρ a = v) (hk : K v w) : Exec P ρ o w K := Zs ho (by rw [hc, he]) hv hk
theorem QiS {c a b : Operand} {e : Bool} {v : Value} (ho : o.op = .pick c a b) (hc : ρ c = .bool e) (he : e = false) (hv : ρ b = v) (hk : K v w) : Exec P ρ o w K := Qel ho (by rw [hc, he]) hv hk
theorem Qhk {x : Operand} {k b off foff m : Nat} [hT : FTy P T k foff] (ho : o.op = .fieldAddr T x k) (hx : ρ x = .pointer (some ⟨b, off, none⟩)) (hm : off + foff = m) (hk : K (.pointer (some ⟨b, m, none⟩)) w) : Exec P ρ o w K := Zp hT.h ho hx hm hk
theorem Qhj {b off : Nat} {Tb : TypeId} {cs : List Value} {v : Value} (hS : St w0 s H w) (hB : BoxIn H b Tb cs) (hv : cs[off]? = some v) : w.cell? ⟨b, off, none⟩ = some v := by
  obtain ⟨_, p⟩ := hB.h
  simp [World.cell?, (hS.perm p).box_heap, hv]
theorem Xlb {x : Operand} {b off n : Nat} {v : Value} [hT : ATy P T false n] (ho : o.op = .load T x) (hx : ρ x = .pointer (some ⟨b, off, none⟩)) (hc : w.cell? ⟨b, off, none⟩ = some v) (hk : K v w) : Exec P ρ o w K := by
  refine .of_run ?_ hk
  unfold execOp
  simp only [ho, hx, Instr.loadAt, Instr.sureAddr, Sem.run_bind, Sem.run_pure, Result.andThen_ok, KZ hT.h hc]
structure Boxed (w : World) (b off n : Nat) (ds : List Value) : Prop where
  h : ∃ (w0 : World) (s : PHeap) (H : List Res) (Tb : TypeId) (cs : List Value), St w0 s (.box b Tb cs :: H) w ∧ (cs.drop off).take n = ds ∧ ds.length = n
theorem Qgb {b off n : Nat} {Tb : TypeId} {cs ds : List Value} (hS : St w0 s H w) (hB : BoxIn H b Tb cs) (hv : (cs.drop off).take n = ds) (hn : ds.length = n) : Boxed w b off n ds :=
  let ⟨_, p⟩ := hB.h
  ⟨_, _, _, _, _, hS.perm p, hv, hn⟩
theorem Qky {x : Operand} {b off n : Nat} {ds : List Value} [hT : ATy P T true n] (ho : o.op = .load T x) (hx : ρ x = .pointer (some ⟨b, off, none⟩)) (h : Boxed w b off n ds) (hk : K (.agg ds.toArray) w) : Exec P ρ o w K := by
  obtain ⟨w0, s, H, Tb, cs, hS, hv, hn⟩ := h.h
  exact Jy hS (by rw [hn]; exact hT.h) ho hx (by rw [hn]; exact hv) hk
theorem Qkx {α : Type} {E : Enc α} {xs : List α} {x : Operand} {v : Value} {e n b : Nat} [hT : STy P T e n b] (ho : o.op = .call { callee := .builtin .len, args := #[x], argTypes := #[T] }) (hx : ρ x = v) (h : SliceRep E s v xs) (hk : K (.int .i64 (xs.length : Int)) w) : Exec P ρ o w K := Zr hT.h ho hx h hk
end
section
variable {P : Program} {N : Nat} {ops : Array Oper} {Q : Qaz} {f : Fr} {w : World} {o : Oper} {rest : List Oper}
theorem Qfh {d : Nat} (hg : o.guard = none) (hd : o.dst = some d) (hl : Nat.blt d N = true) (h : Exec P (ev f) o w fun v w' => WL P N ops Q rest (upd f d v) w') : WL P N ops Q (o :: rest) f w :=
  Za hg (by rw [hd]; exact hl) (by rw [hd]; exact h)
theorem QgA (hg : o.guard = none) (hd : o.dst = none) (h : Exec P (ev f) o w fun v w' => WL P N ops Q rest f w') : WL P N ops Q (o :: rest) f w :=
  Za hg (by rw [hd]; rfl) (by rw [hd]; exact h)
theorem QkM {d : Nat} {v : Value} (hg : o.guard = none) (hd : o.dst = some d) (hl : Nat.blt d N = true) (hq : Qhe (ev f) o.op = some v) (h : WL P N ops Q rest (upd f d v) w) : WL P N ops Q (o :: rest) f w :=
  Qfh hg hd hl (Xq hq h)
def WLg (P : Program) (N : Nat) (ops : Array Oper) (Q : Qaz) (r : Bool) (o : Oper) (rest : List Oper) (f : Fr) (w : World) : Prop :=
  bif r then Exec P (ev f) o w fun v w' => WL P N ops Q rest (J9 f o.dst v) w' else WL P N ops Q rest (J9 f o.dst undef) w
theorem QkN {j d' : Nat} {b e c : Bool} (hg : o.guard = some (j, b)) (hj : (ops[j]?).bind (·.dst) = some d') (hf : f d' = .bool e) (he : e = c) (hd : Qca N o.dst = true) (h : WLg P N ops Q (c == b) o rest f w) : WL P N ops Q (o :: rest) f w := by
  subst he
  unfold WLg at h
  cases q : e == b with
  | true =>
    rw [q] at h
    exact QaR hg (Zf hj (by rw [hf, eq_of_beq q])) hd h
  | false =>
    rw [q] at h
    exact Zl hg (Zf hj hf) q hd h
theorem Qkh {j d' d : Nat} {b : Bool} (hg : o.guard = some (j, b)) (hj : (ops[j]?).bind (·.dst) = some d') (hf : f d' = undef) (hd : o.dst = some d) (hl : Nat.blt d N = true)
    (h : WL P N ops Q rest (upd f d undef) w) : WL P N ops Q (o :: rest) f w :=
  Qd8 hg (Zh hj hf) (by rw [hd]; exact hl) (by rw [hd]; exact h)
theorem Qkg {d : Nat} {r : Bool} (hr : r = false) (hd : o.dst = some d) (h : WL P N ops Q rest (upd f d undef) w) : WLg P N ops Q r o rest f w := by
  subst hr; unfold WLg; rw [hd]; exact h
theorem QiU {r : Bool} (hr : r = false) (hd : o.dst = none) (h : WL P N ops Q rest f w) : WLg P N ops Q r o rest f w := by
  subst hr; unfold WLg; rw [hd]; exact h
theorem Qkf {d : Nat} {r : Bool} {v : Value} (hr : r = true) (hd : o.dst = some d) (hq : Qhe (ev f) o.op = some v) (h : WL P N ops Q rest (upd f d v) w) : WLg P N ops Q r o rest f w := by
  subst hr; unfold WLg; rw [hd]; exact Xq hq h
theorem Qke {d : Nat} {r : Bool} (hr : r = true) (hd : o.dst = some d) (h : Exec P (ev f) o w fun v w' => WL P N ops Q rest (upd f d v) w') : WLg P N ops Q r o rest f w := by
  subst hr; unfold WLg; rw [hd]; exact h
theorem QiT {r : Bool} (hr : r = true) (hd : o.dst = none) (h : Exec P (ev f) o w fun v w' => WL P N ops Q rest f w') : WLg P N ops Q r o rest f w := by
  subst hr; unfold WLg; rw [hd]; exact h
def Wc (P : Program) (N : Nat) (r : Bool) (x y : Code) (Q : Qaz) (f : Fr) (w : World) : Prop := bif r then W P N x Q f w else W P N y Q f w
theorem W_c {c : Operand} {x y : Code} {b e : Bool} (hv : ev f c = .bool b) (hb : b = e) (h : Wc P N e x y Q f w) : W P N (.cond c x y) Q f w := by
  subst hb
  cases b with
  | true => exact YT hv h
  | false => exact KQ hv h
theorem Qhf {x y : Code} (h : W P N x Q f w) : Wc P N true x y Q f w := h
theorem Qbk {x y : Code} (h : W P N y Q f w) : Wc P N false x y Q f w := h
theorem rT : true = true := rfl
theorem rF : false = false := rfl
end
/-! ### drawn regions -/
section
variable {P : Program} {ops : List Oper} {K : Fr → World → Prop} {f : Fr} {w : World} {i : Nat} {o : Oper} {r : DPlan} {ag : List Nat}
theorem Qfi {d : Nat} (ho : ops[i]? = some o) (hg : o.guard = none) (hd : o.dst = some d) (h : Exec P (ev f) o w fun v w' => w' = w ∧ DL P ops K r (upd f d v) w) : DL P ops K (.q i r) f w := Qo ho hg (by rw [hd]; exact h)
theorem Qkl {d : Nat} {v : Value} (ho : ops[i]? = some o) (hg : o.guard = none) (hd : o.dst = some d) (hq : Qhe (ev f) o.op = some v) (h : DL P ops K r (upd f d v) w) : DL P ops K (.q i r) f w := Qfi ho hg hd (Xq hq ⟨rfl, h⟩)
theorem QhW {d : Nat} (ho : ops[i]? = some o) (hg : o.guard = none) (hd : o.dst = some d) (h : Exec P (ev f) o w fun v w' => (∀ j ∈ ag, Jh P ops (upd f d v) w' j) ∧ DL P ops K r (upd f d v) w') : DL P ops K (.e i ag r) f w := Qt ho hg (by rw [hd]; exact h)
theorem QhV (ho : ops[i]? = some o) (hg : o.guard = none) (hd : o.dst = none) (h : Exec P (ev f) o w fun v w' => (∀ j ∈ ag, Jh P ops f w' j) ∧ DL P ops K r f w') : DL P ops K (.e i ag r) f w := Qt ho hg (by rw [hd]; exact h)
def DLg (P : Program) (ops : List Oper) (K : Fr → World → Prop) (q : Option (List Nat)) (b : Bool) (o : Oper) (r : DPlan) (f : Fr) (w : World) : Prop :=
  bif b then Exec P (ev f) o w fun v w' => (match q with | none => w' = w | some ag => ∀ j ∈ ag, Jh P ops (J9 f o.dst v) w' j) ∧ DL P ops K r (J9 f o.dst v) w' else DL P ops K r (J9 f o.dst undef) w
theorem Qkn {j d' : Nat} {b e c : Bool} (ho : ops[i]? = some o) (hg : o.guard = some (j, b)) (hj : (ops.toArray[j]?).bind (·.dst) = some d') (hf : f d' = .bool e) (he : e = c) (h : DLg P ops K none (c == b) o r f w) : DL P ops K (.q i r) f w := by
  subst he
  unfold DLg at h
  cases q : e == b with
  | true =>
    rw [q] at h
    exact Qla ho hg (Zf hj (by rw [hf, eq_of_beq q])) (h.mono fun v w' ⟨e1, e2⟩ => ⟨e1, e1 ▸ e2⟩)
  | false =>
    rw [q] at h
    exact QkY ho hg (Zf hj hf) q h
theorem Qkp {j d' : Nat} {b e c : Bool} (ho : ops[i]? = some o) (hg : o.guard = some (j, b)) (hj : (ops.toArray[j]?).bind (·.dst) = some d') (hf : f d' = .bool e) (he : e = c) (h : DLg P ops K (some ag) (c == b) o r f w) : DL P ops K (.e i ag r) f w := by
  subst he
  unfold DLg at h
  cases q : e == b with
  | true =>
    rw [q] at h
    exact Qld ho hg (Zf hj (by rw [hf, eq_of_beq q])) h
  | false =>
    rw [q] at h
    exact Qlb ho hg (Zf hj hf) q h
theorem Qkm {j d' d : Nat} {b : Bool} (ho : ops[i]? = some o) (hg : o.guard = some (j, b)) (hj : (ops.toArray[j]?).bind (·.dst) = some d') (hf : f d' = undef) (hd : o.dst = some d) (h : DL P ops K r (upd f d undef) w) : DL P ops K (.q i r) f w := QkZ ho hg (Zh hj hf) (by rw [hd]; exact h)
theorem Qko {j d' d : Nat} {b : Bool} (ho : ops[i]? = some o) (hg : o.guard = some (j, b)) (hj : (ops.toArray[j]?).bind (·.dst) = some d') (hf : f d' = undef) (hd : o.dst = some d) (h : DL P ops K r (upd f d undef) w) : DL P ops K (.e i ag r) f w := Qlc ho hg (Zh hj hf) (by rw [hd]; exact h)
theorem QhB {d : Nat} {b : Bool} {q : Option (List Nat)} (hr : b = false) (hd : o.dst = some d) (h : DL P ops K r (upd f d undef) w) : DLg P ops K q b o r f w := by
  subst hr; unfold DLg; rw [hd]; exact h
theorem Qkj {d : Nat} {b : Bool} {v : Value} (hr : b = true) (hd : o.dst = some d) (hq : Qhe (ev f) o.op = some v) (h : DL P ops K r (upd f d v) w) : DLg P ops K none b o r f w := by
  subst hr; unfold DLg; rw [hd]; exact Xq hq ⟨rfl, h⟩
theorem Qki {d : Nat} {b : Bool} (hr : b = true) (hd : o.dst = some d) (h : Exec P (ev f) o w fun v w' => w' = w ∧ DL P ops K r (upd f d v) w') : DLg P ops K none b o r f w := by
  subst hr; unfold DLg; rw [hd]; exact h
theorem Qkk {d : Nat} {b : Bool} (hr : b = true) (hd : o.dst = some d) (h : Exec P (ev f) o w fun v w' => (∀ j ∈ ag, Jh P ops (upd f d v) w' j) ∧ DL P ops K r (upd f d v) w') : DLg P ops K (some ag) b o r f w := by
  subst hr; unfold DLg; rw [hd]; exact h
theorem QiW {b : Bool} (hr : b = true) (hd : o.dst = none) (h : Exec P (ev f) o w fun v w' => (∀ j ∈ ag, Jh P ops f w' j) ∧ DL P ops K r f w') : DLg P ops K (some ag) b o r f w := by
  subst hr; unfold DLg; rw [hd]; exact h
theorem QiV {b : Bool} {q : Option (List Nat)} (hr : b = false) (hd : o.dst = none) (h : DL P ops K r f w) : DLg P ops K q b o r f w := by
  subst hr; unfold DLg; rw [hd]; exact h
theorem Qlr {v : Value} (ho : ops[i]? = some o) (hg : o.guard = none) (hq : Qhe (ev f) o.op = some v) (hv : v = f (QaC ops i)) : Jh P ops f w i := U ho hg (Xq hq ⟨rfl, hv⟩)
theorem QkV {j d' : Nat} {b e : Bool} (ho : ops[i]? = some o) (hg : o.guard = some (j, b)) (hj : (ops.toArray[j]?).bind (·.dst) = some d') (hf : f d' = .bool e) (he : e = !b) (h : f (QaC ops i) = undef) : Jh P ops f w i :=
  Qls ho hg (Zf hj hf) (by subst he; cases b <;> rfl) h
theorem QkX {j d' : Nat} {b e : Bool} (ho : ops[i]? = some o) (hg : o.guard = some (j, b)) (hj : (ops.toArray[j]?).bind (·.dst) = some d') (hf : f d' = .bool e) (he : e = b) (h : Exec P (ev f) o w fun v w' => w' = w ∧ v = f (QaC ops i)) : Jh P ops f w i :=
  Qlu ho hg (Zf hj (by rw [hf, he])) h
theorem QkW {j d' : Nat} {b : Bool} (ho : ops[i]? = some o) (hg : o.guard = some (j, b)) (hj : (ops.toArray[j]?).bind (·.dst) = some d') (hf : f d' = undef) (h : f (QaC ops i) = undef) : Jh P ops f w i :=
  Qlt ho hg (Zh hj hf) h
theorem agq (h : ∀ j ∈ ag, Jh P ops f w j := by
    repeat (first
      | exact Qi
      | (refine Qa ?_ ?_
         first
         | exact Qlr rfl rfl rfl rfl
         | exact QkV rfl rfl rfl rfl (by first | rfl | assumption) rfl
         | exact QkW rfl rfl rfl rfl rfl
         | (first
            | refine U rfl rfl ?_
            | refine QkX rfl rfl rfl rfl (by first | rfl | assumption) ?_
            first
            | exact Xq rfl ⟨rfl, rfl⟩
            | exact Qhk rfl rfl rfl ⟨rfl, rfl⟩
            | exact Xlb rfl rfl (by apply Qhj; assumption; infer_instance; rfl) ⟨rfl, rfl⟩
            | exact Qky rfl rfl (by apply Qgb; assumption; infer_instance; rfl; rfl) ⟨rfl, rfl⟩
            | exact Qkx rfl rfl (by assumption) ⟨rfl, rfl⟩)))) : ∀ j ∈ ag, Jh P ops f w j := h
end
structure Kept (B : Prop) : Prop where h : B
theorem G {A B : Prop} (k : B) (h : Kept B → A := by
    intro k
    repeat (first
      | (show WL _ _ _ _ _ _ _; first
          | refine QkM rfl rfl rfl rfl ?_
          | refine Zb ?_
          | (refine QkN rfl rfl rfl (by first | with_reducible exact rT | with_reducible exact rF | assumption) rfl ?_; first | refine Qkg rfl rfl ?_ | refine Qkf rfl rfl rfl ?_ | refine Qke rfl rfl ?_ | refine QiU rfl rfl ?_ | refine QiT rfl rfl ?_)
          | refine Qfh rfl rfl rfl ?_
          | refine QgA rfl rfl ?_
          | refine Qkh rfl rfl rfl rfl rfl ?_)
      | (show Exec _ _ _ _ _; first
          | refine Qhk rfl rfl rfl ?_
          | refine Xlb rfl rfl (by apply Qhj; assumption; infer_instance; rfl) ?_
          | refine Qkx rfl rfl (by assumption) ?_
          | refine Qky rfl rfl (by apply Qgb; assumption; infer_instance; rfl; rfl) ?_
          | refine QiR rfl rfl (by first | with_reducible exact rT | with_reducible exact rF | assumption) rfl ?_
          | refine QiS rfl rfl (by first | with_reducible exact rT | with_reducible exact rF | assumption) rfl ?_)
      | (show andThen _ _ _ _ _; first
          | refine Ze ?_
          | refine KN ?_
          | refine K8 ?_)
      | (show W _ _ _ _ _ _; first
          | refine Zc ?_
          | refine Zd ?_
          | refine YF ?_
          | refine JG ?_
          | refine Qcl ?_
          | refine Qf8 ?_
          | (refine W_c rfl (by first | with_reducible exact rT | with_reducible exact rF | assumption) ?_; first | refine Qhf ?_ | refine Qbk ?_)
          | refine YT (congrArg Value.bool (decide_eq_true (by omega))) ?_
          | refine KQ (congrArg Value.bool (decide_eq_false (by omega))) ?_)
      | (show YR _ _ _ _ _; first
          | refine QaO ?_
          | refine Qbx ?_
          | refine QaI ?_
          | refine QhJ rfl ?_)
      | (show DL _ _ _ _ _ _; first
          | refine Qkl rfl rfl rfl rfl ?_
          | (refine Qkn rfl rfl rfl rfl (by first | with_reducible exact rT | with_reducible exact rF | assumption) ?_; first | refine QhB rfl rfl ?_ | refine Qkj rfl rfl rfl ?_ | refine Qki rfl rfl ?_)
          | refine Qfi rfl rfl rfl ?_
          | refine QhW rfl rfl rfl ?_
          | refine QhV rfl rfl rfl ?_
          | (refine Qkp rfl rfl rfl rfl (by first | with_reducible exact rT | with_reducible exact rF | assumption) ?_; first | refine QhB rfl rfl ?_ | refine Qkk rfl rfl ?_ | refine QiV rfl rfl ?_ | refine QiW rfl rfl ?_)
          | refine Qkm rfl rfl rfl rfl rfl ?_
          | refine Qko rfl rfl rfl rfl rfl ?_
          | refine Q5 ?_)
      | (show _ = _ ∧ DL _ _ _ _ _ _; first
          | refine And.intro rfl ?_))
    exact k.h) : A := h ⟨k⟩
theorem g {A B : Prop} (k : B) (h : Kept B → A := by
    intro k
    repeat (first
      | (show WL _ _ _ _ _ _ _; first
          | refine QkM rfl rfl rfl rfl ?_
          | refine Zb ?_
          | (refine QkN rfl rfl rfl (by first | with_reducible exact rT | with_reducible exact rF | assumption) rfl ?_; first | refine Qkg rfl rfl ?_ | refine Qkf rfl rfl rfl ?_ | refine Qke rfl rfl ?_ | refine QiU rfl rfl ?_ | refine QiT rfl rfl ?_)
          | refine Qfh rfl rfl rfl ?_
          | refine QgA rfl rfl ?_
          | refine Qkh rfl rfl rfl rfl rfl ?_)
      | (show Exec _ _ _ _ _; first
          | refine Qhk rfl rfl rfl ?_
          | refine Xlb rfl rfl (by apply Qhj; assumption; infer_instance; rfl) ?_
          | refine Qkx rfl rfl (by assumption) ?_
          | refine Qky rfl rfl (by apply Qgb; assumption; infer_instance; rfl; rfl) ?_
          | refine QiR rfl rfl (by first | with_reducible exact rT | with_reducible exact rF | assumption) rfl ?_
          | refine QiS rfl rfl (by first | with_reducible exact rT | with_reducible exact rF | assumption) rfl ?_)
      | (show andThen _ _ _ _ _; first
          | refine Ze ?_
          | refine KN ?_
          | refine K8 ?_)
      | (show YR _ _ _ _ _; first
          | refine QaO ?_
          | refine Qbx ?_
          | refine QaI ?_
          | refine QhJ rfl ?_)
      | (show DL _ _ _ _ _ _; first
          | refine Qkl rfl rfl rfl rfl ?_
          | (refine Qkn rfl rfl rfl rfl (by first | with_reducible exact rT | with_reducible exact rF | assumption) ?_; first | refine QhB rfl rfl ?_ | refine Qkj rfl rfl rfl ?_ | refine Qki rfl rfl ?_)
          | refine Qfi rfl rfl rfl ?_
          | refine QhW rfl rfl rfl ?_
          | refine QhV rfl rfl rfl ?_
          | (refine Qkp rfl rfl rfl rfl (by first | with_reducible exact rT | with_reducible exact rF | assumption) ?_; first | refine QhB rfl rfl ?_ | refine Qkk rfl rfl ?_ | refine QiV rfl rfl ?_ | refine QiW rfl rfl ?_)
          | refine Qkm rfl rfl rfl rfl rfl ?_
          | refine Qko rfl rfl rfl rfl rfl ?_
          | refine Q5 ?_)
      | (show _ = _ ∧ DL _ _ _ _ _ _; first
          | refine And.intro rfl ?_))
    exact k.h) : A := h ⟨k⟩
end Go.Pw
