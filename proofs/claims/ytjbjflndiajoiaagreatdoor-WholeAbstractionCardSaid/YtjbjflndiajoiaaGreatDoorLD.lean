/- -/
import Derived.Test.YtjbjflndiajoiaaGreatDoorLC
import Derived.Test.YtjbjflndiajoiaaGreatDoorLA
set_option linter.unusedSimpArgs false
set_option linter.unusedVariables false
namespace Go.Pw
class FTy (P : Program) (T k : Nat) (off : outParam Nat) : Prop where h : Qe4 P T k = some off
class STy (P : Program) (T : Nat) (e n b : outParam Nat) : Prop where h : QZ P T = some (e, n, b)
class ATy (P : Program) (T : Nat) (a : outParam Bool) (n : outParam Nat) : Prop where h : YB P T = some (a, n)
class BoxIn (H : List Res) (b : Nat) (T : outParam Nat) (cs : outParam (List Value)) : Prop where h : ∃ H', H.Perm (Res.box b T cs :: H')
instance (priority := high) {H : List Res} {b T : Nat} {cs : List Value} : BoxIn (Res.box b T cs :: H) b T cs := ⟨H, .refl _⟩
instance {H : List Res} {r : Res} {b T : Nat} {cs : List Value} [h : BoxIn H b T cs] : BoxIn (r :: H) b T cs :=
  let ⟨H', p⟩ := h.h
  ⟨r :: H', (p.cons r).trans (List.Perm.swap _ _ _)⟩
def ups : List (Nat × Value) → Fr → Fr
  | [], g => g
  | (n, v) :: l, g => upd (ups l g) n v
inductive FxL (f : Fr) : List (Nat × Value) → Prop
  | nil : FxL f []
  | cons {n : Nat} {v : Value} {l : List (Nat × Value)} (h : f n = v) (t : FxL f l) : FxL f ((n, v) :: l)
def Fx (f : Fr) (l : List (Nat × Value)) : Prop := ∃ g, f = ups l g
theorem FxL.eq {f : Fr} : ∀ {l : List (Nat × Value)}, FxL f l → f = ups l f
  | [], _ => rfl
  | (n, v) :: l, .cons h t => by
    funext m
    show f m = bif Nat.beq m n then v else ups l f m
    rw [← t.eq]
    cases q : Nat.beq m n with
    | true => rw [Nat.eq_of_beq_eq_true q, h]; rfl
    | false => rfl
theorem fxl {f : Fr} {l : List (Nat × Value)} (h : FxL f l := by repeat (first | exact FxL.nil | refine FxL.cons rfl ?_)) : FxL f l := h
theorem Fx.mk {f : Fr} {l : List (Nat × Value)} (h : FxL f l := by repeat (first | exact FxL.nil | refine FxL.cons rfl ?_)) : Fx f l := ⟨f, h.eq⟩
def Qqd (k : IntKind) (a b : Int) : BinOp → Option Value
  | .lss => some (.bool (decide (a < b)))
  | .leq => some (.bool (decide (a ≤ b)))
  | .gtr => some (.bool (decide (b < a)))
  | .geq => some (.bool (decide (b ≤ a)))
  | .eql => some (.bool (decide (a = b)))
  | .neq => some (.bool (!decide (a = b)))
  | .add => some (.int k (k.wrap (a + b)))
  | .sub => some (.int k (k.wrap (a - b)))
  | .mul => some (.int k (k.wrap (a * b)))
  | _ => none
def Qqc (a b : ByteArray) : BinOp → Option Value
  | .eql => some (.bool (decide (a = b)))
  | .neq => some (.bool (!decide (a = b)))
  | _ => none
def QkM (ρ : Operand → Value) : Op → Option Value
  | .move x => some (ρ x)
  | .assign x => some (ρ x)
  | .binOp op _ x y _ => match ρ x with
    | .int k a => match ρ y with
      | .int k' b => if k = k' then Qqd k a b op else none
      | _ => none
    | .string a => match ρ y with
      | .string b => Qqc a b op
      | _ => none
    | _ => none
  | .unOp .not _ x => match ρ x with
    | .bool b => some (.bool (!b))
    | _ => none
  | .extract t i => match ρ t with
    | .tuple vs => vs[i]?
    | _ => none
  | .nilCheck x => match ρ x with
    | .pointer (some a) => some (.pointer (some a))
    | _ => none
  | _ => none
section
variable {P : Program} {ρ : Operand → Value} {o : Oper} {w w0 : World} {s : PHeap} {H : List Res} {K : Value → World → Prop} {T : TypeId}
theorem Xq {v : Value} (h : QkM ρ o.op = some v) (hk : K v w) : Exec P ρ o w K := by
  unfold QkM at h
  split at h
  · rename_i x ho; exact Zm ho (Zu h) hk
  · rename_i x ho; exact Zo ho (Zu h) hk
  · rename_i op _ x y _ ho
    split at h
    · rename_i k a hx
      split at h
      · rename_i k' b hy
        split at h
        · rename_i e
          subst e
          cases op <;> simp only [Qqd, Option.some.injEq, reduceCtorEq] at h <;> subst h
          · exact Exec.add ho hx hy hk
          · exact Exec.sub ho hx hy hk
          · exact Exec.mul ho hx hy hk
          · exact Exec.eql ho hx hy hk
          · exact Exec.neq ho hx hy hk
          · exact Zq ho hx hy hk
          · exact Exec.leq ho hx hy hk
          · exact Exec.gtr ho hx hy hk
          · exact Exec.geq ho hx hy hk
        · cases h
      · cases h
    · rename_i a hx
      split at h
      · rename_i b hy
        cases op <;> simp only [Qqc, Option.some.injEq, reduceCtorEq] at h <;> subst h
        · exact QjI ho hx hy hk
        · exact QjH ho hx hy hk
      · cases h
    · cases h
  · rename_i x ho
    split at h
    · rename_i b hx; cases h; exact Exec.not ho hx hk
    · cases h
  · rename_i t i ho
    split at h
    · rename_i vs ht; exact Exec.extract ho ht h hk
    · cases h
  · rename_i x ho
    split at h
    · rename_i a hx; cases h; exact QV ho hx hk
    · cases h
  · cases h
theorem Qnx {c a b : Operand} {e : Bool} {v : Value} (ho : o.op = .pick c a b) (hc : ρ c = .bool e) (he : e = true) (hv : ρ a = v) (hk : K v w) : Exec P ρ o w K := Zs ho (by rw [hc, he]) hv hk
theorem Qny {c a b : Operand} {e : Bool} {v : Value} (ho : o.op = .pick c a b) (hc : ρ c = .bool e) (he : e = false) (hv : ρ b = v) (hk : K v w) : Exec P ρ o w K := Y5 ho (by rw [hc, he]) hv hk
theorem QkY {x : Operand} {k b off foff m : Nat} [hT : FTy P T k foff] (ho : o.op = .fieldAddr T x k) (hx : ρ x = .pointer (some ⟨b, off, none⟩)) (hm : off + foff = m) (hk : K (.pointer (some ⟨b, m, none⟩)) w) : Exec P ρ o w K := Zp hT.h ho hx hm hk
theorem QkV {b off : Nat} {Tb : TypeId} {cs : List Value} {v : Value} (hS : St w0 s H w) (hB : BoxIn H b Tb cs) (hv : cs[off]? = some v) : w.cell? ⟨b, off, none⟩ = some v := by
  obtain ⟨_, p⟩ := hB.h
  simp [World.cell?, (hS.perm p).box_heap, hv]
theorem Xlb {x : Operand} {b off n : Nat} {v : Value} [hT : ATy P T false n] (ho : o.op = .load T x) (hx : ρ x = .pointer (some ⟨b, off, none⟩)) (hc : w.cell? ⟨b, off, none⟩ = some v) (hk : K v w) : Exec P ρ o w K := by
  refine .of_run ?_ hk
  unfold execOp
  simp only [ho, hx, Instr.loadAt, Instr.sureAddr, Sem.run_bind, Sem.run_pure, Result.andThen_ok, YH hT.h hc]
structure Boxed (w : World) (b off n : Nat) (ds : List Value) : Prop where
  h : ∃ (w0 : World) (s : PHeap) (H : List Res) (Tb : TypeId) (cs : List Value), St w0 s (.box b Tb cs :: H) w ∧ (cs.drop off).take n = ds ∧ ds.length = n
theorem Qj4 {b off n : Nat} {Tb : TypeId} {cs ds : List Value} (hS : St w0 s H w) (hB : BoxIn H b Tb cs) (hv : (cs.drop off).take n = ds) (hn : ds.length = n) : Boxed w b off n ds :=
  let ⟨_, p⟩ := hB.h
  ⟨_, _, _, _, _, hS.perm p, hv, hn⟩
theorem QpD {x : Operand} {b off n : Nat} {ds : List Value} [hT : ATy P T true n] (ho : o.op = .load T x) (hx : ρ x = .pointer (some ⟨b, off, none⟩)) (h : Boxed w b off n ds) (hk : K (.agg ds.toArray) w) : Exec P ρ o w K := by
  obtain ⟨w0, s, H, Tb, cs, hS, hv, hn⟩ := h.h
  exact QK hS (by rw [hn]; exact hT.h) ho hx (by rw [hn]; exact hv) hk
theorem QpC {α : Type} {E : Enc α} {xs : List α} {x : Operand} {v : Value} {e n b : Nat} [hT : STy P T e n b] (ho : o.op = .call { callee := .builtin .len, args := #[x], argTypes := #[T] }) (hx : ρ x = v) (h : SliceRep E s v xs) (hk : K (.int .i64 (xs.length : Int)) w) : Exec P ρ o w K := Zr hT.h ho hx h hk
end
section
variable {P : Program} {N : Nat} {ops : Array Oper} {Q : QbR} {f : Fr} {w : World} {o : Oper} {rest : List Oper}
theorem Qh8 {d : Nat} (hg : o.guard = none) (hd : o.dst = some d) (hl : Nat.blt d N = true) (h : Exec P (ev f) o w fun v w' => WL P N ops Q rest (upd f d v) w') : WL P N ops Q (o :: rest) f w :=
  Za hg (by rw [hd]; exact hl) (by rw [hd]; exact h)
theorem Qk0 (hg : o.guard = none) (hd : o.dst = none) (h : Exec P (ev f) o w fun v w' => WL P N ops Q rest f w') : WL P N ops Q (o :: rest) f w :=
  Za hg (by rw [hd]; rfl) (by rw [hd]; exact h)
theorem Qqh {d : Nat} {v : Value} (hg : o.guard = none) (hd : o.dst = some d) (hl : Nat.blt d N = true) (hq : QkM (ev f) o.op = some v) (h : WL P N ops Q rest (upd f d v) w) : WL P N ops Q (o :: rest) f w :=
  Qh8 hg hd hl (Xq hq h)
def WLg (P : Program) (N : Nat) (ops : Array Oper) (Q : QbR) (r : Bool) (o : Oper) (rest : List Oper) (f : Fr) (w : World) : Prop :=
  bif r then Exec P (ev f) o w fun v w' => WL P N ops Q rest (J7 f o.dst v) w' else WL P N ops Q rest (J7 f o.dst undef) w
theorem Qqi {j d' : Nat} {b e c : Bool} (hg : o.guard = some (j, b)) (hj : (ops[j]?).bind (·.dst) = some d') (hf : f d' = .bool e) (he : e = c) (hd : QdX N o.dst = true) (h : WLg P N ops Q (c == b) o rest f w) : WL P N ops Q (o :: rest) f w := by
  subst he
  unfold WLg at h
  cases q : e == b with
  | true =>
    rw [q] at h
    exact JO hg (Zf hj (by rw [hf, eq_of_beq q])) hd h
  | false =>
    rw [q] at h
    exact Zl hg (Zf hj hf) q hd h
theorem Qpr {j d' d : Nat} {b : Bool} (hg : o.guard = some (j, b)) (hj : (ops[j]?).bind (·.dst) = some d') (hf : f d' = undef) (hd : o.dst = some d) (hl : Nat.blt d N = true)
    (h : WL P N ops Q rest (upd f d undef) w) : WL P N ops Q (o :: rest) f w :=
  QjG hg (Zh hj hf) (by rw [hd]; exact hl) (by rw [hd]; exact h)
theorem Qpq {d : Nat} {r : Bool} (hr : r = false) (hd : o.dst = some d) (h : WL P N ops Q rest (upd f d undef) w) : WLg P N ops Q r o rest f w := by
  subst hr; unfold WLg; rw [hd]; exact h
theorem Qn0 {r : Bool} (hr : r = false) (hd : o.dst = none) (h : WL P N ops Q rest f w) : WLg P N ops Q r o rest f w := by
  subst hr; unfold WLg; rw [hd]; exact h
theorem Qpp {d : Nat} {r : Bool} {v : Value} (hr : r = true) (hd : o.dst = some d) (hq : QkM (ev f) o.op = some v) (h : WL P N ops Q rest (upd f d v) w) : WLg P N ops Q r o rest f w := by
  subst hr; unfold WLg; rw [hd]; exact Xq hq h
theorem Qpo {d : Nat} {r : Bool} (hr : r = true) (hd : o.dst = some d) (h : Exec P (ev f) o w fun v w' => WL P N ops Q rest (upd f d v) w') : WLg P N ops Q r o rest f w := by
  subst hr; unfold WLg; rw [hd]; exact h
theorem Qnz {r : Bool} (hr : r = true) (hd : o.dst = none) (h : Exec P (ev f) o w fun v w' => WL P N ops Q rest f w') : WLg P N ops Q r o rest f w := by
  subst hr; unfold WLg; rw [hd]; exact h
def Wc (P : Program) (N : Nat) (r : Bool) (x y : Code) (Q : QbR) (f : Fr) (w : World) : Prop := bif r then W P N x Q f w else W P N y Q f w
theorem W_c {c : Operand} {x y : Code} {b e : Bool} (hv : ev f c = .bool b) (hb : b = e) (h : Wc P N e x y Q f w) : W P N (.cond c x y) Q f w := by
  subst hb
  cases b with
  | true => exact QcA hv h
  | false => exact YW hv h
theorem Qo1 {x y : Code} (h : W P N x Q f w) : Wc P N true x y Q f w := h
theorem Qa4 {x y : Code} (h : W P N y Q f w) : Wc P N false x y Q f w := h
theorem rT : true = true := rfl
theorem rF : false = false := rfl
end
/-! ### drawn regions -/
section
variable {P : Program} {ops : List Oper} {K : Fr → World → Prop} {f : Fr} {w : World} {i : Nat} {o : Oper} {r : DPlan} {ag : List Nat}
theorem Qh9 {d : Nat} (ho : ops[i]? = some o) (hg : o.guard = none) (hd : o.dst = some d) (h : Exec P (ev f) o w fun v w' => w' = w ∧ DL P ops K r (upd f d v) w) : DL P ops K (.q i r) f w := Qaq ho hg (by rw [hd]; exact h)
theorem Qpy {d : Nat} {v : Value} (ho : ops[i]? = some o) (hg : o.guard = none) (hd : o.dst = some d) (hq : QkM (ev f) o.op = some v) (h : DL P ops K r (upd f d v) w) : DL P ops K (.q i r) f w := Qh9 ho hg hd (Xq hq ⟨rfl, h⟩)
theorem QlX {d : Nat} (ho : ops[i]? = some o) (hg : o.guard = none) (hd : o.dst = some d) (h : Exec P (ev f) o w fun v w' => (∀ j ∈ ag, QX P ops (upd f d v) w' j) ∧ DL P ops K r (upd f d v) w') : DL P ops K (.e i ag r) f w := Qmb ho hg (by rw [hd]; exact h)
theorem QlW (ho : ops[i]? = some o) (hg : o.guard = none) (hd : o.dst = none) (h : Exec P (ev f) o w fun v w' => (∀ j ∈ ag, QX P ops f w' j) ∧ DL P ops K r f w') : DL P ops K (.e i ag r) f w := Qmb ho hg (by rw [hd]; exact h)
def DLg (P : Program) (ops : List Oper) (K : Fr → World → Prop) (q : Option (List Nat)) (b : Bool) (o : Oper) (r : DPlan) (f : Fr) (w : World) : Prop :=
  bif b then Exec P (ev f) o w fun v w' => (match q with | none => w' = w | some ag => ∀ j ∈ ag, QX P ops (J7 f o.dst v) w' j) ∧ DL P ops K r (J7 f o.dst v) w' else DL P ops K r (J7 f o.dst undef) w
theorem Qp0 {j d' : Nat} {b e c : Bool} (ho : ops[i]? = some o) (hg : o.guard = some (j, b)) (hj : (ops.toArray[j]?).bind (·.dst) = some d') (hf : f d' = .bool e) (he : e = c) (h : DLg P ops K none (c == b) o r f w) : DL P ops K (.q i r) f w := by
  subst he
  unfold DLg at h
  cases q : e == b with
  | true =>
    rw [q] at h
    exact Qq0 ho hg (Zf hj (by rw [hf, eq_of_beq q])) (h.mono fun v w' ⟨e1, e2⟩ => ⟨e1, e1 ▸ e2⟩)
  | false =>
    rw [q] at h
    exact Qqy ho hg (Zf hj hf) q h
theorem Qp2 {j d' : Nat} {b e c : Bool} (ho : ops[i]? = some o) (hg : o.guard = some (j, b)) (hj : (ops.toArray[j]?).bind (·.dst) = some d') (hf : f d' = .bool e) (he : e = c) (h : DLg P ops K (some ag) (c == b) o r f w) : DL P ops K (.e i ag r) f w := by
  subst he
  unfold DLg at h
  cases q : e == b with
  | true =>
    rw [q] at h
    exact Qq3 ho hg (Zf hj (by rw [hf, eq_of_beq q])) h
  | false =>
    rw [q] at h
    exact Qq1 ho hg (Zf hj hf) q h
theorem Qpz {j d' d : Nat} {b : Bool} (ho : ops[i]? = some o) (hg : o.guard = some (j, b)) (hj : (ops.toArray[j]?).bind (·.dst) = some d') (hf : f d' = undef) (hd : o.dst = some d) (h : DL P ops K r (upd f d undef) w) : DL P ops K (.q i r) f w := Qqz ho hg (Zh hj hf) (by rw [hd]; exact h)
theorem Qp1 {j d' d : Nat} {b : Bool} (ho : ops[i]? = some o) (hg : o.guard = some (j, b)) (hj : (ops.toArray[j]?).bind (·.dst) = some d') (hf : f d' = undef) (hd : o.dst = some d) (h : DL P ops K r (upd f d undef) w) : DL P ops K (.e i ag r) f w := Qq2 ho hg (Zh hj hf) (by rw [hd]; exact h)
theorem Ql9 {d : Nat} {b : Bool} {q : Option (List Nat)} (hr : b = false) (hd : o.dst = some d) (h : DL P ops K r (upd f d undef) w) : DLg P ops K q b o r f w := by
  subst hr; unfold DLg; rw [hd]; exact h
theorem Qpw {d : Nat} {b : Bool} {v : Value} (hr : b = true) (hd : o.dst = some d) (hq : QkM (ev f) o.op = some v) (h : DL P ops K r (upd f d v) w) : DLg P ops K none b o r f w := by
  subst hr; unfold DLg; rw [hd]; exact Xq hq ⟨rfl, h⟩
theorem Qpv {d : Nat} {b : Bool} (hr : b = true) (hd : o.dst = some d) (h : Exec P (ev f) o w fun v w' => w' = w ∧ DL P ops K r (upd f d v) w') : DLg P ops K none b o r f w := by
  subst hr; unfold DLg; rw [hd]; exact h
theorem Qpx {d : Nat} {b : Bool} (hr : b = true) (hd : o.dst = some d) (h : Exec P (ev f) o w fun v w' => (∀ j ∈ ag, QX P ops (upd f d v) w' j) ∧ DL P ops K r (upd f d v) w') : DLg P ops K (some ag) b o r f w := by
  subst hr; unfold DLg; rw [hd]; exact h
theorem Qn2 {b : Bool} (hr : b = true) (hd : o.dst = none) (h : Exec P (ev f) o w fun v w' => (∀ j ∈ ag, QX P ops f w' j) ∧ DL P ops K r f w') : DLg P ops K (some ag) b o r f w := by
  subst hr; unfold DLg; rw [hd]; exact h
theorem Qn1 {b : Bool} {q : Option (List Nat)} (hr : b = false) (hd : o.dst = none) (h : DL P ops K r f w) : DLg P ops K q b o r f w := by
  subst hr; unfold DLg; rw [hd]; exact h
theorem QqK {v : Value} (ho : ops[i]? = some o) (hg : o.guard = none) (hq : QkM (ev f) o.op = some v) (hv : v = f (QbT ops i)) : QX P ops f w i := Q1 ho hg (Xq hq ⟨rfl, hv⟩)
theorem Qqv {j d' : Nat} {b e : Bool} (ho : ops[i]? = some o) (hg : o.guard = some (j, b)) (hj : (ops.toArray[j]?).bind (·.dst) = some d') (hf : f d' = .bool e) (he : e = !b) (h : f (QbT ops i) = undef) : QX P ops f w i :=
  QqL ho hg (Zf hj hf) (by subst he; cases b <;> rfl) h
theorem Qqx {j d' : Nat} {b e : Bool} (ho : ops[i]? = some o) (hg : o.guard = some (j, b)) (hj : (ops.toArray[j]?).bind (·.dst) = some d') (hf : f d' = .bool e) (he : e = b) (h : Exec P (ev f) o w fun v w' => w' = w ∧ v = f (QbT ops i)) : QX P ops f w i :=
  QqN ho hg (Zf hj (by rw [hf, he])) h
theorem Qqw {j d' : Nat} {b : Bool} (ho : ops[i]? = some o) (hg : o.guard = some (j, b)) (hj : (ops.toArray[j]?).bind (·.dst) = some d') (hf : f d' = undef) (h : f (QbT ops i) = undef) : QX P ops f w i :=
  QqM ho hg (Zh hj hf) h
theorem agq (h : ∀ j ∈ ag, QX P ops f w j := by
    repeat (first
      | exact J5
      | (refine Qh ?_ ?_
         first
         | exact QqK rfl rfl rfl rfl
         | exact Qqv rfl rfl rfl rfl (by first | rfl | assumption) rfl
         | exact Qqw rfl rfl rfl rfl rfl
         | (first
            | refine Q1 rfl rfl ?_
            | refine Qqx rfl rfl rfl rfl (by first | rfl | assumption) ?_
            first
            | exact Xq rfl ⟨rfl, rfl⟩
            | exact QkY rfl rfl rfl ⟨rfl, rfl⟩
            | exact Xlb rfl rfl (by apply QkV; assumption; infer_instance; rfl) ⟨rfl, rfl⟩
            | exact QpD rfl rfl (by apply Qj4; assumption; infer_instance; rfl; rfl) ⟨rfl, rfl⟩
            | exact QpC rfl rfl (by assumption) ⟨rfl, rfl⟩)))) : ∀ j ∈ ag, QX P ops f w j := h
end
structure Kept (B : Prop) : Prop where h : B
theorem G {A B : Prop} (k : B) (h : Kept B → A := by
    intro k
    repeat (first
      | (show WL _ _ _ _ _ _ _; first
          | refine Qqh rfl rfl rfl rfl ?_
          | refine Zb ?_
          | (refine Qqi rfl rfl rfl (by first | with_reducible exact rT | with_reducible exact rF | assumption) rfl ?_; first | refine Qpq rfl rfl ?_ | refine Qpp rfl rfl rfl ?_ | refine Qpo rfl rfl ?_ | refine Qn0 rfl rfl ?_ | refine Qnz rfl rfl ?_)
          | refine Qh8 rfl rfl rfl ?_
          | refine Qk0 rfl rfl ?_
          | refine Qpr rfl rfl rfl rfl rfl ?_)
      | (show Exec _ _ _ _ _; first
          | refine QkY rfl rfl rfl ?_
          | refine Xlb rfl rfl (by apply QkV; assumption; infer_instance; rfl) ?_
          | refine QpC rfl rfl (by assumption) ?_
          | refine QpD rfl rfl (by apply Qj4; assumption; infer_instance; rfl; rfl) ?_
          | refine Qnx rfl rfl (by first | with_reducible exact rT | with_reducible exact rF | assumption) rfl ?_
          | refine Qny rfl rfl (by first | with_reducible exact rT | with_reducible exact rF | assumption) rfl ?_)
      | (show andThen _ _ _ _ _; first
          | refine Ze ?_
          | refine QkW ?_
          | refine QcY ?_)
      | (show W _ _ _ _ _ _; first
          | refine Zc ?_
          | refine Zd ?_
          | refine Qcv ?_
          | refine Jt ?_
          | refine Qjp ?_
          | refine Qhh ?_
          | (refine W_c rfl (by first | with_reducible exact rT | with_reducible exact rF | assumption) ?_; first | refine Qo1 ?_ | refine Qa4 ?_)
          | refine QcA (congrArg Value.bool (decide_eq_true (by omega))) ?_
          | refine YW (congrArg Value.bool (decide_eq_false (by omega))) ?_)
      | (show Qax _ _ _ _ _; first
          | refine QiR ?_
          | refine Qnp ?_
          | refine Qf0 ?_
          | refine QlL rfl ?_)
      | (show DL _ _ _ _ _ _; first
          | refine Qpy rfl rfl rfl rfl ?_
          | (refine Qp0 rfl rfl rfl rfl (by first | with_reducible exact rT | with_reducible exact rF | assumption) ?_; first | refine Ql9 rfl rfl ?_ | refine Qpw rfl rfl rfl ?_ | refine Qpv rfl rfl ?_)
          | refine Qh9 rfl rfl rfl ?_
          | refine QlX rfl rfl rfl ?_
          | refine QlW rfl rfl rfl ?_
          | (refine Qp2 rfl rfl rfl rfl (by first | with_reducible exact rT | with_reducible exact rF | assumption) ?_; first | refine Ql9 rfl rfl ?_ | refine Qpx rfl rfl ?_ | refine Qn1 rfl rfl ?_ | refine Qn2 rfl rfl ?_)
          | refine Qpz rfl rfl rfl rfl rfl ?_
          | refine Qp1 rfl rfl rfl rfl rfl ?_
          | refine Qha ?_)
      | (show _ = _ ∧ DL _ _ _ _ _ _; first
          | refine And.intro rfl ?_))
    exact k.h) : A := h ⟨k⟩
theorem g {A B : Prop} (k : B) (h : Kept B → A := by
    intro k
    repeat (first
      | (show WL _ _ _ _ _ _ _; first
          | refine Qqh rfl rfl rfl rfl ?_
          | refine Zb ?_
          | (refine Qqi rfl rfl rfl (by first | with_reducible exact rT | with_reducible exact rF | assumption) rfl ?_; first | refine Qpq rfl rfl ?_ | refine Qpp rfl rfl rfl ?_ | refine Qpo rfl rfl ?_ | refine Qn0 rfl rfl ?_ | refine Qnz rfl rfl ?_)
          | refine Qh8 rfl rfl rfl ?_
          | refine Qk0 rfl rfl ?_
          | refine Qpr rfl rfl rfl rfl rfl ?_)
      | (show Exec _ _ _ _ _; first
          | refine QkY rfl rfl rfl ?_
          | refine Xlb rfl rfl (by apply QkV; assumption; infer_instance; rfl) ?_
          | refine QpC rfl rfl (by assumption) ?_
          | refine QpD rfl rfl (by apply Qj4; assumption; infer_instance; rfl; rfl) ?_
          | refine Qnx rfl rfl (by first | with_reducible exact rT | with_reducible exact rF | assumption) rfl ?_
          | refine Qny rfl rfl (by first | with_reducible exact rT | with_reducible exact rF | assumption) rfl ?_)
      | (show andThen _ _ _ _ _; first
          | refine Ze ?_
          | refine QkW ?_
          | refine QcY ?_)
      | (show Qax _ _ _ _ _; first
          | refine QiR ?_
          | refine Qnp ?_
          | refine Qf0 ?_
          | refine QlL rfl ?_)
      | (show DL _ _ _ _ _ _; first
          | refine Qpy rfl rfl rfl rfl ?_
          | (refine Qp0 rfl rfl rfl rfl (by first | with_reducible exact rT | with_reducible exact rF | assumption) ?_; first | refine Ql9 rfl rfl ?_ | refine Qpw rfl rfl rfl ?_ | refine Qpv rfl rfl ?_)
          | refine Qh9 rfl rfl rfl ?_
          | refine QlX rfl rfl rfl ?_
          | refine QlW rfl rfl rfl ?_
          | (refine Qp2 rfl rfl rfl rfl (by first | with_reducible exact rT | with_reducible exact rF | assumption) ?_; first | refine Ql9 rfl rfl ?_ | refine Qpx rfl rfl ?_ | refine Qn1 rfl rfl ?_ | refine Qn2 rfl rfl ?_)
          | refine Qpz rfl rfl rfl rfl rfl ?_
          | refine Qp1 rfl rfl rfl rfl rfl ?_
          | refine Qha ?_)
      | (show _ = _ ∧ DL _ _ _ _ _ _; first
          | refine And.intro rfl ?_))
    exact k.h) : A := h ⟨k⟩
end Go.Pw
/- -/
theorem Go.Calls.r {P : Go.Program} {f : Go.FuncId} {args : Array Go.Value} {w : Go.World} {R : Go.Ending → Go.World → Prop} (h : Go.Calls P f args w R) : Go.Calls P f args w R := h
namespace Go.Pw
def Qhz (P : Program) (f : Nat) : Bool := match P.funcs[f]? with
 | some fn => !fn.body.isNone && !(fn.name == "runtime.NumGoroutine")
 | none => false
def Qp6 (n : Nat) (bad : List Nat) (f : Nat) : Bool := Nat.blt f n && !bad.contains f
def QiQ (P : Program) (n : Nat) (bad : List Nat) : Bool := (List.range n).all fun f => bad.contains f || Qhz P f
theorem Qlw {P : Program} {n : Nat} {bad : List Nat} (hall : QiQ P n bad = true) {ρ : Operand → Value} {o : Oper} {w : World} {K : Value → World → Prop} {Q : Value → World → Prop} {f : FuncId} {args : List Operand} {ts : Array TypeId} {vs : List Value}
  (ho : o.op = .call { callee := .value (.func f), args := args.toArray, argTypes := ts }) (hc : ρ (.func f) = .func (.func f) #[] #[]) (hlt : Qp6 n bad f = true) (hargs : List.map ρ args = vs)
  (h : Calls P f vs.toArray w fun e w' => ∃ v, e = .returned v ∧ Q v w') (hk : ∀ v w', Q v w' → K v w') : Exec P ρ o w K := by
 have h1 : Qhz P f = true := by
  unfold Qp6 at hlt
  simp only [Bool.and_eq_true, Bool.not_eq_true'] at hlt
  have := List.all_eq_true.1 hall f (List.mem_range.2 (by simpa using hlt.1))
  rw [hlt.2, Bool.false_or] at this
  exact this
 unfold Qhz at h1
 split at h1
 ·rename_i fn hf
  simp only [Bool.and_eq_true, Bool.not_eq_true'] at h1
  exact Exec.call ho hc hf h1.1 h1.2 hargs (h.mono fun e w' ⟨v, e1, e2⟩ => ⟨v, e1, hk v w' e2⟩)
 ·cases h1
end Go.Pw
/- -/
namespace Go.Pw
inductive Pick (r : Res) : List Res → List Res → Prop
  | here {M : List Res} : Pick r (r :: M) M
  | there {x : Res} {M M' : List Res} (h : Pick r M M') : Pick r (x :: M) (x :: M')
inductive SubR : List Res → List Res → Prop
  | refl {L : List Res} : SubR L L
  | take {r : Res} {L M M' : List Res} (p : Pick r M M') (h : SubR L M') : SubR (r :: L) M
  | drop {r : Res} {L M : List Res} (h : SubR L M) : SubR L (r :: M)
theorem Pick.perm {r : Res} : ∀ {M M' : List Res}, Pick r M M' → M.Perm (r :: M')
  | _, _, .here => .refl _
  | _, _, .there h => (h.perm.cons _).trans (List.Perm.swap _ _ _)
theorem SubR.perm : ∀ {L M : List Res}, SubR L M → ∃ D, M.Perm (D ++ L)
  | _, _, .refl => ⟨[], .refl _⟩
  | _, _, .take p h =>
    let ⟨D, q⟩ := h.perm
    ⟨D, (p.perm.trans (q.cons _)).trans List.perm_middle.symm⟩
  | _, _, .drop h =>
    let ⟨D, q⟩ := h.perm
    ⟨_ :: D, q.cons _⟩
section
variable {w0 w : World} {s s' : PHeap} {H H' : List Res}
theorem St.drops : ∀ {D : List Res}, St w0 s (D ++ H) w → St w0 s H w
  | [], h => h
  | _ :: D, h => St.drops (D := D) h.drop
theorem St.sub (h : St w0 s H w) (k : SubR H' H) : St w0 s H' w :=
  let ⟨_, p⟩ := k.perm
  (h.perm p).drops
theorem lq (h : PHeap.le s s' := by repeat (first | exact Zv _ | assumption | refine Zt ?_ (by assumption))) : PHeap.le s s' := h
theorem Qpi {α : Type} {E : Enc α} {v : Value} {xs : List α} (h : SliceRep E s v xs) (l : PHeap.le s s') : SliceRep E s' v xs := h.mono l
theorem rq {α : Type} {E : Enc α} {v : Value} {xs : List α} (h : SliceRep E s v xs := by first | assumption | exact SliceRep.nil _ _ | exact Qpi (by assumption) lq) : SliceRep E s v xs := h
theorem hq (h : St w0 s H w := by
    first
    | assumption
    | (refine St.sub (by assumption) ?_
       repeat (first
         | exact SubR.refl
         | (apply SubR.take; (repeat (first | exact Pick.here | apply Pick.there)))
         | refine SubR.drop ?_))) : St w0 s H w := h
end
section
variable {P : Program} {ρ : Operand → Value} {o : Oper} {w w0 : World} {s : PHeap} {H : List Res} {K : Value → World → Prop} {T : TypeId}
theorem Jk {α : Type} {E : Enc α} {xs : List α} {y : α} {x i : Operand} {v : Value} {k : IntKind} {n : Int} {e m by_ : Nat} [hT : STy P T e m by_] (ho : o.op = .indexAddr T x i) (hx : ρ x = v) (hi : ρ i = .int k n) (hy : Q9 xs n = some y)
    (hk : ∀ b off, At s b off E y → K (.pointer (some ⟨b, off, none⟩)) w) (hS : St w0 s H w := by assumption) (h : SliceRep E s v xs := by first | assumption | exact Qpi (by assumption) lq) (hm : m = E.sz := by rfl) : Exec P ρ o w K :=
  Ju (by rw [← hm]; exact hT.h) ho hx hi h hy hk
end
section
variable {P : Program} {ρ : Operand → Value} {o : Oper} {w w0 : World} {s : PHeap} {H : List Res} {K : Value → World → Prop} {T : TypeId}
theorem onq {v : Value} (h : v.oneCell' = true := by first | rfl | exact SliceRep.one (by assumption) | exact St.arr_one hq) : v.oneCell' = true := h
theorem KJ {x y : Operand} {b off n : Nat} {Tb : TypeId} {cs ds es : List Value} {v : Value} {ag : Bool} [hT : ATy P T ag n] (ho : o.op = .store T x y) (hx : ρ x = .pointer (some ⟨b, off, none⟩)) (hy : ρ y = v)
    (hk : ∀ w', St w0 s (.box b Tb es :: H) w' → K undef w') (hS : St w0 s (.box b Tb cs :: H) w := by
      first
      | assumption
      | (refine St.sub (by assumption) ?_
         repeat (first
           | exact SubR.refl
           | (apply SubR.take; (repeat (first | exact Pick.here | apply Pick.there)))
           | refine SubR.drop ?_)))
    (hc : v.cells = ds.toArray := by first | rfl | exact Qz onq) (hn : ds.length = n := by rfl) (h1 : ∀ v ∈ ds, v.oneCell' = true := by repeat (first | exact QU | refine Zj onq ?_))
    (hfit : off + n ≤ cs.length := by exact Nat.le_of_ble_eq_true rfl) (he : cs.take off ++ ds ++ cs.drop (off + n) = es := by rfl) : Exec P ρ o w K := by
  subst hn
  exact Qq hS hT.h ho hx hy hc h1 hfit he hk
theorem Kq {x : Operand} {v : Value} {cs : List Value} (ho : o.op = .box T x) (hx : ρ x = v) (hk : ∀ b w', St w0 s (.box b T cs :: H) w' → K (.pointer (some ⟨b, 0, none⟩)) w') (hS : St w0 s H w := by assumption) (hc : v.cells = cs.toArray := by first | rfl | exact Qz onq) : Exec P ρ o w K := Exec.box hS ho hx hc hk
end
theorem QqI {a b c : Prop} (hb : b) (ha : a) (hc : c) : a ∧ b ∧ c := ⟨ha, hb, hc⟩
theorem QqJ {a b : Prop} (hb : b) (ha : a) : a ∧ b := ⟨ha, hb⟩
theorem fxq {f : Fr} {l : List (Nat × Value)} (h : FxL f l := by
    repeat (first
      | exact FxL.nil
      | refine FxL.cons rfl ?_
      | refine FxL.cons (QM (by assumption) (SliceRep.le (by assumption))) ?_
      | refine FxL.cons (congrArg Value.bool (by simp only [*, Bool.true_and, Bool.false_and, Bool.true_or, Bool.false_or])) ?_)) : Fx f l := ⟨f, h.eq⟩
theorem fq {A : Prop} (h : A := by
    repeat (apply Exists.intro)
    first
    | (refine QqI hq lq ?_
       repeat (first
         | exact fxq
         | exact rfl
         | exact rq
         | refine And.intro rfl ?_
         | refine And.intro fxq ?_
         | refine And.intro rq ?_))
    | exact QqJ hq lq) : A := h
theorem fr {P : Program} {fn : Func} {R : Value → World → Prop} {f : Fr} {w : World} {t : Nat} (hr : fn.results = #[.tmp t] := by rfl) (h : R (f t) w := by exact fq) : Qnq P fn R .ret f w := ⟨_, KR hr, h⟩
theorem Qs {α : Type} {c : Bool} {x y : Option α} {r : α} (h : (if c = true then x else y) = some r) : (c = true ∧ x = some r) ∨ (c = false ∧ y = some r) := by
  cases c with
  | true => exact .inl ⟨rfl, h⟩
  | false => exact .inr ⟨rfl, h⟩
theorem tf (c : Bool) : c = true ∨ c = false := by cases c <;> simp
theorem Qn {α β : Type} {x : Option α} {f : α → Option β} {r : β} {Q : Prop} (h : x.bind f = some r) (k : ∀ a, x = some a → f a = some r → Q) : Q := let ⟨a, h1, h2⟩ := V h; k a h1 h2
theorem Qh3 {S R β : Type} {x : Option (Ctl S R)} {kr : R → Option β} {k : S → Option β} {r : β} {Q : Prop} (h : ctl x kr k = some r) (q : ∀ c, x = some c → (∀ q, c = .ret q → kr q = some r) → (∀ s, c = .next s → k s = some r) → (∀ s, c = .brk s → k s = some r) → Q) : Q := let ⟨c, h1, h2, h3, h4⟩ := Qr h; q c h1 h2 h3 h4
theorem J1 {β : Type} {b : Bool} {x y : Option β} {r : β} {Q : Prop} (h : (if b = true then x else y) = some r) (k1 : b = true → x = some r → Q) (k2 : ¬ b = true → y = some r → Q) : Q := (YC h).elim (fun h => k1 h.1 h.2) fun h => k2 h.1 h.2
theorem Qdz {β : Type} {b : Bool} {x y : Option β} {r : β} {Q : Prop} (h : (if b = true then x else y) = some r) (k1 : b = true → x = some r → Q) (k2 : b = false → y = some r → Q) : Q := (Qs h).elim (fun h => k1 h.1 h.2) fun h => k2 h.1 h.2
end Go.Pw
/- -/
namespace Go.Pw
section
variable {P : Program} {ρ : Operand → Value} {o : Oper} {w : World} {K : Value → World → Prop} {T T' E : TypeId} {x : Operand}
theorem YX {p : Addr} (hT : P.underlying T = some (.pointer E)) (ho : o.op = .binOp .eql T x (.const (.pointer none)) T') (hx : ρ x = .pointer (some p)) (hc : ρ (.const (.pointer none)) = .pointer none) (hk : K (.bool false) w) : Exec P ρ o w K :=
 QbK hT ho hx hc hk
theorem QfY {p : Addr} (hT : P.underlying T = some (.pointer E)) (ho : o.op = .binOp .neq T x (.const (.pointer none)) T') (hx : ρ x = .pointer (some p)) (hc : ρ (.const (.pointer none)) = .pointer none) (hk : K (.bool true) w) : Exec P ρ o w K :=
 Qgz hT ho hx hc hk
end
end Go.Pw
