/- -/
import Derived.Test.YtfcmpbkafbhdgaaGreatDoorLC
import Derived.Test.YtfcmpbkafbhdgaaGreatDoorLA
set_option linter.unusedSimpArgs false
set_option linter.unusedVariables false
namespace Go.Pw
class FTy (P : Program) (T k : Nat) (off : outParam Nat) : Prop where h : Qdv P T k = some off
class STy (P : Program) (T : Nat) (e n b : outParam Nat) : Prop where h : QA P T = some (e, n, b)
class ATy (P : Program) (T : Nat) (a : outParam Bool) (n : outParam Nat) : Prop where h : Yx P T = some (a, n)
class BoxIn (H : List Res) (b : Nat) (T : outParam Nat) (cs : outParam (List Value)) : Prop where h : ∃ H', H.Perm (Res.box b T cs :: H')
instance (priority := high) {H : List Res} {b T : Nat} {cs : List Value} : BoxIn (Res.box b T cs :: H) b T cs := ⟨H, .refl _⟩
instance {H : List Res} {r : Res} {b T : Nat} {cs : List Value} [h : BoxIn H b T cs] : BoxIn (r :: H) b T cs :=
  let ⟨H', p⟩ := h.h
  ⟨r :: H', (p.cons r).trans (List.Perm.swap _ _ _)⟩
def ups : List (Nat × Value) → Fr → Fr
  | [], g => g
  | (n, v) :: l, g => upd (ups l g) n v
inductive FxL (f : Fr) : List (Nat × Value) → Prop
  | nil : FxL f []
  | cons {n : Nat} {v : Value} {l : List (Nat × Value)} (h : f n = v) (t : FxL f l) : FxL f ((n, v) :: l)
def Fx (f : Fr) (l : List (Nat × Value)) : Prop := ∃ g, f = ups l g
theorem FxL.eq {f : Fr} : ∀ {l : List (Nat × Value)}, FxL f l → f = ups l f
  | [], _ => rfl
  | (n, v) :: l, .cons h t => by
    funext m
    show f m = bif Nat.beq m n then v else ups l f m
    rw [← t.eq]
    cases q : Nat.beq m n with
    | true => rw [Nat.eq_of_beq_eq_true q, h]; rfl
    | false => rfl
theorem fxl {f : Fr} {l : List (Nat × Value)} (h : FxL f l := by repeat (first | exact FxL.nil | refine FxL.cons rfl ?_)) : FxL f l := h
theorem Fx.mk {f : Fr} {l : List (Nat × Value)} (h : FxL f l := by repeat (first | exact FxL.nil | refine FxL.cons rfl ?_)) : Fx f l := ⟨f, h.eq⟩
def Qmf (k : IntKind) (a b : Int) : BinOp → Option Value
  | .lss => some (.bool (decide (a < b)))
  | .leq => some (.bool (decide (a ≤ b)))
  | .gtr => some (.bool (decide (b < a)))
  | .geq => some (.bool (decide (b ≤ a)))
  | .eql => some (.bool (decide (a = b)))
  | .neq => some (.bool (!decide (a = b)))
  | .add => some (.int k (k.wrap (a + b)))
  | .sub => some (.int k (k.wrap (a - b)))
  | .mul => some (.int k (k.wrap (a * b)))
  | _ => none
def Qme (a b : ByteArray) : BinOp → Option Value
  | .eql => some (.bool (decide (a = b)))
  | .neq => some (.bool (!decide (a = b)))
  | _ => none
def Qig (ρ : Operand → Value) : Op → Option Value
  | .move x => some (ρ x)
  | .assign x => some (ρ x)
  | .binOp op _ x y _ => match ρ x with
    | .int k a => match ρ y with
      | .int k' b => if k = k' then Qmf k a b op else none
      | _ => none
    | .string a => match ρ y with
      | .string b => Qme a b op
      | _ => none
    | _ => none
  | .unOp .not _ x => match ρ x with
    | .bool b => some (.bool (!b))
    | _ => none
  | .extract t i => match ρ t with
    | .tuple vs => vs[i]?
    | _ => none
  | .nilCheck x => match ρ x with
    | .pointer (some a) => some (.pointer (some a))
    | _ => none
  | _ => none
section
variable {P : Program} {ρ : Operand → Value} {o : Oper} {w w0 : World} {s : PHeap} {H : List Res} {K : Value → World → Prop} {T : TypeId}
theorem Xq {v : Value} (h : Qig ρ o.op = some v) (hk : K v w) : Exec P ρ o w K := by
  unfold Qig at h
  split at h
  · rename_i x ho; exact Zm ho (Zu h) hk
  · rename_i x ho; exact Zo ho (Zu h) hk
  · rename_i op _ x y _ ho
    split at h
    · rename_i k a hx
      split at h
      · rename_i k' b hy
        split at h
        · rename_i e
          subst e
          cases op <;> simp only [Qmf, Option.some.injEq, reduceCtorEq] at h <;> subst h
          · exact Exec.add ho hx hy hk
          · exact Exec.sub ho hx hy hk
          · exact Exec.mul ho hx hy hk
          · exact Exec.eql ho hx hy hk
          · exact Exec.neq ho hx hy hk
          · exact Zq ho hx hy hk
          · exact Exec.leq ho hx hy hk
          · exact Exec.gtr ho hx hy hk
          · exact Exec.geq ho hx hy hk
        · cases h
      · cases h
    · rename_i a hx
      split at h
      · rename_i b hy
        cases op <;> simp only [Qme, Option.some.injEq, reduceCtorEq] at h <;> subst h
        · exact Qhk ho hx hy hk
        · exact Qhj ho hx hy hk
      · cases h
    · cases h
  · rename_i x ho
    split at h
    · rename_i b hx; cases h; exact Exec.not ho hx hk
    · cases h
  · rename_i t i ho
    split at h
    · rename_i vs ht; exact Exec.extract ho ht h hk
    · cases h
  · rename_i x ho
    split at h
    · rename_i a hx; cases h; exact QR ho hx hk
    · cases h
  · cases h
theorem QjY {c a b : Operand} {e : Bool} {v : Value} (ho : o.op = .pick c a b) (hc : ρ c = .bool e) (he : e = true) (hv : ρ a = v) (hk : K v w) : Exec P ρ o w K := Zs ho (by rw [hc, he]) hv hk
theorem QjZ {c a b : Operand} {e : Bool} {v : Value} (ho : o.op = .pick c a b) (hc : ρ c = .bool e) (he : e = false) (hv : ρ b = v) (hk : K v w) : Exec P ρ o w K := QhZ ho (by rw [hc, he]) hv hk
theorem Qip {x : Operand} {k b off foff m : Nat} [hT : FTy P T k foff] (ho : o.op = .fieldAddr T x k) (hx : ρ x = .pointer (some ⟨b, off, none⟩)) (hm : off + foff = m) (hk : K (.pointer (some ⟨b, m, none⟩)) w) : Exec P ρ o w K := Zp hT.h ho hx hm hk
theorem Qin {b off : Nat} {Tb : TypeId} {cs : List Value} {v : Value} (hS : St w0 s H w) (hB : BoxIn H b Tb cs) (hv : cs[off]? = some v) : w.cell? ⟨b, off, none⟩ = some v := by
  obtain ⟨_, p⟩ := hB.h
  simp [World.cell?, (hS.perm p).box_heap, hv]
theorem Xlb {x : Operand} {b off n : Nat} {v : Value} [hT : ATy P T false n] (ho : o.op = .load T x) (hx : ρ x = .pointer (some ⟨b, off, none⟩)) (hc : w.cell? ⟨b, off, none⟩ = some v) (hk : K v w) : Exec P ρ o w K := by
  refine .of_run ?_ hk
  unfold execOp
  simp only [ho, hx, Instr.loadAt, Instr.sureAddr, Sem.run_bind, Sem.run_pure, Result.andThen_ok, KR hT.h hc]
structure Boxed (w : World) (b off n : Nat) (ds : List Value) : Prop where
  h : ∃ (w0 : World) (s : PHeap) (H : List Res) (Tb : TypeId) (cs : List Value), St w0 s (.box b Tb cs :: H) w ∧ (cs.drop off).take n = ds ∧ ds.length = n
theorem QgY {b off n : Nat} {Tb : TypeId} {cs ds : List Value} (hS : St w0 s H w) (hB : BoxIn H b Tb cs) (hv : (cs.drop off).take n = ds) (hn : ds.length = n) : Boxed w b off n ds :=
  let ⟨_, p⟩ := hB.h
  ⟨_, _, _, _, _, hS.perm p, hv, hn⟩
theorem QlK {x : Operand} {b off n : Nat} {ds : List Value} [hT : ATy P T true n] (ho : o.op = .load T x) (hx : ρ x = .pointer (some ⟨b, off, none⟩)) (h : Boxed w b off n ds) (hk : K (.agg ds.toArray) w) : Exec P ρ o w K := by
  obtain ⟨w0, s, H, Tb, cs, hS, hv, hn⟩ := h.h
  exact JM hS (by rw [hn]; exact hT.h) ho hx (by rw [hn]; exact hv) hk
theorem QlJ {α : Type} {E : Enc α} {xs : List α} {x : Operand} {v : Value} {e n b : Nat} [hT : STy P T e n b] (ho : o.op = .call { callee := .builtin .len, args := #[x], argTypes := #[T] }) (hx : ρ x = v) (h : SliceRep E s v xs) (hk : K (.int .i64 (xs.length : Int)) w) : Exec P ρ o w K := Zr hT.h ho hx h hk
end
section
variable {P : Program} {N : Nat} {ops : Array Oper} {Q : QaE} {f : Fr} {w : World} {o : Oper} {rest : List Oper}
theorem Qfu {d : Nat} (hg : o.guard = none) (hd : o.dst = some d) (hl : Nat.blt d N = true) (h : Exec P (ev f) o w fun v w' => WL P N ops Q rest (upd f d v) w') : WL P N ops Q (o :: rest) f w :=
  Za hg (by rw [hd]; exact hl) (by rw [hd]; exact h)
theorem QhH (hg : o.guard = none) (hd : o.dst = none) (h : Exec P (ev f) o w fun v w' => WL P N ops Q rest f w') : WL P N ops Q (o :: rest) f w :=
  Za hg (by rw [hd]; rfl) (by rw [hd]; exact h)
theorem Qmk {d : Nat} {v : Value} (hg : o.guard = none) (hd : o.dst = some d) (hl : Nat.blt d N = true) (hq : Qig (ev f) o.op = some v) (h : WL P N ops Q rest (upd f d v) w) : WL P N ops Q (o :: rest) f w :=
  Qfu hg hd hl (Xq hq h)
def WLg (P : Program) (N : Nat) (ops : Array Oper) (Q : QaE) (r : Bool) (o : Oper) (rest : List Oper) (f : Fr) (w : World) : Prop :=
  bif r then Exec P (ev f) o w fun v w' => WL P N ops Q rest (QZ f o.dst v) w' else WL P N ops Q rest (QZ f o.dst undef) w
theorem Qml {j d' : Nat} {b e c : Bool} (hg : o.guard = some (j, b)) (hj : (ops[j]?).bind (·.dst) = some d') (hf : f d' = .bool e) (he : e = c) (hd : Qcj N o.dst = true) (h : WLg P N ops Q (c == b) o rest f w) : WL P N ops Q (o :: rest) f w := by
  subst he
  unfold WLg at h
  cases q : e == b with
  | true =>
    rw [q] at h
    exact Qma hg (Zf hj (by rw [hf, eq_of_beq q])) hd h
  | false =>
    rw [q] at h
    exact Zl hg (Zf hj hf) q hd h
theorem Ql5 {j d' d : Nat} {b : Bool} (hg : o.guard = some (j, b)) (hj : (ops[j]?).bind (·.dst) = some d') (hf : f d' = undef) (hd : o.dst = some d) (hl : Nat.blt d N = true)
    (h : WL P N ops Q rest (upd f d undef) w) : WL P N ops Q (o :: rest) f w :=
  Qhi hg (Zh hj hf) (by rw [hd]; exact hl) (by rw [hd]; exact h)
theorem Ql4 {d : Nat} {r : Bool} (hr : r = false) (hd : o.dst = some d) (h : WL P N ops Q rest (upd f d undef) w) : WLg P N ops Q r o rest f w := by
  subst hr; unfold WLg; rw [hd]; exact h
theorem Qkc {r : Bool} (hr : r = false) (hd : o.dst = none) (h : WL P N ops Q rest f w) : WLg P N ops Q r o rest f w := by
  subst hr; unfold WLg; rw [hd]; exact h
theorem Ql3 {d : Nat} {r : Bool} {v : Value} (hr : r = true) (hd : o.dst = some d) (hq : Qig (ev f) o.op = some v) (h : WL P N ops Q rest (upd f d v) w) : WLg P N ops Q r o rest f w := by
  subst hr; unfold WLg; rw [hd]; exact Xq hq h
theorem Ql2 {d : Nat} {r : Bool} (hr : r = true) (hd : o.dst = some d) (h : Exec P (ev f) o w fun v w' => WL P N ops Q rest (upd f d v) w') : WLg P N ops Q r o rest f w := by
  subst hr; unfold WLg; rw [hd]; exact h
theorem Qkb {r : Bool} (hr : r = true) (hd : o.dst = none) (h : Exec P (ev f) o w fun v w' => WL P N ops Q rest f w') : WLg P N ops Q r o rest f w := by
  subst hr; unfold WLg; rw [hd]; exact h
def Wc (P : Program) (N : Nat) (r : Bool) (x y : Code) (Q : QaE) (f : Fr) (w : World) : Prop := bif r then W P N x Q f w else W P N y Q f w
theorem W_c {c : Operand} {x y : Code} {b e : Bool} (hv : ev f c = .bool b) (hb : b = e) (h : Wc P N e x y Q f w) : W P N (.cond c x y) Q f w := by
  subst hb
  cases b with
  | true => exact KB hv h
  | false => exact K6 hv h
theorem Qng {x y : Code} (h : W P N x Q f w) : Wc P N true x y Q f w := h
theorem Qa0 {x y : Code} (h : W P N y Q f w) : Wc P N false x y Q f w := h
theorem rT : true = true := rfl
theorem rF : false = false := rfl
end
/-! ### drawn regions -/
section
variable {P : Program} {ops : List Oper} {K : Fr → World → Prop} {f : Fr} {w : World} {i : Nat} {o : Oper} {r : DPlan} {ag : List Nat}
theorem Qfw {d : Nat} (ho : ops[i]? = some o) (hg : o.guard = none) (hd : o.dst = some d) (h : Exec P (ev f) o w fun v w' => w' = w ∧ DL P ops K r (upd f d v) w) : DL P ops K (.q i r) f w := J1 ho hg (by rw [hd]; exact h)
theorem Ql9 {d : Nat} {v : Value} (ho : ops[i]? = some o) (hg : o.guard = none) (hd : o.dst = some d) (hq : Qig (ev f) o.op = some v) (h : DL P ops K r (upd f d v) w) : DL P ops K (.q i r) f w := Qfw ho hg hd (Xq hq ⟨rfl, h⟩)
theorem Qjc {d : Nat} (ho : ops[i]? = some o) (hg : o.guard = none) (hd : o.dst = some d) (h : Exec P (ev f) o w fun v w' => (∀ j ∈ ag, QB P ops (upd f d v) w' j) ∧ DL P ops K r (upd f d v) w') : DL P ops K (.e i ag r) f w := QeF ho hg (by rw [hd]; exact h)
theorem Qjb (ho : ops[i]? = some o) (hg : o.guard = none) (hd : o.dst = none) (h : Exec P (ev f) o w fun v w' => (∀ j ∈ ag, QB P ops f w' j) ∧ DL P ops K r f w') : DL P ops K (.e i ag r) f w := QeF ho hg (by rw [hd]; exact h)
def DLg (P : Program) (ops : List Oper) (K : Fr → World → Prop) (q : Option (List Nat)) (b : Bool) (o : Oper) (r : DPlan) (f : Fr) (w : World) : Prop :=
  bif b then Exec P (ev f) o w fun v w' => (match q with | none => w' = w | some ag => ∀ j ∈ ag, QB P ops (QZ f o.dst v) w' j) ∧ DL P ops K r (QZ f o.dst v) w' else DL P ops K r (QZ f o.dst undef) w
theorem QlB {j d' : Nat} {b e c : Bool} (ho : ops[i]? = some o) (hg : o.guard = some (j, b)) (hj : (ops.toArray[j]?).bind (·.dst) = some d') (hf : f d' = .bool e) (he : e = c) (h : DLg P ops K none (c == b) o r f w) : DL P ops K (.q i r) f w := by
  subst he
  unfold DLg at h
  cases q : e == b with
  | true =>
    rw [q] at h
    exact QmH ho hg (Zf hj (by rw [hf, eq_of_beq q])) (h.mono fun v w' ⟨e1, e2⟩ => ⟨e1, e1 ▸ e2⟩)
  | false =>
    rw [q] at h
    exact QmF ho hg (Zf hj hf) q h
theorem QlD {j d' : Nat} {b e c : Bool} (ho : ops[i]? = some o) (hg : o.guard = some (j, b)) (hj : (ops.toArray[j]?).bind (·.dst) = some d') (hf : f d' = .bool e) (he : e = c) (h : DLg P ops K (some ag) (c == b) o r f w) : DL P ops K (.e i ag r) f w := by
  subst he
  unfold DLg at h
  cases q : e == b with
  | true =>
    rw [q] at h
    exact QmK ho hg (Zf hj (by rw [hf, eq_of_beq q])) h
  | false =>
    rw [q] at h
    exact QmI ho hg (Zf hj hf) q h
theorem QlA {j d' d : Nat} {b : Bool} (ho : ops[i]? = some o) (hg : o.guard = some (j, b)) (hj : (ops.toArray[j]?).bind (·.dst) = some d') (hf : f d' = undef) (hd : o.dst = some d) (h : DL P ops K r (upd f d undef) w) : DL P ops K (.q i r) f w := QmG ho hg (Zh hj hf) (by rw [hd]; exact h)
theorem QlC {j d' d : Nat} {b : Bool} (ho : ops[i]? = some o) (hg : o.guard = some (j, b)) (hj : (ops.toArray[j]?).bind (·.dst) = some d') (hf : f d' = undef) (hd : o.dst = some d) (h : DL P ops K r (upd f d undef) w) : DL P ops K (.e i ag r) f w := QmJ ho hg (Zh hj hf) (by rw [hd]; exact h)
theorem QiC {d : Nat} {b : Bool} {q : Option (List Nat)} (hr : b = false) (hd : o.dst = some d) (h : DL P ops K r (upd f d undef) w) : DLg P ops K q b o r f w := by
  subst hr; unfold DLg; rw [hd]; exact h
theorem Ql7 {d : Nat} {b : Bool} {v : Value} (hr : b = true) (hd : o.dst = some d) (hq : Qig (ev f) o.op = some v) (h : DL P ops K r (upd f d v) w) : DLg P ops K none b o r f w := by
  subst hr; unfold DLg; rw [hd]; exact Xq hq ⟨rfl, h⟩
theorem Ql6 {d : Nat} {b : Bool} (hr : b = true) (hd : o.dst = some d) (h : Exec P (ev f) o w fun v w' => w' = w ∧ DL P ops K r (upd f d v) w') : DLg P ops K none b o r f w := by
  subst hr; unfold DLg; rw [hd]; exact h
theorem Ql8 {d : Nat} {b : Bool} (hr : b = true) (hd : o.dst = some d) (h : Exec P (ev f) o w fun v w' => (∀ j ∈ ag, QB P ops (upd f d v) w' j) ∧ DL P ops K r (upd f d v) w') : DLg P ops K (some ag) b o r f w := by
  subst hr; unfold DLg; rw [hd]; exact h
theorem Qke {b : Bool} (hr : b = true) (hd : o.dst = none) (h : Exec P (ev f) o w fun v w' => (∀ j ∈ ag, QB P ops f w' j) ∧ DL P ops K r f w') : DLg P ops K (some ag) b o r f w := by
  subst hr; unfold DLg; rw [hd]; exact h
theorem Qkd {b : Bool} {q : Option (List Nat)} (hr : b = false) (hd : o.dst = none) (h : DL P ops K r f w) : DLg P ops K q b o r f w := by
  subst hr; unfold DLg; rw [hd]; exact h
theorem QmY {v : Value} (ho : ops[i]? = some o) (hg : o.guard = none) (hq : Qig (ev f) o.op = some v) (hv : v = f (YH ops i)) : QB P ops f w i := Qcf ho hg (Xq hq ⟨rfl, hv⟩)
theorem Qm1 {j d' : Nat} {b e : Bool} (ho : ops[i]? = some o) (hg : o.guard = some (j, b)) (hj : (ops.toArray[j]?).bind (·.dst) = some d') (hf : f d' = .bool e) (he : e = !b) (h : f (YH ops i) = undef) : QB P ops f w i :=
  QmZ ho hg (Zf hj hf) (by subst he; cases b <;> rfl) h
theorem Qm3 {j d' : Nat} {b e : Bool} (ho : ops[i]? = some o) (hg : o.guard = some (j, b)) (hj : (ops.toArray[j]?).bind (·.dst) = some d') (hf : f d' = .bool e) (he : e = b) (h : Exec P (ev f) o w fun v w' => w' = w ∧ v = f (YH ops i)) : QB P ops f w i :=
  Qnb ho hg (Zf hj (by rw [hf, he])) h
theorem Qm2 {j d' : Nat} {b : Bool} (ho : ops[i]? = some o) (hg : o.guard = some (j, b)) (hj : (ops.toArray[j]?).bind (·.dst) = some d') (hf : f d' = undef) (h : f (YH ops i) = undef) : QB P ops f w i :=
  Qna ho hg (Zh hj hf) h
theorem agq (h : ∀ j ∈ ag, QB P ops f w j := by
    repeat (first
      | exact YQ
      | (refine Kq ?_ ?_
         first
         | exact QmY rfl rfl rfl rfl
         | exact Qm1 rfl rfl rfl rfl (by first | rfl | assumption) rfl
         | exact Qm2 rfl rfl rfl rfl rfl
         | (first
            | refine Qcf rfl rfl ?_
            | refine Qm3 rfl rfl rfl rfl (by first | rfl | assumption) ?_
            first
            | exact Xq rfl ⟨rfl, rfl⟩
            | exact Qip rfl rfl rfl ⟨rfl, rfl⟩
            | exact Xlb rfl rfl (by apply Qin; assumption; infer_instance; rfl) ⟨rfl, rfl⟩
            | exact QlK rfl rfl (by apply QgY; assumption; infer_instance; rfl; rfl) ⟨rfl, rfl⟩
            | exact QlJ rfl rfl (by assumption) ⟨rfl, rfl⟩)))) : ∀ j ∈ ag, QB P ops f w j := h
end
structure Kept (B : Prop) : Prop where h : B
theorem G {A B : Prop} (k : B) (h : Kept B → A := by
    intro k
    repeat (first
      | (show WL _ _ _ _ _ _ _; first
          | refine Qmk rfl rfl rfl rfl ?_
          | refine Zb ?_
          | (refine Qml rfl rfl rfl (by first | with_reducible exact rT | with_reducible exact rF | assumption) rfl ?_; first | refine Ql4 rfl rfl ?_ | refine Ql3 rfl rfl rfl ?_ | refine Ql2 rfl rfl ?_ | refine Qkc rfl rfl ?_ | refine Qkb rfl rfl ?_)
          | refine Qfu rfl rfl rfl ?_
          | refine QhH rfl rfl ?_
          | refine Ql5 rfl rfl rfl rfl rfl ?_)
      | (show Exec _ _ _ _ _; first
          | refine Qip rfl rfl rfl ?_
          | refine Xlb rfl rfl (by apply Qin; assumption; infer_instance; rfl) ?_
          | refine QlJ rfl rfl (by assumption) ?_
          | refine QlK rfl rfl (by apply QgY; assumption; infer_instance; rfl; rfl) ?_
          | refine QjY rfl rfl (by first | with_reducible exact rT | with_reducible exact rF | assumption) rfl ?_
          | refine QjZ rfl rfl (by first | with_reducible exact rT | with_reducible exact rF | assumption) rfl ?_)
      | (show andThen _ _ _ _ _; first
          | refine Ze ?_
          | refine Qcl ?_
          | refine QeX ?_)
      | (show W _ _ _ _ _ _; first
          | refine Zc ?_
          | refine Zd ?_
          | refine Qbe ?_
          | refine QT ?_
          | refine Qka ?_
          | refine Qa3 ?_
          | (refine W_c rfl (by first | with_reducible exact rT | with_reducible exact rF | assumption) ?_; first | refine Qng ?_ | refine Qa0 ?_)
          | refine KB (congrArg Value.bool (decide_eq_true (by omega))) ?_
          | refine K6 (congrArg Value.bool (decide_eq_false (by omega))) ?_)
      | (show Y0 _ _ _ _ _; first
          | refine Qgy ?_
          | refine QjO ?_
          | refine QgS ?_
          | refine QiR rfl ?_)
      | (show DL _ _ _ _ _ _; first
          | refine Ql9 rfl rfl rfl rfl ?_
          | (refine QlB rfl rfl rfl rfl (by first | with_reducible exact rT | with_reducible exact rF | assumption) ?_; first | refine QiC rfl rfl ?_ | refine Ql7 rfl rfl rfl ?_ | refine Ql6 rfl rfl ?_)
          | refine Qfw rfl rfl rfl ?_
          | refine Qjc rfl rfl rfl ?_
          | refine Qjb rfl rfl rfl ?_
          | (refine QlD rfl rfl rfl rfl (by first | with_reducible exact rT | with_reducible exact rF | assumption) ?_; first | refine QiC rfl rfl ?_ | refine Ql8 rfl rfl ?_ | refine Qkd rfl rfl ?_ | refine Qke rfl rfl ?_)
          | refine QlA rfl rfl rfl rfl rfl ?_
          | refine QlC rfl rfl rfl rfl rfl ?_
          | refine Qjd ?_)
      | (show _ = _ ∧ DL _ _ _ _ _ _; first
          | refine And.intro rfl ?_))
    exact k.h) : A := h ⟨k⟩
theorem g {A B : Prop} (k : B) (h : Kept B → A := by
    intro k
    repeat (first
      | (show WL _ _ _ _ _ _ _; first
          | refine Qmk rfl rfl rfl rfl ?_
          | refine Zb ?_
          | (refine Qml rfl rfl rfl (by first | with_reducible exact rT | with_reducible exact rF | assumption) rfl ?_; first | refine Ql4 rfl rfl ?_ | refine Ql3 rfl rfl rfl ?_ | refine Ql2 rfl rfl ?_ | refine Qkc rfl rfl ?_ | refine Qkb rfl rfl ?_)
          | refine Qfu rfl rfl rfl ?_
          | refine QhH rfl rfl ?_
          | refine Ql5 rfl rfl rfl rfl rfl ?_)
      | (show Exec _ _ _ _ _; first
          | refine Qip rfl rfl rfl ?_
          | refine Xlb rfl rfl (by apply Qin; assumption; infer_instance; rfl) ?_
          | refine QlJ rfl rfl (by assumption) ?_
          | refine QlK rfl rfl (by apply QgY; assumption; infer_instance; rfl; rfl) ?_
          | refine QjY rfl rfl (by first | with_reducible exact rT | with_reducible exact rF | assumption) rfl ?_
          | refine QjZ rfl rfl (by first | with_reducible exact rT | with_reducible exact rF | assumption) rfl ?_)
      | (show andThen _ _ _ _ _; first
          | refine Ze ?_
          | refine Qcl ?_
          | refine QeX ?_)
      | (show Y0 _ _ _ _ _; first
          | refine Qgy ?_
          | refine QjO ?_
          | refine QgS ?_
          | refine QiR rfl ?_)
      | (show DL _ _ _ _ _ _; first
          | refine Ql9 rfl rfl rfl rfl ?_
          | (refine QlB rfl rfl rfl rfl (by first | with_reducible exact rT | with_reducible exact rF | assumption) ?_; first | refine QiC rfl rfl ?_ | refine Ql7 rfl rfl rfl ?_ | refine Ql6 rfl rfl ?_)
          | refine Qfw rfl rfl rfl ?_
          | refine Qjc rfl rfl rfl ?_
          | refine Qjb rfl rfl rfl ?_
          | (refine QlD rfl rfl rfl rfl (by first | with_reducible exact rT | with_reducible exact rF | assumption) ?_; first | refine QiC rfl rfl ?_ | refine Ql8 rfl rfl ?_ | refine Qkd rfl rfl ?_ | refine Qke rfl rfl ?_)
          | refine QlA rfl rfl rfl rfl rfl ?_
          | refine QlC rfl rfl rfl rfl rfl ?_
          | refine Qjd ?_)
      | (show _ = _ ∧ DL _ _ _ _ _ _; first
          | refine And.intro rfl ?_))
    exact k.h) : A := h ⟨k⟩
end Go.Pw
/- -/
theorem Go.Calls.r {P : Go.Program} {f : Go.FuncId} {args : Array Go.Value} {w : Go.World} {R : Go.Ending → Go.World → Prop} (h : Go.Calls P f args w R) : Go.Calls P f args w R := h
namespace Go.Pw
def Qfl (P : Program) (f : Nat) : Bool := match P.funcs[f]? with
 | some fn => !fn.body.isNone && !(fn.name == "runtime.NumGoroutine")
 | none => false
def QlE (n : Nat) (bad : List Nat) (f : Nat) : Bool := Nat.blt f n && !bad.contains f
def Qgu (P : Program) (n : Nat) (bad : List Nat) : Bool := (List.range n).all fun f => bad.contains f || Qfl P f
theorem Qi5 {P : Program} {n : Nat} {bad : List Nat} (hall : Qgu P n bad = true) {ρ : Operand → Value} {o : Oper} {w : World} {K : Value → World → Prop} {Q : Value → World → Prop} {f : FuncId} {args : List Operand} {ts : Array TypeId} {vs : List Value}
  (ho : o.op = .call { callee := .value (.func f), args := args.toArray, argTypes := ts }) (hc : ρ (.func f) = .func (.func f) #[] #[]) (hlt : QlE n bad f = true) (hargs : List.map ρ args = vs)
  (h : Calls P f vs.toArray w fun e w' => ∃ v, e = .returned v ∧ Q v w') (hk : ∀ v w', Q v w' → K v w') : Exec P ρ o w K := by
 have h1 : Qfl P f = true := by
  unfold QlE at hlt
  simp only [Bool.and_eq_true, Bool.not_eq_true'] at hlt
  have := List.all_eq_true.1 hall f (List.mem_range.2 (by simpa using hlt.1))
  rw [hlt.2, Bool.false_or] at this
  exact this
 unfold Qfl at h1
 split at h1
 ·rename_i fn hf
  simp only [Bool.and_eq_true, Bool.not_eq_true'] at h1
  exact Exec.call ho hc hf h1.1 h1.2 hargs (h.mono fun e w' ⟨v, e1, e2⟩ => ⟨v, e1, hk v w' e2⟩)
 ·cases h1
end Go.Pw
/- -/
namespace Go.Pw
inductive Pick (r : Res) : List Res → List Res → Prop
  | here {M : List Res} : Pick r (r :: M) M
  | there {x : Res} {M M' : List Res} (h : Pick r M M') : Pick r (x :: M) (x :: M')
inductive SubR : List Res → List Res → Prop
  | refl {L : List Res} : SubR L L
  | take {r : Res} {L M M' : List Res} (p : Pick r M M') (h : SubR L M') : SubR (r :: L) M
  | drop {r : Res} {L M : List Res} (h : SubR L M) : SubR L (r :: M)
theorem Pick.perm {r : Res} : ∀ {M M' : List Res}, Pick r M M' → M.Perm (r :: M')
  | _, _, .here => .refl _
  | _, _, .there h => (h.perm.cons _).trans (List.Perm.swap _ _ _)
theorem SubR.perm : ∀ {L M : List Res}, SubR L M → ∃ D, M.Perm (D ++ L)
  | _, _, .refl => ⟨[], .refl _⟩
  | _, _, .take p h =>
    let ⟨D, q⟩ := h.perm
    ⟨D, (p.perm.trans (q.cons _)).trans List.perm_middle.symm⟩
  | _, _, .drop h =>
    let ⟨D, q⟩ := h.perm
    ⟨_ :: D, q.cons _⟩
section
variable {w0 w : World} {s s' : PHeap} {H H' : List Res}
theorem St.drops : ∀ {D : List Res}, St w0 s (D ++ H) w → St w0 s H w
  | [], h => h
  | _ :: D, h => St.drops (D := D) h.drop
theorem St.sub (h : St w0 s H w) (k : SubR H' H) : St w0 s H' w :=
  let ⟨_, p⟩ := k.perm
  (h.perm p).drops
theorem lq (h : PHeap.le s s' := by repeat (first | exact Zv _ | assumption | refine Zt ?_ (by assumption))) : PHeap.le s s' := h
theorem Qls {α : Type} {E : Enc α} {v : Value} {xs : List α} (h : SliceRep E s v xs) (l : PHeap.le s s') : SliceRep E s' v xs := h.mono l
theorem rq {α : Type} {E : Enc α} {v : Value} {xs : List α} (h : SliceRep E s v xs := by first | assumption | exact SliceRep.nil _ _ | exact Qls (by assumption) lq) : SliceRep E s v xs := h
theorem hq (h : St w0 s H w := by
    first
    | assumption
    | (refine St.sub (by assumption) ?_
       repeat (first
         | exact SubR.refl
         | (apply SubR.take; (repeat (first | exact Pick.here | apply Pick.there)))
         | refine SubR.drop ?_))) : St w0 s H w := h
end
section
variable {P : Program} {ρ : Operand → Value} {o : Oper} {w w0 : World} {s : PHeap} {H : List Res} {K : Value → World → Prop} {T : TypeId}
theorem Jk {α : Type} {E : Enc α} {xs : List α} {y : α} {x i : Operand} {v : Value} {k : IntKind} {n : Int} {e m by_ : Nat} [hT : STy P T e m by_] (ho : o.op = .indexAddr T x i) (hx : ρ x = v) (hi : ρ i = .int k n) (hy : QD xs n = some y)
    (hk : ∀ b off, At s b off E y → K (.pointer (some ⟨b, off, none⟩)) w) (hS : St w0 s H w := by assumption) (h : SliceRep E s v xs := by first | assumption | exact Qls (by assumption) lq) (hm : m = E.sz := by rfl) : Exec P ρ o w K :=
  Jn (by rw [← hm]; exact hT.h) ho hx hi h hy hk
end
section
variable {P : Program} {ρ : Operand → Value} {o : Oper} {w w0 : World} {s : PHeap} {H : List Res} {K : Value → World → Prop} {T : TypeId}
theorem onq {v : Value} (h : v.oneCell' = true := by first | rfl | exact SliceRep.one (by assumption) | exact St.arr_one hq) : v.oneCell' = true := h
theorem Yo {x y : Operand} {b off n : Nat} {Tb : TypeId} {cs ds es : List Value} {v : Value} {ag : Bool} [hT : ATy P T ag n] (ho : o.op = .store T x y) (hx : ρ x = .pointer (some ⟨b, off, none⟩)) (hy : ρ y = v)
    (hk : ∀ w', St w0 s (.box b Tb es :: H) w' → K undef w') (hS : St w0 s (.box b Tb cs :: H) w := by
      first
      | assumption
      | (refine St.sub (by assumption) ?_
         repeat (first
           | exact SubR.refl
           | (apply SubR.take; (repeat (first | exact Pick.here | apply Pick.there)))
           | refine SubR.drop ?_)))
    (hc : v.cells = ds.toArray := by first | rfl | exact Q5 onq) (hn : ds.length = n := by rfl) (h1 : ∀ v ∈ ds, v.oneCell' = true := by repeat (first | exact QV | refine Zj onq ?_))
    (hfit : off + n ≤ cs.length := by exact Nat.le_of_ble_eq_true rfl) (he : cs.take off ++ ds ++ cs.drop (off + n) = es := by rfl) : Exec P ρ o w K := by
  subst hn
  exact Qp hS hT.h ho hx hy hc h1 hfit he hk
theorem Yz {x : Operand} {v : Value} {cs : List Value} (ho : o.op = .box T x) (hx : ρ x = v) (hk : ∀ b w', St w0 s (.box b T cs :: H) w' → K (.pointer (some ⟨b, 0, none⟩)) w') (hS : St w0 s H w := by assumption) (hc : v.cells = cs.toArray := by first | rfl | exact Q5 onq) : Exec P ρ o w K := Exec.box hS ho hx hc hk
end
theorem QmW {a b c : Prop} (hb : b) (ha : a) (hc : c) : a ∧ b ∧ c := ⟨ha, hb, hc⟩
theorem QmX {a b : Prop} (hb : b) (ha : a) : a ∧ b := ⟨ha, hb⟩
theorem fxq {f : Fr} {l : List (Nat × Value)} (h : FxL f l := by
    repeat (first
      | exact FxL.nil
      | refine FxL.cons rfl ?_
      | refine FxL.cons (Ja (by assumption) (SliceRep.le (by assumption))) ?_
      | refine FxL.cons (congrArg Value.bool (by simp only [*, Bool.true_and, Bool.false_and, Bool.true_or, Bool.false_or])) ?_)) : Fx f l := ⟨f, h.eq⟩
theorem V {A : Prop} (h : A := by
    repeat (apply Exists.intro)
    first
    | (refine QmW hq lq ?_
       repeat (first
         | exact fxq
         | exact rfl
         | exact rq
         | refine And.intro rfl ?_
         | refine And.intro fxq ?_
         | refine And.intro rq ?_))
    | exact QmX hq lq) : A := h
theorem fr {P : Program} {fn : Func} {R : Value → World → Prop} {f : Fr} {w : World} {t : Nat} (hr : fn.results = #[.tmp t] := by rfl) (h : R (f t) w := by exact V) : QjQ P fn R .ret f w := ⟨_, Qaf hr, h⟩
theorem Qk {α : Type} {c : Bool} {x y : Option α} {r : α} (h : (if c = true then x else y) = some r) : (c = true ∧ x = some r) ∨ (c = false ∧ y = some r) := by
  cases c with
  | true => exact .inl ⟨rfl, h⟩
  | false => exact .inr ⟨rfl, h⟩
theorem tf (c : Bool) : c = true ∨ c = false := by cases c <;> simp
end Go.Pw
