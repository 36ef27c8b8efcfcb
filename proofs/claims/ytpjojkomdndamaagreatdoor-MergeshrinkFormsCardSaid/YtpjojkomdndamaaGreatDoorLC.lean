/- -/
import Derived.Test.YtpjojkomdndamaaGreatDoorLA
import Derived.Test.YtpjojkomdndamaaGreatDoorL10
set_option linter.unusedSimpArgs false
namespace Go.Pw
def Qch (N : Nat) (ops : Array Oper) : Nat → List Oper → Fr → Option (List Oper × Fr)
 | 0, l, f => some (l, f)
 | _ + 1, [], _ => none
 | n + 1, o :: r, f =>
  match QcR N o.dst, o.guard with
  | true, some (j, b) => match JA ops f j with
   | some c => match c == b with
    | false => Qch N ops n r (JF f o.dst undef)
    | true => none
   | none => Qch N ops n r (JF f o.dst undef)
  | true, none => match o.op with
   | .move x => match ev f x with
    | .bool c => Qch N ops n r (JF f o.dst (.bool c))
    | _ => none
   | .assign x => match ev f x with
    | .bool c => Qch N ops n r (JF f o.dst (.bool c))
    | _ => none
   | .pick c a b => match ev f c with
    | .bool true => (match ev f a with
     | .bool v => Qch N ops n r (JF f o.dst (.bool v))
     | _ => none)
    | .bool false => (match ev f b with
     | .bool v => Qch N ops n r (JF f o.dst (.bool v))
     | _ => none)
    | _ => none
   | _ => none
  | _, _ => none
theorem Qx {P : Program} {N : Nat} {ops : Array Oper} {Q : QbC} {w : World} : ∀ (n : Nat) {l l' : List Oper} {f f' : Fr}, Qch N ops n l f = some (l', f') → WL P N ops Q l' f' w → WL P N ops Q l f w
 | 0, l, l', f, f', h, hk => by
  simp only [Qch, Option.some.injEq, Prod.mk.injEq] at h
  obtain ⟨rfl, rfl⟩ := h
  exact hk
 | n + 1, [], l', f, f', h, hk => by simp [Qch] at h
 | n + 1, o :: r, l', f, f', h, hk => by
  unfold Qch at h
  split at h
  ·rename_i j b hd hg
   split at h
   ·rename_i c hy
    split at h
    ·rename_i hc
     exact Zl hg hy hc hd (Qx n h hk)
    ·cases h
   ·rename_i hy
    exact QhT hg hy hd (Qx n h hk)
  ·rename_i hd hg
   split at h
   ·rename_i x ho
    split at h
    ·rename_i c hv
     exact O hg hd (Zm ho hv (Qx n h hk))
    ·cases h
   ·rename_i x ho
    split at h
    ·rename_i c hv
     exact O hg hd (Zo ho hv (Qx n h hk))
    ·cases h
   ·rename_i c a b ho
    split at h
    ·rename_i hc
     split at h
     ·rename_i v hv
      exact O hg hd (Zs ho hc hv (Qx n h hk))
     ·cases h
    ·rename_i hc
     split at h
     ·rename_i v hv
      exact O hg hd (Q8 ho hc hv (Qx n h hk))
     ·cases h
    ·cases h
   ·cases h
  ·cases h
end Go.Pw
/- -/
namespace Go.Pw
def qs : Nat → Nat → DPlan → DPlan
 | _, 0, r => r
 | i, n + 1, r => .q i (qs (i + 1) n r)
def Qh4 (o : Oper) (f : Fr) : Option Bool := match o.op with
 | .move x => (match ev f x with
  | .bool c => some c
  | _ => none)
 | .assign x => (match ev f x with
  | .bool c => some c
  | _ => none)
 | .pick c a b => (match ev f c with
  | .bool true => (match ev f a with
   | .bool v => some v
   | _ => none)
  | .bool false => (match ev f b with
   | .bool v => some v
   | _ => none)
  | _ => none)
 | _ => none
theorem Qfm {P : Program} {o : Oper} {f : Fr} {w : World} {c : Bool} {K : Value → World → Prop} (h : Qh4 o f = some c) (hk : K (.bool c) w) : Exec P (ev f) o w K := by
 unfold Qh4 at h
 split at h
 ·rename_i x ho
  split at h
  ·rename_i b hv; cases h; exact Zm ho hv hk
  ·cases h
 ·rename_i x ho
  split at h
  ·rename_i b hv; cases h; exact Zo ho hv hk
  ·cases h
 ·rename_i x a b ho
  split at h
  ·rename_i hc
   split at h
   ·rename_i v hv; cases h; exact Zs ho hc hv hk
   ·cases h
  ·rename_i hc
   split at h
   ·rename_i v hv; cases h; exact Q8 ho hc hv hk
   ·cases h
  ·cases h
 ·cases h
def Qae (ops : List Oper) : Nat → DPlan → Fr → Option (DPlan × Fr)
 | 0, p, f => some (p, f)
 | n + 1, .q i r, f => match ops[i]? with
  | some o => (match o.guard with
   | some (j, b) => (match JA ops.toArray f j with
    | some c => (match c == b with
     | false => Qae ops n r (JF f o.dst undef)
     | true => (match Qh4 o f with
      | some v => Qae ops n r (JF f o.dst (.bool v))
      | none => none))
    | none => Qae ops n r (JF f o.dst undef))
   | none => (match Qh4 o f with
    | some v => Qae ops n r (JF f o.dst (.bool v))
    | none => none))
  | none => none
 | n + 1, .e i _ r, f => match ops[i]? with
  | some o => (match o.guard with
   | some (j, b) => (match JA ops.toArray f j with
    | some c => (match c == b with
     | false => Qae ops n r (JF f o.dst undef)
     | true => none)
    | none => Qae ops n r (JF f o.dst undef))
   | none => none)
  | none => none
 | _, _, _ => none
theorem Jh {P : Program} {ops : List Oper} {K : Fr → World → Prop} {w : World} : ∀ (n : Nat) {p p' : DPlan} {f f' : Fr}, Qae ops n p f = some (p', f') → DL P ops K p' f' w → DL P ops K p f w
 | 0, p, p', f, f', h, hk => by
  simp only [Qae, Option.some.injEq, Prod.mk.injEq] at h
  obtain ⟨rfl, rfl⟩ := h
  exact hk
 | n + 1, .done, p', f, f', h, hk => by simp [Qae] at h
 | n + 1, .alt p q, p', f, f', h, hk => by simp [Qae] at h
 | n + 1, .q i r, p', f, f', h, hk => by
  unfold Qae at h
  split at h
  ·rename_i o ho
   split at h
   ·rename_i j b hg
    split at h
    ·rename_i c hy
     split at h
     ·rename_i hc
      exact Qoa ho hg hy hc (Jh n h hk)
     ·rename_i hc
      split at h
      ·rename_i v hv
       have e : c = b := by cases c <;> cases b <;> simp_all
       subst e
       exact QE ho hg hy (Qfm hv ⟨Z, Jh n h hk⟩)
      ·cases h
    ·rename_i hy
     exact Qob ho hg hy (Jh n h hk)
   ·rename_i hg
    split at h
    ·rename_i v hv
     exact Qm ho hg (Qfm hv ⟨Z, Jh n h hk⟩)
    ·cases h
  ·cases h
 | n + 1, .e i ag r, p', f, f', h, hk => by
  unfold Qae at h
  split at h
  ·rename_i o ho
   split at h
   ·rename_i j b hg
    split at h
    ·rename_i c hy
     split at h
     ·rename_i hc
      exact Qoc ho hg hy hc (Jh n h hk)
     ·cases h
    ·rename_i hy
     exact Qod ho hg hy (Jh n h hk)
   ·cases h
  ·cases h
end Go.Pw
