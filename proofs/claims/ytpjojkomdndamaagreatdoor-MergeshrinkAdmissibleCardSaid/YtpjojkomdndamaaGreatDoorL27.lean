/- -/
import Derived.Test.YtpjojkomdndamaaGreatDoorLA
set_option linter.unusedSimpArgs false
namespace Go.Pw
def Qca (N : Nat) (ops : Array Oper) : Nat → List Oper → Fr → Option (List Oper × Fr)
 | 0, l, f => some (l, f)
 | _ + 1, [], _ => none
 | n + 1, o :: r, f =>
  match QcH N o.dst, o.guard with
  | true, some (j, b) => match J5 ops f j with
   | some c => match c == b with
    | false => Qca N ops n r (JF f o.dst undef)
    | true => none
   | none => Qca N ops n r (JF f o.dst undef)
  | true, none => match o.op with
   | .move x => match ev f x with
    | .bool c => Qca N ops n r (JF f o.dst (.bool c))
    | _ => none
   | .assign x => match ev f x with
    | .bool c => Qca N ops n r (JF f o.dst (.bool c))
    | _ => none
   | .pick c a b => match ev f c with
    | .bool true => (match ev f a with
     | .bool v => Qca N ops n r (JF f o.dst (.bool v))
     | _ => none)
    | .bool false => (match ev f b with
     | .bool v => Qca N ops n r (JF f o.dst (.bool v))
     | _ => none)
    | _ => none
   | _ => none
  | _, _ => none
theorem Q0 {P : Program} {N : Nat} {ops : Array Oper} {Q : Qb4} {w : World} : ∀ (n : Nat) {l l' : List Oper} {f f' : Fr}, Qca N ops n l f = some (l', f') → WL P N ops Q l' f' w → WL P N ops Q l f w
 | 0, l, l', f, f', h, hk => by
  simp only [Qca, Option.some.injEq, Prod.mk.injEq] at h
  obtain ⟨rfl, rfl⟩ := h
  exact hk
 | n + 1, [], l', f, f', h, hk => by simp [Qca] at h
 | n + 1, o :: r, l', f, f', h, hk => by
  unfold Qca at h
  split at h
  ·rename_i j b hd hg
   split at h
   ·rename_i c hy
    split at h
    ·rename_i hc
     exact Zl hg hy hc hd (Q0 n h hk)
    ·cases h
   ·rename_i hy
    exact QhL hg hy hd (Q0 n h hk)
  ·rename_i hd hg
   split at h
   ·rename_i x ho
    split at h
    ·rename_i c hv
     exact O hg hd (Zm ho hv (Q0 n h hk))
    ·cases h
   ·rename_i x ho
    split at h
    ·rename_i c hv
     exact O hg hd (Zo ho hv (Q0 n h hk))
    ·cases h
   ·rename_i c a b ho
    split at h
    ·rename_i hc
     split at h
     ·rename_i v hv
      exact O hg hd (Zs ho hc hv (Q0 n h hk))
     ·cases h
    ·rename_i hc
     split at h
     ·rename_i v hv
      exact O hg hd (Q5 ho hc hv (Q0 n h hk))
     ·cases h
    ·cases h
   ·cases h
  ·cases h
end Go.Pw
