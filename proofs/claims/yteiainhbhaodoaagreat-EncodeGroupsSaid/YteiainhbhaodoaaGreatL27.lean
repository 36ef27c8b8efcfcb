/- -/
import Derived.Test.YteiainhbhaodoaaGreatL5
set_option linter.unusedSimpArgs false
namespace Go.Pw
def Qbw (N : Nat) (ops : Array Oper) : Nat → List Oper → Fr → Option (List Oper × Fr)
 | 0, l, f => some (l, f)
 | _ + 1, [], _ => none
 | n + 1, o :: r, f =>
  match Qca N o.dst, o.guard with
  | true, some (j, b) => match Jf ops f j with
   | some c => match c == b with
    | false => Qbw N ops n r (J9 f o.dst undef)
    | true => none
   | none => Qbw N ops n r (J9 f o.dst undef)
  | true, none => match o.op with
   | .move x => match ev f x with
    | .bool c => Qbw N ops n r (J9 f o.dst (.bool c))
    | _ => none
   | .assign x => match ev f x with
    | .bool c => Qbw N ops n r (J9 f o.dst (.bool c))
    | _ => none
   | .pick c a b => match ev f c with
    | .bool true => (match ev f a with
     | .bool v => Qbw N ops n r (J9 f o.dst (.bool v))
     | _ => none)
    | .bool false => (match ev f b with
     | .bool v => Qbw N ops n r (J9 f o.dst (.bool v))
     | _ => none)
    | _ => none
   | _ => none
  | _, _ => none
theorem Qar {P : Program} {N : Nat} {ops : Array Oper} {Q : Qaz} {w : World} : ∀ (n : Nat) {l l' : List Oper} {f f' : Fr}, Qbw N ops n l f = some (l', f') → WL P N ops Q l' f' w → WL P N ops Q l f w
 | 0, l, l', f, f', h, hk => by
  simp only [Qbw, Option.some.injEq, Prod.mk.injEq] at h
  obtain ⟨rfl, rfl⟩ := h
  exact hk
 | n + 1, [], l', f, f', h, hk => by simp [Qbw] at h
 | n + 1, o :: r, l', f, f', h, hk => by
  unfold Qbw at h
  split at h
  ·rename_i j b hd hg
   split at h
   ·rename_i c hy
    split at h
    ·rename_i hc
     exact Zl hg hy hc hd (Qar n h hk)
    ·cases h
   ·rename_i hy
    exact Qd8 hg hy hd (Qar n h hk)
  ·rename_i hd hg
   split at h
   ·rename_i x ho
    split at h
    ·rename_i c hv
     exact Za hg hd (Zm ho hv (Qar n h hk))
    ·cases h
   ·rename_i x ho
    split at h
    ·rename_i c hv
     exact Za hg hd (Zo ho hv (Qar n h hk))
    ·cases h
   ·rename_i c a b ho
    split at h
    ·rename_i hc
     split at h
     ·rename_i v hv
      exact Za hg hd (Zs ho hc hv (Qar n h hk))
     ·cases h
    ·rename_i hc
     split at h
     ·rename_i v hv
      exact Za hg hd (Qel ho hc hv (Qar n h hk))
     ·cases h
    ·cases h
   ·cases h
  ·cases h
end Go.Pw
