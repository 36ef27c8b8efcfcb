/-
  My walk's base, part 27: operations that are passed over, and tests that are known, reckoned in one step.
-/
import Derived.Test.YtcabhickgjhkhaaGreatDoorL5
set_option linter.unusedSimpArgs false
namespace Go.Pw
/-- n operations that need no proof: their guards fail, or they hand on a known truth value. -/
def passes (N : Nat) (ops : Array Oper) : Nat → List Oper → Fr → Option (List Oper × Fr)
  | 0, l, f => some (l, f)
  | _ + 1, [], _ => none
  | n + 1, o :: r, f =>
    match dstLt N o.dst, o.guard with
    | true, some (j, b) => match yieldedF ops f j with
      | some c => match c == b with
        | false => passes N ops n r (updo f o.dst undef)
        | true => none
      | none => passes N ops n r (updo f o.dst undef)
    | true, none => match o.op with
      | .move x => match ev f x with
        | .bool c => passes N ops n r (updo f o.dst (.bool c))
        | _ => none
      | .assign x => match ev f x with
        | .bool c => passes N ops n r (updo f o.dst (.bool c))
        | _ => none
      | .pick c a b => match ev f c with
        | .bool true => (match ev f a with
          | .bool v => passes N ops n r (updo f o.dst (.bool v))
          | _ => none)
        | .bool false => (match ev f b with
          | .bool v => passes N ops n r (updo f o.dst (.bool v))
          | _ => none)
        | _ => none
      | _ => none
    | _, _ => none
theorem WL_passes {P : Program} {N : Nat} {ops : Array Oper} {Q : Post} {w : World} : ∀ (n : Nat) {l l' : List Oper} {f f' : Fr}, passes N ops n l f = some (l', f') → WL P N ops Q l' f' w → WL P N ops Q l f w
  | 0, l, l', f, f', h, hk => by
    simp only [passes, Option.some.injEq, Prod.mk.injEq] at h
    obtain ⟨rfl, rfl⟩ := h
    exact hk
  | n + 1, [], l', f, f', h, hk => by simp [passes] at h
  | n + 1, o :: r, l', f, f', h, hk => by
    unfold passes at h
    split at h
    · rename_i j b hd hg
      split at h
      · rename_i c hy
        split at h
        · rename_i hc
          exact Zl hg hy hc hd (WL_passes n h hk)
        · cases h
      · rename_i hy
        exact WL_pass_none hg hy hd (WL_passes n h hk)
    · rename_i hd hg
      split at h
      · rename_i x ho
        split at h
        · rename_i c hv
          exact Za hg hd (Zm ho hv (WL_passes n h hk))
        · cases h
      · rename_i x ho
        split at h
        · rename_i c hv
          exact Za hg hd (Zo ho hv (WL_passes n h hk))
        · cases h
      · rename_i c a b ho
        split at h
        · rename_i hc
          split at h
          · rename_i v hv
            exact Za hg hd (Zs ho hc hv (WL_passes n h hk))
          · cases h
        · rename_i hc
          split at h
          · rename_i v hv
            exact Za hg hd (Exec.pick_f ho hc hv (WL_passes n h hk))
          · cases h
        · cases h
      · cases h
    · cases h
end Go.Pw
