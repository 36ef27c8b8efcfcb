/-
  The rounds of project.put, from the end, as a counted loop: plain Lean.
-/
import Derived.Test.YtdhfofhginfdnaaPv
set_option linter.unusedSimpArgs false
set_option linter.unusedVariables false
namespace Go.Pw
/-- The printed loop's round. -/
def putF (tv zs : List Int) (i : Nat) (st : List Int × Int) : Option (List Int × Int) := (idx zs ((zs.length - 1 - i : Nat) : Int)).bind fun v => putB tv v st
theorem putF_back {tv zs : List Int} {i : Nat} (hi : i < zs.length) (st : List Int × Int) : putF tv zs i st = putB tv (backP zs i).2 st := by
  unfold putF backP
  have : idx zs ((zs.length - 1 - i : Nat) : Int) = some (zs[zs.length - 1 - i]?.getD 0) := by
    unfold idx
    rw [if_pos (by omega), Int.toNat_natCast]
    have h : zs.length - 1 - i < zs.length := by omega
    simp [h]
  rw [this]
  rfl
theorem forS_put {tv zs : List Int} : ∀ (k i : Nat), i + k ≤ zs.length → ∀ st, forS (putF tv zs) k i st = putR tv ((List.range' i k).map (backP zs)) st
  | 0, _, _, st => rfl
  | k + 1, i, h, st => by
    rw [List.range'_succ, List.map_cons]
    simp only [forS, putR]
    rw [putF_back (by omega)]
    congr 1
    funext st'
    exact forS_put k (i + 1) (by omega) st'
theorem forS_put0 {tv zs : List Int} (st : List Int × Int) : forS (putF tv zs) zs.length 0 st = putR tv (upto (backP zs) zs.length) st := by
  rw [forS_put zs.length 0 (by omega)]
  unfold upto
  rw [List.range_eq_range']
theorem putR_pre {tv : List Int} : ∀ {l k : List (Nat × Int)} {st r : List Int × Int}, l <+: k → putR tv k st = some r → ∃ q, putR tv l st = some q
  | [], _, st, _, _, _ => ⟨st, rfl⟩
  | x :: l, k, st, r, ⟨t, ht⟩, h => by
    subst ht
    simp only [List.cons_append, putR] at h ⊢
    cases hb : putB tv x.2 st with
    | none => rw [hb] at h; cases h
    | some st' =>
      rw [hb] at h
      exact putR_pre (l := l) (k := l ++ t) ⟨t, rfl⟩ h
end Go.Pw
