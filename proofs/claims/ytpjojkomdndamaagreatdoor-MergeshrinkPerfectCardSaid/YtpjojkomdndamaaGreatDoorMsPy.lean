/- -/
import Derived.Test.YtpjojkomdndamaaGreatDoorMsPv
set_option linter.unusedSimpArgs false
set_option linter.unusedVariables false
namespace Go.Pw
def Qmk (tv zs : List Int) (i : Nat) (st : List Int × Int) : Option (List Int × Int) := (Ja zs ((zs.length - 1 - i : Nat) : Int)).bind fun v => Qif tv v st
theorem Qkw {tv zs : List Int} {i : Nat} (hi : i < zs.length) (st : List Int × Int) : Qmk tv zs i st = Qif tv (Qan zs i).2 st := by
 unfold Qmk Qan
 have : Ja zs ((zs.length - 1 - i : Nat) : Int) = some (zs[zs.length - 1 - i]?.getD 0) := by
  unfold Ja
  rw [if_pos (by omega), Int.toNat_natCast]
  have h : zs.length - 1 - i < zs.length := by omega
  simp [h]
 rw [this]
 rfl
theorem Qi5 {tv zs : List Int} : ∀ (k i : Nat), i + k ≤ zs.length → ∀ st, forS (Qmk tv zs) k i st = Qch tv ((List.range' i k).map (Qan zs)) st
 | 0, _, _, st => rfl
 | k + 1, i, h, st => by
  rw [List.range'_succ, List.map_cons]
  simp only [forS, Qch]
  rw [Qkw (by omega)]
  congr 1
  funext st'
  exact Qi5 k (i + 1) (by omega) st'
theorem Qk8 {tv zs : List Int} (st : List Int × Int) : forS (Qmk tv zs) zs.length 0 st = Qch tv (YX (Qan zs) zs.length) st := by
 rw [Qi5 zs.length 0 (by omega)]
 unfold YX
 rw [List.range_eq_range']
theorem Qi0 {tv : List Int} : ∀ {l k : List (Nat × Int)} {st r : List Int × Int}, l <+: k → Qch tv k st = some r → ∃ q, Qch tv l st = some q
 | [], _, st, _, _, _ => ⟨st, rfl⟩
 | x :: l, k, st, r, ⟨t, ht⟩, h => by
  subst ht
  simp only [List.cons_append, Qch] at h ⊢
  cases hb : Qif tv x.2 st with
  | none => rw [hb] at h; cases h
  | some st' =>
   rw [hb] at h
   exact Qi0 (l := l) (k := l ++ t) ⟨t, Z⟩ h
end Go.Pw
