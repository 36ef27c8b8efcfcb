/- -/
import Derived.Test.YtpjojkomdndamaaGreatDoorMsPv
set_option linter.unusedSimpArgs false
set_option linter.unusedVariables false
namespace Go.Pw
def QlV (tv zs : List Int) (i : Nat) (st : List Int × Int) : Option (List Int × Int) := (Ja zs ((zs.length - 1 - i : Nat) : Int)).bind fun v => QhO tv v st
theorem Qkg {tv zs : List Int} {i : Nat} (hi : i < zs.length) (st : List Int × Int) : QlV tv zs i st = QhO tv (Qal zs i).2 st := by
 unfold QlV Qal
 have : Ja zs ((zs.length - 1 - i : Nat) : Int) = some (zs[zs.length - 1 - i]?.getD 0) := by
  unfold Ja
  rw [if_pos (by omega), Int.toNat_natCast]
  have h : zs.length - 1 - i < zs.length := by omega
  simp [h]
 rw [this]
 rfl
theorem Qin {tv zs : List Int} : ∀ (k i : Nat), i + k ≤ zs.length → ∀ st, forS (QlV tv zs) k i st = Qcc tv ((List.range' i k).map (Qal zs)) st
 | 0, _, _, st => rfl
 | k + 1, i, h, st => by
  rw [List.range'_succ, List.map_cons]
  simp only [forS, Qcc]
  rw [Qkg (by omega)]
  congr 1
  funext st'
  exact Qin k (i + 1) (by omega) st'
theorem Qkr {tv zs : List Int} (st : List Int × Int) : forS (QlV tv zs) zs.length 0 st = Qcc tv (YV (Qal zs) zs.length) st := by
 rw [Qin zs.length 0 (by omega)]
 unfold YV
 rw [List.range_eq_range']
theorem Qii {tv : List Int} : ∀ {l k : List (Nat × Int)} {st r : List Int × Int}, l <+: k → Qcc tv k st = some r → ∃ q, Qcc tv l st = some q
 | [], _, st, _, _, _ => ⟨st, rfl⟩
 | x :: l, k, st, r, ⟨t, ht⟩, h => by
  subst ht
  simp only [List.cons_append, Qcc] at h ⊢
  cases hb : QhO tv x.2 st with
  | none => rw [hb] at h; cases h
  | some st' =>
   rw [hb] at h
   exact Qii (l := l) (k := l ++ t) ⟨t, Z⟩ h
end Go.Pw
