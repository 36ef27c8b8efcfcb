/- -/
import Derived.Test.YtpjojkomdndamaaGreatDoorMsPv
set_option linter.unusedSimpArgs false
set_option linter.unusedVariables false
namespace Go.Pw
def Qmq (tv zs : List Int) (i : Nat) (st : List Int × Int) : Option (List Int × Int) := (Jc zs ((zs.length - 1 - i : Nat) : Int)).bind fun v => Qid tv v st
theorem Qkz {tv zs : List Int} {i : Nat} (hi : i < zs.length) (st : List Int × Int) : Qmq tv zs i st = Qid tv (Qav zs i).2 st := by
 unfold Qmq Qav
 have : Jc zs ((zs.length - 1 - i : Nat) : Int) = some (zs[zs.length - 1 - i]?.getD 0) := by
  unfold Jc
  rw [if_pos (by omega), Int.toNat_natCast]
  have h : zs.length - 1 - i < zs.length := by omega
  simp [h]
 rw [this]
 rfl
theorem Qi4 {tv zs : List Int} : ∀ (k i : Nat), i + k ≤ zs.length → ∀ st, forS (Qmq tv zs) k i st = Qcm tv ((List.range' i k).map (Qav zs)) st
 | 0, _, _, st => rfl
 | k + 1, i, h, st => by
  rw [List.range'_succ, List.map_cons]
  simp only [forS, Qcm]
  rw [Qkz (by omega)]
  congr 1
  funext st'
  exact Qi4 k (i + 1) (by omega) st'
theorem QkD {tv zs : List Int} (st : List Int × Int) : forS (Qmq tv zs) zs.length 0 st = Qcm tv (Qai (Qav zs) zs.length) st := by
 rw [Qi4 zs.length 0 (by omega)]
 unfold Qai
 rw [List.range_eq_range']
theorem Qiy {tv : List Int} : ∀ {l k : List (Nat × Int)} {st r : List Int × Int}, l <+: k → Qcm tv k st = some r → ∃ q, Qcm tv l st = some q
 | [], _, st, _, _, _ => ⟨st, rfl⟩
 | x :: l, k, st, r, ⟨t, ht⟩, h => by
  subst ht
  simp only [List.cons_append, Qcm] at h ⊢
  cases hb : Qid tv x.2 st with
  | none => rw [hb] at h; cases h
  | some st' =>
   rw [hb] at h
   exact Qiy (l := l) (k := l ++ t) ⟨t, Z⟩ h
end Go.Pw
