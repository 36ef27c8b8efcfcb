/- -/
import Derived.Test.YtpjojkomdndamaaGreatDoorMsPv
set_option linter.unusedSimpArgs false
set_option linter.unusedVariables false
namespace Go.Pw
def Qmf (tv zs : List Int) (i : Nat) (st : List Int × Int) : Option (List Int × Int) := (QZ zs ((zs.length - 1 - i : Nat) : Int)).bind fun v => QhY tv v st
theorem Qkr {tv zs : List Int} {i : Nat} (hi : i < zs.length) (st : List Int × Int) : Qmf tv zs i st = QhY tv (Qan zs i).2 st := by
 unfold Qmf Qan
 have : QZ zs ((zs.length - 1 - i : Nat) : Int) = some (zs[zs.length - 1 - i]?.getD 0) := by
  unfold QZ
  rw [if_pos (by omega), Int.toNat_natCast]
  have h : zs.length - 1 - i < zs.length := by omega
  simp [h]
 rw [this]
 rfl
theorem Qiy {tv zs : List Int} : ∀ (k i : Nat), i + k ≤ zs.length → ∀ st, forS (Qmf tv zs) k i st = Qce tv ((List.range' i k).map (Qan zs)) st
 | 0, _, _, st => rfl
 | k + 1, i, h, st => by
  rw [List.range'_succ, List.map_cons]
  simp only [forS, Qce]
  rw [Qkr (by omega)]
  congr 1
  funext st'
  exact Qiy k (i + 1) (by omega) st'
theorem Qk4 {tv zs : List Int} (st : List Int × Int) : forS (Qmf tv zs) zs.length 0 st = Qce tv (YV (Qan zs) zs.length) st := by
 rw [Qiy zs.length 0 (by omega)]
 unfold YV
 rw [List.range_eq_range']
theorem Qit {tv : List Int} : ∀ {l k : List (Nat × Int)} {st r : List Int × Int}, l <+: k → Qce tv k st = some r → ∃ q, Qce tv l st = some q
 | [], _, st, _, _, _ => ⟨st, rfl⟩
 | x :: l, k, st, r, ⟨t, ht⟩, h => by
  subst ht
  simp only [List.cons_append, Qce] at h ⊢
  cases hb : QhY tv x.2 st with
  | none => rw [hb] at h; cases h
  | some st' =>
   rw [hb] at h
   exact Qit (l := l) (k := l ++ t) ⟨t, Z⟩ h
end Go.Pw
