/- -/
import Derived.Test.YtjbjflndiajoiaaGreatDoorLD
import Derived.Test.YtjbjflndiajoiaaGreatDoorWa3
import Derived.Test.YtjbjflndiajoiaaGreatDoorWaZ
set_option maxRecDepth 100000
set_option maxHeartbeats 4000000
set_option linter.unusedVariables false
namespace Go.Pw
open Go.Proofs
attribute [local irreducible] Exec WL W andThen Qax DL QX
theorem Qqf : Ji Tryz.prog 173 = some (Value.agg #[Value.pointer none, Value.slice none 0 0]) := by kernel_rfl
theorem QfN {w0 w : World} {s : PHeap} {H : List Res} {a : Int} {r : ByteArray} (hm : Qcl a = some r) (hS : St w0 s (H) w) :
  Calls Tryz.prog 190 #[O a] w fun e w' => ∃ v, e = .returned v ∧ ((fun (g : ByteArray) => ∃ (b : PHeap) , PHeap.le s b ∧ St w0 b (H) w' ∧ v = Value.string (g)) r) := by
 unfold Qcl at hm
 refine Qd Tryz.func190 Z Z (G ?_)
 rcases Qs hm with ⟨c, hm⟩ | ⟨c, hm⟩
 ·obtain ⟨h, d, hm⟩ := V hm
  refine G ?_
  refine Qev Tryz.underlying9 Z Z Z Z d ?_
  cases hm
  refine G ?_
  exact fr
 obtain ⟨i, f, hm⟩ := V hm
 refine G ?_
 refine Qev Tryz.underlying9 Z Z Z Z f ?_
 cases hm
 refine G ?_
 exact fr
theorem QdZ {w0 w : World} {s : PHeap} {H : List Res} {a : Int} {b : Int} {r : ByteArray} (hm : Qaz a b = some r) (hS : St w0 s (H) w) :
  Calls Tryz.prog 168 #[O a, O b] w fun e w' => ∃ v, e = .returned v ∧ ((fun (m : ByteArray) => ∃ (d : PHeap) , PHeap.le s d ∧ St w0 d (H) w' ∧ v = Value.string (m)) r) := by
 unfold Qaz at hm
 refine Qd Tryz.func168 Z Z (G ?_)
 rcases Qs hm with ⟨c, hm⟩ | ⟨c, hm⟩
 ·refine W_c Z c (Qo1 (Zc (Zc (Qp (M := fun f' w' => ∃ (g : PHeap) , PHeap.le s g ∧ St w0 g (H) w' ∧ Fx f' [(0, O a), (17, Vb (((decide (0 ≤ a)) && decide (a < 100))))]) ?_ ?_))))
  ·refine G ?_
   rcases tf (decide (0 ≤ a)) with j | j
   ·refine G ?_
    exact fq
   refine G ?_
   exact fq
  intro n y h
  obtain ⟨u, q, i, ⟨o, rfl⟩⟩ := h
  refine G ?_
  rcases Qs hm with ⟨k, hm⟩ | ⟨k, hm⟩
  ·obtain ⟨aa, l, hm⟩ := V hm
   refine G ?_
   refine Tc Z Z Z Z (QfN l i).r ?_
   rintro _ z ⟨x, t, p, rfl⟩
   cases hm
   refine G ?_
   exact fr
  refine G ?_
  cases hm
 refine G ?_
 cases hm
theorem Qex {w0 w : World} {s : PHeap} {H : List Res} {a : Int} {r : ByteArray} (hm : QaP a = some r) (hS : St w0 s (H) w) :
  Calls Tryz.prog 134 #[O a] w fun e w' => ∃ v, e = .returned v ∧ ((fun (d : ByteArray) => ∃ (b : PHeap) , PHeap.le s b ∧ St w0 b (H) w' ∧ v = Value.string (d)) r) := by
 unfold QaP at hm
 refine Qd Tryz.func134 Z Z ?_
 obtain ⟨j, c, hm⟩ := V hm
 refine G ?_
 refine Tc Z Z Z Z (QdZ c hS).r ?_
 rintro _ i ⟨h, g, f, rfl⟩
 cases hm
 refine G ?_
 exact fr
theorem Kk {w0 w : World} {s : PHeap} {H : List Res} {a : Int} {r : ByteArray} (hm : J8 a = some r) (hS : St w0 s (H) w) :
  Calls Tryz.prog 95 #[O a] w fun e w' => ∃ v, e = .returned v ∧ ((fun (d : ByteArray) => ∃ (b : PHeap) , PHeap.le s b ∧ St w0 b (H) w' ∧ v = Value.string (d)) r) := by
 unfold J8 at hm
 refine Qd Tryz.func95 Z Z ?_
 obtain ⟨j, c, hm⟩ := V hm
 refine G ?_
 refine Tc Z Z Z Z (Qex c hS).r ?_
 rintro _ i ⟨h, g, f, rfl⟩
 cases hm
 refine G ?_
 exact fr
end Go.Pw
