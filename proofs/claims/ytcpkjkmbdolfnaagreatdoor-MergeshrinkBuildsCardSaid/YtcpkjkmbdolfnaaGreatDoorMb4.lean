/- -/
import Derived.Test.YtcpkjkmbdolfnaaGreatDoorLD
import Derived.Test.YtcpkjkmbdolfnaaGreatDoorMb3
import Derived.Test.YtcpkjkmbdolfnaaGreatDoorMbZ
set_option maxRecDepth 100000
set_option maxHeartbeats 4000000
set_option linter.unusedVariables false
namespace Go.Pw
open Go.Proofs
attribute [local irreducible] Exec WL W andThen Y2 DL QW
theorem QoW : Jp Tryz.prog 179 = some (Value.agg #[Value.pointer none, Value.slice none 0 0]) := by kernel_rfl
theorem QeN {w0 w : World} {s : PHeap} {H : List Res} {a : Int} {r : ByteArray} (hm : Qbw a = some r) (hS : St w0 s (H) w) :
  Calls Tryz.prog 157 #[O a] w fun e w' => ∃ v, e = .returned v ∧ ((fun (g : ByteArray) => ∃ (b : PHeap) , PHeap.le s b ∧ St w0 b (H) w' ∧ v = Value.string (g)) r) := by
 unfold Qbw at hm
 refine Qj Tryz.func157 Z Z (G ?_)
 rcases Qp hm with ⟨c, hm⟩ | ⟨c, hm⟩
 ·obtain ⟨h, d, hm⟩ := V hm
  refine G ?_
  refine Qdl Tryz.underlying9 Z Z Z Z d ?_
  cases hm
  refine G ?_
  exact fr
 obtain ⟨i, f, hm⟩ := V hm
 refine G ?_
 refine Qdl Tryz.underlying9 Z Z Z Z f ?_
 cases hm
 refine G ?_
 exact fr
theorem QcR {w0 w : World} {s : PHeap} {H : List Res} {a : Int} {b : Int} {r : ByteArray} (hm : YR a b = some r) (hS : St w0 s (H) w) :
  Calls Tryz.prog 152 #[O a, O b] w fun e w' => ∃ v, e = .returned v ∧ ((fun (m : ByteArray) => ∃ (d : PHeap) , PHeap.le s d ∧ St w0 d (H) w' ∧ v = Value.string (m)) r) := by
 unfold YR at hm
 refine Qj Tryz.func152 Z Z (G ?_)
 rcases Qp hm with ⟨c, hm⟩ | ⟨c, hm⟩
 ·refine W_c Z c (QlG (Zc (Zc (Qo (M := fun f' w' => ∃ (g : PHeap) , PHeap.le s g ∧ St w0 g (H) w' ∧ Fx f' [(0, O a), (17, Vb (((decide (0 ≤ a)) && decide (a < 100))))]) ?_ ?_))))
  ·refine G ?_
   rcases tf (decide (0 ≤ a)) with j | j
   ·refine G ?_
    exact fq
   refine G ?_
   exact fq
  intro n y h
  obtain ⟨u, q, i, ⟨o, rfl⟩⟩ := h
  refine G ?_
  rcases Qp hm with ⟨k, hm⟩ | ⟨k, hm⟩
  ·obtain ⟨aa, l, hm⟩ := V hm
   refine G ?_
   refine Tc Z Z Z Z (QeN l i).r ?_
   rintro _ z ⟨x, t, p, rfl⟩
   cases hm
   refine G ?_
   exact fr
  refine G ?_
  cases hm
 refine G ?_
 cases hm
theorem Qdn {w0 w : World} {s : PHeap} {H : List Res} {a : Int} {r : ByteArray} (hm : Qan a = some r) (hS : St w0 s (H) w) :
  Calls Tryz.prog 139 #[O a] w fun e w' => ∃ v, e = .returned v ∧ ((fun (d : ByteArray) => ∃ (b : PHeap) , PHeap.le s b ∧ St w0 b (H) w' ∧ v = Value.string (d)) r) := by
 unfold Qan at hm
 refine Qj Tryz.func139 Z Z ?_
 obtain ⟨j, c, hm⟩ := V hm
 refine G ?_
 refine Tc Z Z Z Z (QcR c hS).r ?_
 rintro _ i ⟨h, g, f, rfl⟩
 cases hm
 refine G ?_
 exact fr
theorem QaT {w0 w : World} {s : PHeap} {H : List Res} {a : Int} {r : ByteArray} (hm : K4 a = some r) (hS : St w0 s (H) w) :
  Calls Tryz.prog 122 #[O a] w fun e w' => ∃ v, e = .returned v ∧ ((fun (d : ByteArray) => ∃ (b : PHeap) , PHeap.le s b ∧ St w0 b (H) w' ∧ v = Value.string (d)) r) := by
 unfold K4 at hm
 refine Qj Tryz.func122 Z Z ?_
 obtain ⟨j, c, hm⟩ := V hm
 refine G ?_
 refine Tc Z Z Z Z (Qdn c hS).r ?_
 rintro _ i ⟨h, g, f, rfl⟩
 cases hm
 refine G ?_
 exact fr
end Go.Pw
