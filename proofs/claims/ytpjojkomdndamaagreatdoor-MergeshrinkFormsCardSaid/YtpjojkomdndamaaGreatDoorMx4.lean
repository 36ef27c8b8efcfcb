/- -/
import Derived.Test.YtpjojkomdndamaaGreatDoorLC
import Derived.Test.YtpjojkomdndamaaGreatDoorMx3
import Derived.Test.YtpjojkomdndamaaGreatDoorMxZ
set_option maxRecDepth 100000
set_option maxHeartbeats 4000000
set_option linter.unusedVariables false
namespace Go.Pw
open Go.Proofs
theorem Qom : JL Tryz.prog 190 = some (Value.agg #[Value.pointer none, Value.slice none 0 0]) := by kernel_rfl
theorem Qe8 {w0 w : World} {s : PHeap} {H : List Res} {a : Int} {r : ByteArray} (hm : Qbu a = some r) (hS : St w0 s (H) w) :
  Calls Tryz.prog 169 #[U a] w fun e w' => ∃ v, e = .returned v ∧ ((fun (i : ByteArray) => ∃ (c : PHeap) , PHeap.le s c ∧ St w0 c (H) w' ∧ v = Value.string (i)) r) := by
 unfold Qbu at hm
 refine Qw Tryz.func169 Z Z (Zc (Zd (O Z Z (Zo (v := Value.string (⟨#[]⟩)) Z Z (Zb (V (Zc (Zc (Zd (O Z Z (Zm (v := U a) Z Z (O Z Z (Zq Z Z Z (Zb (V ?_)))))))))))))))
 rcases Qf hm with ⟨b, hm⟩ | ⟨b, hm⟩
 ·refine Qr Z b (Zc (Zd (O Z Z (Zm (v := U a) Z Z (O Z Z (Zm (v := U a) Z Z (O Z Z (Exec.add Z Z Z ?_))))))))
  obtain ⟨d, g, hm⟩ := Zg hm
  refine O Z Z (Qdp Tryz.underlying9 Z Z Z Z g (O Z Z (Zo (v := Value.string (d)) Z Z (Zb (V (Q0 (Qi ?_)))))))
  have j := Zu hm
  subst r
  refine ⟨_, QW Z, ?_⟩
  exact ⟨s, (Zv _), hS, Z⟩
 refine Qs Z b ?_
 replace b := Zk b
 refine Qq (V (Zc (Zd (O Z Z (Zm (v := U a) Z Z (O Z Z (Exec.mul Z Z Z (O Z Z (Zm (v := U a) Z Z (O Z Z (Exec.mul Z Z Z (O Z Z (Exec.add Z Z Z ?_)))))))))))))
 obtain ⟨f, h, hm⟩ := Zg hm
 refine O Z Z (Qdp Tryz.underlying9 Z Z Z Z h (O Z Z (Zo (v := Value.string (f)) Z Z (Zb (V (Q0 ?_))))))
 have k := Zu hm
 subst r
 refine ⟨_, QW Z, ?_⟩
 exact ⟨s, (Zv _), hS, Z⟩
theorem QcV {w0 w : World} {s : PHeap} {H : List Res} {a : Int} {g : Int} {r : ByteArray} (hm : YT a g = some r) (hS : St w0 s (H) w) :
  Calls Tryz.prog 164 #[U a, U g] w fun e w' => ∃ v, e = .returned v ∧ ((fun (u : ByteArray) => ∃ (i : PHeap) , PHeap.le s i ∧ St w0 i (H) w' ∧ v = Value.string (u)) r) := by
 unfold YT at hm
 refine Qw Tryz.func164 Z Z (Zc (Zd (O Z Z (Zo (v := Value.string (⟨#[]⟩)) Z Z (Zb (V (Zc (Zc (Zd (O Z Z (Zm (v := U g) Z Z (O Z Z (Exec.eql Z Z Z (Zb (V ?_)))))))))))))))
 rcases Qf hm with ⟨c, hm⟩ | ⟨c, hm⟩
 ·refine Qr Z c (Zc (Zc (QK (M := fun f' w' => ∃ (j : PHeap) , PHeap.le s j ∧ St w0 j (H) w' ∧ f' 0 = U a ∧ f' 17 = Vb (((decide (0 ≤ a)) && decide (a < 100)))) ?_ ?_)))
  ·refine Zd (O Z Z (Zm (v := U a) Z Z (O Z Z (Exec.leq Z Z Z (O Z Z (Zm (v := Vb (decide (0 ≤ a))) Z Z ?_))))))
   by_cases b : (decide (0 ≤ a)) = true
   ·refine Qj Z (Zf Z (Zx b)) Z (Zm (v := U a) Z Z (Qj Z (Zf Z (Zx b)) Z (Zq Z Z Z (O Z Z (Zs (v := Vb (decide (a < 100))) Z (Zx b) Z (Zb (V ?_)))))))
    exact ⟨s, (Zv _), hS, Z, (Zx (QnV b)).symm⟩
   replace b := Zk b
   refine Qx 3 (by rw [b]; rfl) ?_
   refine Zb (V ?_)
   exact ⟨s, (Zv _), hS, Z, (Zx (QnW b)).symm⟩
  intro z ab k
  obtain ⟨aa, n, l, p, h⟩ := k
  refine (V ?_)
  rcases Qf hm with ⟨d, hm⟩ | ⟨d, hm⟩
  ·refine Qr h d (Zc (Zd (O Z Z (Zm (v := U a) Z p ?_))))
   obtain ⟨x, q, hm⟩ := Zg hm
   refine O Z Z (Tc Z Z Z (Zi Z Qk) (Qe8 q l).r ?_)
   rintro _ ac ⟨t, o, m, rfl⟩
   refine O Z Z (Zo (v := Value.string (x)) Z Z (Zb (V (Q0 (Qi (Qi ?_))))))
   have y := Zu hm
   subst r
   refine ⟨_, QW Z, ?_⟩
   exact ⟨t, (Zt n o), m, Z⟩
  refine Qs h d ?_
  replace d := Zk d
  refine Qq (V (Zc ?_))
  cases hm
 refine Qs Z c ?_
 replace c := Zk c
 refine Qq (V (Zc ?_))
 cases hm
theorem Qdr {w0 w : World} {s : PHeap} {H : List Res} {a : Int} {r : ByteArray} (hm : Qal a = some r) (hS : St w0 s (H) w) :
  Calls Tryz.prog 151 #[U a] w fun e w' => ∃ v, e = .returned v ∧ ((fun (h : ByteArray) => ∃ (b : PHeap) , PHeap.le s b ∧ St w0 b (H) w' ∧ v = Value.string (h)) r) := by
 unfold Qal at hm
 refine Qw Tryz.func151 Z Z (Zc (Zd (O Z Z (Zo (v := Value.string (⟨#[]⟩)) Z Z (Zb (V (Zc (Zd (O Z Z (Zm (v := U a) Z Z ?_))))))))))
 obtain ⟨i, f, hm⟩ := Zg hm
 refine O Z Z (Tc Z Z Z (Zi Z (Zi Z Qk)) (QcV f hS).r ?_)
 rintro _ k ⟨g, d, c, rfl⟩
 refine O Z Z (Zo (v := Value.string (i)) Z Z (Zb (V (Q0 ?_))))
 have j := Zu hm
 subst r
 refine ⟨_, QW Z, ?_⟩
 exact ⟨g, d, c, Z⟩
theorem QaR {w0 w : World} {s : PHeap} {H : List Res} {a : Int} {r : ByteArray} (hm : KO a = some r) (hS : St w0 s (H) w) :
  Calls Tryz.prog 134 #[U a] w fun e w' => ∃ v, e = .returned v ∧ ((fun (h : ByteArray) => ∃ (b : PHeap) , PHeap.le s b ∧ St w0 b (H) w' ∧ v = Value.string (h)) r) := by
 unfold KO at hm
 refine Qw Tryz.func134 Z Z (Zc (Zd (O Z Z (Zo (v := Value.string (⟨#[]⟩)) Z Z (Zb (V (Zc (Zd (O Z Z (Zm (v := U a) Z Z ?_))))))))))
 obtain ⟨i, f, hm⟩ := Zg hm
 refine O Z Z (Tc Z Z Z (Zi Z Qk) (Qdr f hS).r ?_)
 rintro _ k ⟨g, d, c, rfl⟩
 refine O Z Z (Zo (v := Value.string (i)) Z Z (Zb (V (Q0 ?_))))
 have j := Zu hm
 subst r
 refine ⟨_, QW Z, ?_⟩
 exact ⟨g, d, c, Z⟩
end Go.Pw
