/- -/
import Derived.Test.YtpjojkomdndamaaGreatDoorLC
import Derived.Test.YtpjojkomdndamaaGreatDoorMx3
import Derived.Test.YtpjojkomdndamaaGreatDoorMxZ
set_option maxRecDepth 100000
set_option maxHeartbeats 4000000
set_option linter.unusedVariables false
namespace Go.Pw
open Go.Proofs
theorem Qoe : JB Tryz.prog 190 = some (Value.agg #[Value.pointer none, Value.slice none 0 0]) := by kernel_rfl
theorem Qe2 {w0 w : World} {s : PHeap} {H : List Res} {a : Int} {r : ByteArray} (hm : Qbk a = some r) (hS : St w0 s (H) w) :
  Calls Tryz.prog 169 #[U a] w fun e w' => ∃ v, e = .returned v ∧ ((fun (i : ByteArray) => ∃ (c : PHeap) , PHeap.le s c ∧ St w0 c (H) w' ∧ v = Value.string (i)) r) := by
 unfold Qbk at hm
 refine Qx Tryz.func169 Z Z (Zc (Zd (O Z Z (Zo (v := Value.string (⟨#[]⟩)) Z Z (Zb (V (Zc (Zc (Zd (O Z Z (Zm (v := U a) Z Z (O Z Z (Zq Z Z Z (Zb (V ?_)))))))))))))))
 rcases Qg hm with ⟨b, hm⟩ | ⟨b, hm⟩
 ·refine Qt Z b (Zc (Zd (O Z Z (Zm (v := U a) Z Z (O Z Z (Zm (v := U a) Z Z (O Z Z (Exec.add Z Z Z ?_))))))))
  obtain ⟨d, g, hm⟩ := Zg hm
  refine O Z Z (Qdb Tryz.underlying9 Z Z Z Z g (O Z Z (Zo (v := Value.string (d)) Z Z (Zb (V (Q0 (Qh ?_)))))))
  have j := Zu hm
  subst r
  refine ⟨_, QU Z, ?_⟩
  exact ⟨s, (Zv _), hS, Z⟩
 refine Qu Z b ?_
 replace b := Zk b
 refine Qp (V (Zc (Zd (O Z Z (Zm (v := U a) Z Z (O Z Z (Exec.mul Z Z Z (O Z Z (Zm (v := U a) Z Z (O Z Z (Exec.mul Z Z Z (O Z Z (Exec.add Z Z Z ?_)))))))))))))
 obtain ⟨f, h, hm⟩ := Zg hm
 refine O Z Z (Qdb Tryz.underlying9 Z Z Z Z h (O Z Z (Zo (v := Value.string (f)) Z Z (Zb (V (Q0 ?_))))))
 have k := Zu hm
 subst r
 refine ⟨_, QU Z, ?_⟩
 exact ⟨s, (Zv _), hS, Z⟩
theorem QcK {w0 w : World} {s : PHeap} {H : List Res} {a : Int} {g : Int} {r : ByteArray} (hm : YH a g = some r) (hS : St w0 s (H) w) :
  Calls Tryz.prog 164 #[U a, U g] w fun e w' => ∃ v, e = .returned v ∧ ((fun (u : ByteArray) => ∃ (i : PHeap) , PHeap.le s i ∧ St w0 i (H) w' ∧ v = Value.string (u)) r) := by
 unfold YH at hm
 refine Qx Tryz.func164 Z Z (Zc (Zd (O Z Z (Zo (v := Value.string (⟨#[]⟩)) Z Z (Zb (V (Zc (Zc (Zd (O Z Z (Zm (v := U g) Z Z (O Z Z (Exec.eql Z Z Z (Zb (V ?_)))))))))))))))
 rcases Qg hm with ⟨c, hm⟩ | ⟨c, hm⟩
 ·refine Qt Z c (Zc (Zc (QI (M := fun f' w' => ∃ (j : PHeap) , PHeap.le s j ∧ St w0 j (H) w' ∧ f' 0 = U a ∧ f' 17 = Vb (((decide (0 ≤ a)) && decide (a < 100)))) ?_ ?_)))
  ·refine Zd (O Z Z (Zm (v := U a) Z Z (O Z Z (Exec.leq Z Z Z (O Z Z (Zm (v := Vb (decide (0 ≤ a))) Z Z ?_))))))
   by_cases b : (decide (0 ≤ a)) = true
   ·refine Qo Z (Zf Z (Zx b)) Z (Zm (v := U a) Z Z (Qo Z (Zf Z (Zx b)) Z (Zq Z Z Z (O Z Z (Zs (v := Vb (decide (a < 100))) Z (Zx b) Z (Zb (V ?_)))))))
    exact ⟨s, (Zv _), hS, Z, (Zx (QmZ b)).symm⟩
   replace b := Zk b
   refine Qz 3 (by rw [b]; rfl) ?_
   refine Zb (V ?_)
   exact ⟨s, (Zv _), hS, Z, (Zx (Qna b)).symm⟩
  intro z ab k
  obtain ⟨aa, n, l, p, h⟩ := k
  refine (V ?_)
  rcases Qg hm with ⟨d, hm⟩ | ⟨d, hm⟩
  ·refine Qt h d (Zc (Zd (O Z Z (Zm (v := U a) Z p ?_))))
   obtain ⟨x, q, hm⟩ := Zg hm
   refine O Z Z (Tc Z Z Z (Zi Z Ql) (Qe2 q l).r ?_)
   rintro _ ac ⟨t, o, m, rfl⟩
   refine O Z Z (Zo (v := Value.string (x)) Z Z (Zb (V (Q0 (Qh (Qh ?_))))))
   have y := Zu hm
   subst r
   refine ⟨_, QU Z, ?_⟩
   exact ⟨t, (Zt n o), m, Z⟩
  refine Qu h d ?_
  replace d := Zk d
  refine Qp (V (Zc ?_))
  cases hm
 refine Qu Z c ?_
 replace c := Zk c
 refine Qp (V (Zc ?_))
 cases hm
theorem Qde {w0 w : World} {s : PHeap} {H : List Res} {a : Int} {r : ByteArray} (hm : Qaa a = some r) (hS : St w0 s (H) w) :
  Calls Tryz.prog 151 #[U a] w fun e w' => ∃ v, e = .returned v ∧ ((fun (h : ByteArray) => ∃ (b : PHeap) , PHeap.le s b ∧ St w0 b (H) w' ∧ v = Value.string (h)) r) := by
 unfold Qaa at hm
 refine Qx Tryz.func151 Z Z (Zc (Zd (O Z Z (Zo (v := Value.string (⟨#[]⟩)) Z Z (Zb (V (Zc (Zd (O Z Z (Zm (v := U a) Z Z ?_))))))))))
 obtain ⟨i, f, hm⟩ := Zg hm
 refine O Z Z (Tc Z Z Z (Zi Z (Zi Z Ql)) (QcK f hS).r ?_)
 rintro _ k ⟨g, d, c, rfl⟩
 refine O Z Z (Zo (v := Value.string (i)) Z Z (Zb (V (Q0 ?_))))
 have j := Zu hm
 subst r
 refine ⟨_, QU Z, ?_⟩
 exact ⟨g, d, c, Z⟩
theorem QaK {w0 w : World} {s : PHeap} {H : List Res} {a : Int} {r : ByteArray} (hm : KC a = some r) (hS : St w0 s (H) w) :
  Calls Tryz.prog 134 #[U a] w fun e w' => ∃ v, e = .returned v ∧ ((fun (h : ByteArray) => ∃ (b : PHeap) , PHeap.le s b ∧ St w0 b (H) w' ∧ v = Value.string (h)) r) := by
 unfold KC at hm
 refine Qx Tryz.func134 Z Z (Zc (Zd (O Z Z (Zo (v := Value.string (⟨#[]⟩)) Z Z (Zb (V (Zc (Zd (O Z Z (Zm (v := U a) Z Z ?_))))))))))
 obtain ⟨i, f, hm⟩ := Zg hm
 refine O Z Z (Tc Z Z Z (Zi Z Ql) (Qde f hS).r ?_)
 rintro _ k ⟨g, d, c, rfl⟩
 refine O Z Z (Zo (v := Value.string (i)) Z Z (Zb (V (Q0 ?_))))
 have j := Zu hm
 subst r
 refine ⟨_, QU Z, ?_⟩
 exact ⟨g, d, c, Z⟩
end Go.Pw
