/-
  The walks (printed by my generator).
-/
import Derived.Test.YtkfcbmecmdpilaaL29
import Derived.Test.YtkfcbmecmdpilaaL27
import Derived.Test.YtkfcbmecmdpilaaSx7
import Derived.Test.YtkfcbmecmdpilaaL39
set_option maxRecDepth 100000
set_option maxHeartbeats 4000000
set_option linter.unusedVariables false
namespace Go.Pw
open Go.Proofs
theorem ref18_SameState_sim {w0 w : World} {s : PHeap} {H : List Res} {h : GState} {i : GState} {k : Value} {l : Value} {m : Value} {n : Value} {r : Bool} (hm : ref18_SameState_p h i = some r) (hS : St w0 s (H) w) (q : SliceRep (encInt .i64) s k h.True) (t : SliceRep (encInt .i64) s l h.Values) (u : SliceRep (encInt .i64) s m i.True) (x : SliceRep (encInt .i64) s n i.Values) :
  Calls Try.prog 26 #[Value.agg #[k, l], Value.agg #[m, n]] w fun e w' => ∃ v, e = .returned v ∧ ((fun (ak : Bool) => ∃ (o : PHeap) , PHeap.le s o ∧ St w0 o (H) w' ∧ v = Value.bool (ak)) r) := by
 unfold ref18_SameState_p at hm
 refine calls_of_W Try.func26 rfl rfl (Zc (Zd (Za rfl rfl (Exec.box (cs := [k, l]) hS rfl rfl rfl ?_))))
 intro am au z
 refine Za rfl rfl (Exec.box (cs := [m, n]) z rfl rfl rfl ?_)
 intro an av j
 refine Za rfl rfl (Zo (v := Value.bool (false)) rfl rfl (Zb (Ze (Zc ?_))))
 obtain ⟨c, b, hm⟩ := Zg hm
 refine W_mid (M := fun f' w' => (fun (c : Bool) => ∃ (p : PHeap) , PHeap.le s p ∧ St w0 p (H) w' ∧ f' 4 = Value.bool (c)) c) ?_ ?_
 ·refine Zd (Za rfl rfl (Zp F69_0 rfl rfl rfl (Za rfl rfl (Zn ((j).f1) A24 rfl rfl rfl (Za rfl rfl (Zp F69_0 rfl rfl rfl (Za rfl rfl (Zn (j) A24 rfl rfl rfl ?_))))))))
  obtain ⟨al, af, b⟩ := Zg b
  refine Za rfl rfl (Tc rfl rfl rfl (Zi rfl (Zi rfl args_nil)) (ref18_ints_sim af j q u).r ?_)
  rintro _ aw ⟨ah, g, d, rfl⟩
  refine Za rfl rfl (Zm (v := Value.bool (al)) rfl rfl ?_)
  rcases ite_some b with ⟨a, b⟩ | ⟨a, b⟩
  ·refine WL_run rfl (Zf rfl (Zx a)) rfl (Zp F69_1 rfl rfl rfl (WL_run rfl (Zf rfl (Zx a)) rfl (Zn ((d).f1) A24 rfl rfl rfl (WL_run rfl (Zf rfl (Zx a)) rfl (Zp F69_1 rfl rfl rfl (WL_run rfl (Zf rfl (Zx a)) rfl (Zn (d) A24 rfl rfl rfl ?_)))))))
   obtain ⟨az, ag, b⟩ := Zg b
   refine WL_run rfl (Zf rfl (Zx a)) rfl (Tc rfl rfl rfl (Zi rfl (Zi rfl args_nil)) (ref18_ints_sim ag d (t.mono g) (x.mono g)).r ?_)
   rintro _ ax ⟨ai, ac, aa, rfl⟩
   refine WL_passes 2 (by rw [a]; rfl) ?_
   refine Zb (Ze ?_)
   have ao := Zu b
   subst c
   exact ⟨ai, (Zt g ac), ((aa).drop).drop, rfl⟩
  replace a := Zk a
  refine WL_passes 7 (by rw [a]; rfl) ?_
  refine Zb (Ze ?_)
  have ap := Zu b
  subst c
  exact ⟨ah, g, ((d).drop).drop, rfl⟩
 intro ar ay y
 obtain ⟨aj, ad, ab, ae⟩ := y
 refine (Ze (W_ret ?_))
 have aq := Zu hm
 subst r
 refine ⟨_, ret1 rfl, ?_⟩
 exact ⟨aj, ad, ab, ae⟩
end Go.Pw
