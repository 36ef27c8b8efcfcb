/-
  The walks (printed by my generator).
-/
import Derived.Test.YthbgcahoknmmmaaGreatL33
import Derived.Test.YthbgcahoknmmmaaGreatL29
import Derived.Test.YthbgcahoknmmmaaGreatL27
import Derived.Test.YthbgcahoknmmmaaGreatRzP
import Derived.Test.YthbgcahoknmmmaaGreatL8
import Derived.Test.YthbgcahoknmmmaaGreatL9
import Derived.Test.YthbgcahoknmmmaaGreatL12
import Derived.Test.YthbgcahoknmmmaaGreatL14
import Derived.Test.YthbgcahoknmmmaaGreatL21
import Derived.Test.YthbgcahoknmmmaaGreatL16
import Derived.Test.YthbgcahoknmmmaaGreatL19
import Derived.Test.YthbgcahoknmmmaaGreatL23
import Derived.Test.YthbgcahoknmmmaaGreatL26
import Derived.Test.YthbgcahoknmmmaaGreatL31
import Derived.Test.YthbgcahoknmmmaaGreatL34
import Derived.Test.YthbgcahoknmmmaaGreatL35
import Derived.Test.YthbgcahoknmmmaaGreatL36
import Derived.Test.YthbgcahoknmmmaaGreatL38
import Derived.Test.YthbgcahoknmmmaaGreatL39
import Derived.Test.YthbgcahoknmmmaaGreatL40
import Derived.Test.YthbgcahoknmmmaaGreatL41
import Derived.Test.YthbgcahoknmmmaaGreatL42
import Derived.Test.YthbgcahoknmmmaaGreatProg
import Derived.KernelRfl
set_option maxRecDepth 100000
set_option maxHeartbeats 4000000
set_option linter.unusedVariables false
namespace Go.Pw
open Go.Proofs
theorem okAll : okCallees Tryz.prog 139 [0, 1, 122, 123, 124, 125, 126, 127, 128, 129, 130, 131, 132, 133, 134, 135, 136, 137, 138] = true := by kernel_rfl
theorem Tc {ρ : Operand → Value} {o : Oper} {w : World} {K : Value → World → Prop} {Q : Value → World → Prop} {f : FuncId} {args : List Operand} {ts : Array TypeId} {vs : List Value} (ho : o.op = .call { callee := .value (.func f), args := args.toArray, argTypes := ts }) (hc : ρ (.func f) = .func (.func f) #[] #[]) (hlt : okAt 139 [0, 1, 122, 123, 124, 125, 126, 127, 128, 129, 130, 131, 132, 133, 134, 135, 136, 137, 138] f = true) (hargs : List.map ρ args = vs) (h : Calls Tryz.prog f vs.toArray w fun e w' => ∃ v, e = .returned v ∧ Q v w') (hk : ∀ v w', Q v w' → K v w') : Exec Tryz.prog ρ o w K := Exec.callR okAll ho hc hlt hargs h hk
theorem Z26 : tyZero Tryz.prog 26 = some (Value.agg #[Value.slice none 0 0, Value.slice none 0 0, Value.slice none 0 0, Value.slice none 0 0]) := by kernel_rfl
theorem A26 : tyAgg Tryz.prog 26 = some (true, 4) := by kernel_rfl
theorem law58_lamp_sim {w0 w : World} {s : PHeap} {H : List Res}   {r : Temporal} (hm : law58_lamp_p  = some r) (hS : St w0 s (H) w)  :
  Calls Tryz.prog 14 #[] w fun e w' => ∃ v, e = .returned v ∧ ((fun (y24 : Temporal) => ∃ (f : PHeap) (p : Value) (q : Value) (t : Value) (u : Value), PHeap.le s f ∧ St w0 f (H) w' ∧ v = Value.agg #[p, q, t, u] ∧ SliceRep (encInt .i64) f p y24.Vars ∧ SliceRep (encInt .i64) f q y24.Init ∧ SliceRep encFact f t y24.Goal ∧ SliceRep encJob f u y24.Jobs) r) := by
 unfold law58_lamp_p at hm
 refine calls_of_W Tryz.func14 rfl rfl (Zc (Zd (Za rfl rfl (Exec.alloc (cs := [Value.slice none 0 0, Value.slice none 0 0, Value.slice none 0 0, Value.slice none 0 0]) hS Z26 rfl rfl ?_))))
 intro au a0 x
 refine Zb (Ze (Zc (Zd (Za rfl rfl (Exec.build rfl (parts_cons (c := [Vi (0)]) (cells_of rfl rfl) parts_nil) (v := Value.agg #[Vi (0), Vi (0)]) (fun _ => by kernel_rfl) (Za rfl rfl (Exec.buildSlice (Te := 75) (cs := [Vi (0), Vi (0)]) x rfl (parts_cons (c := [Vi (0), Vi (0)]) (cells_of rfl rfl) parts_nil) (fun _ => by kernel_rfl) ?_)))))))
 intro a a1 y
 refine Za rfl rfl (Exec.build rfl (parts_cons (c := [Vi (1)]) (cells_of rfl rfl) parts_nil) (v := Value.agg #[Vi (0), Vi (1)]) (fun _ => by kernel_rfl) (Za rfl rfl (Exec.buildSlice (Te := 75) (cs := [Vi (0), Vi (1)]) y rfl (parts_cons (c := [Vi (0), Vi (1)]) (cells_of rfl rfl) parts_nil) (fun _ => by kernel_rfl) ?_)))
 intro b a2 z
 refine Za rfl rfl (Zo (v := Value.slice (some ⟨a, 0, none⟩) 1 1) rfl rfl (Za rfl rfl (Zo (v := Value.slice (some ⟨b, 0, none⟩) 1 1) rfl rfl (Zb (Ze (Zc (Zd (Za rfl rfl (Exec.buildSlice (Te := 3) (cs := [Vi (2)]) z rfl (parts_cons (c := [Vi (2)]) (cells_of rfl rfl) parts_nil) (fun _ => by kernel_rfl) ?_)))))))))
 intro g a3 aa
 refine Za rfl rfl (Exec.buildSlice (Te := 3) (cs := [Vi (0)]) aa rfl (parts_cons (c := [Vi (0)]) (cells_of rfl rfl) parts_nil) (fun _ => by kernel_rfl) ?_)
 intro h a4 ab
 refine Za rfl rfl (Zm (v := Value.slice (some ⟨a, 0, none⟩) 1 1) rfl rfl (Za rfl rfl (Zm (v := Value.slice (some ⟨a, 0, none⟩) 1 1) rfl rfl (Za rfl rfl (Zm (v := Value.slice (some ⟨b, 0, none⟩) 1 1) rfl rfl (Za rfl rfl (Zm (v := Value.slice (some ⟨b, 0, none⟩) 1 1) rfl rfl (Za rfl rfl (Zm (v := Value.slice (some ⟨a, 0, none⟩) 1 1) rfl rfl (Za rfl rfl (Exec.build rfl (parts_cons (c := [Value.string (⟨#[108, 105, 103, 104, 116]⟩)]) (cells_of rfl rfl) (parts_cons (c := [Vi (3)]) (cells_of rfl rfl) (parts_cons (c := [Value.slice (some ⟨a, 0, none⟩) 1 1]) (cells_of rfl rfl) (parts_cons (c := [Value.slice (some ⟨b, 0, none⟩) 1 1]) (cells_of rfl rfl) (parts_cons (c := [Value.slice (some ⟨b, 0, none⟩) 1 1]) (cells_of rfl rfl) (parts_cons (c := [Value.slice (some ⟨a, 0, none⟩) 1 1]) (cells_of rfl rfl) parts_nil)))))) (v := Value.agg #[Value.string (⟨#[108, 105, 103, 104, 116]⟩), Vi (3), Value.slice (some ⟨a, 0, none⟩) 1 1, Value.slice (some ⟨b, 0, none⟩) 1 1, Value.slice none 0 0, Value.slice (some ⟨b, 0, none⟩) 1 1, Value.slice (some ⟨a, 0, none⟩) 1 1]) (fun _ => by kernel_rfl) (Za rfl rfl (Zm (v := Value.slice (some ⟨a, 0, none⟩) 1 1) rfl rfl (Za rfl rfl (Exec.build rfl (parts_cons (c := [Value.string (⟨#[100, 97, 114, 107]⟩)]) (cells_of rfl rfl) (parts_cons (c := [Vi (1)]) (cells_of rfl rfl) (parts_cons (c := [Value.slice (some ⟨a, 0, none⟩) 1 1]) (cells_of rfl rfl) parts_nil))) (v := Value.agg #[Value.string (⟨#[100, 97, 114, 107]⟩), Vi (1), Value.slice none 0 0, Value.slice none 0 0, Value.slice none 0 0, Value.slice (some ⟨a, 0, none⟩) 1 1, Value.slice none 0 0]) (fun _ => by kernel_rfl) ?_)))))))))))))))
 have ac := St.boxArr (E := encFact) (xs := [(⟨0, 0⟩ : Fact)]) (ab).f3 ⟨[Vi (0), Vi (0)], [], rfl, ⟨[Vi (0)], [Vi (0)], rfl, rfl, rfl⟩, rfl⟩ (by simp [maxLen])
 obtain ⟨aw, an, ad, j⟩ := ac.freezeArr
 have ae := St.boxArr (E := encFact) (xs := [(⟨0, 1⟩ : Fact)]) (ad).f2 ⟨[Vi (0), Vi (1)], [], rfl, ⟨[Vi (0)], [Vi (1)], rfl, rfl, rfl⟩, rfl⟩ (by simp [maxLen])
 obtain ⟨ax, d, af, o⟩ := ae.freezeArr
 refine Za rfl rfl (Exec.buildSlice (Te := 59) (cs := [Value.string (⟨#[108, 105, 103, 104, 116]⟩), Vi (3), Value.slice (some ⟨a, 0, none⟩) 1 1, Value.slice (some ⟨b, 0, none⟩) 1 1, Value.slice none 0 0, Value.slice (some ⟨b, 0, none⟩) 1 1, Value.slice (some ⟨a, 0, none⟩) 1 1, Value.string (⟨#[100, 97, 114, 107]⟩), Vi (1), Value.slice none 0 0, Value.slice none 0 0, Value.slice none 0 0, Value.slice (some ⟨a, 0, none⟩) 1 1, Value.slice none 0 0]) af rfl (parts_cons (c := [Value.string (⟨#[108, 105, 103, 104, 116]⟩), Vi (3), Value.slice (some ⟨a, 0, none⟩) 1 1, Value.slice (some ⟨b, 0, none⟩) 1 1, Value.slice none 0 0, Value.slice (some ⟨b, 0, none⟩) 1 1, Value.slice (some ⟨a, 0, none⟩) 1 1]) (cells_of rfl rfl) (parts_cons (c := [Value.string (⟨#[100, 97, 114, 107]⟩), Vi (1), Value.slice none 0 0, Value.slice none 0 0, Value.slice none 0 0, Value.slice (some ⟨a, 0, none⟩) 1 1, Value.slice none 0 0]) (cells_of rfl rfl) parts_nil)) (fun _ => by kernel_rfl) ?_)
 intro i a5 ag
 refine Za rfl rfl (Exec.build rfl (parts_cons (c := [Value.slice (some ⟨g, 0, none⟩) 1 1]) (cells_of rfl rfl) (parts_cons (c := [Value.slice (some ⟨h, 0, none⟩) 1 1]) (cells_of rfl rfl) (parts_cons (c := [Value.slice (some ⟨a, 0, none⟩) 1 1]) (cells_of rfl rfl) (parts_cons (c := [Value.slice (some ⟨i, 0, none⟩) 2 2]) (cells_of rfl rfl) parts_nil)))) (v := Value.agg #[Value.slice (some ⟨g, 0, none⟩) 1 1, Value.slice (some ⟨h, 0, none⟩) 1 1, Value.slice (some ⟨a, 0, none⟩) 1 1, Value.slice (some ⟨i, 0, none⟩) 2 2]) (fun _ => by kernel_rfl) (Za rfl rfl (Exec.store_box (ds := [Value.slice (some ⟨g, 0, none⟩) 1 1, Value.slice (some ⟨h, 0, none⟩) 1 1, Value.slice (some ⟨a, 0, none⟩) 1 1, Value.slice (some ⟨i, 0, none⟩) 2 2]) (es := [Value.slice (some ⟨g, 0, none⟩) 1 1, Value.slice (some ⟨h, 0, none⟩) 1 1, Value.slice (some ⟨a, 0, none⟩) 1 1, Value.slice (some ⟨i, 0, none⟩) 2 2]) (ag).f3 A26 rfl rfl rfl rfl (Zj rfl (Zj rfl (Zj ((j.mono d)).one (Zj rfl one_nil)))) (Nat.le_of_ble_eq_true rfl) rfl ?_)))
 intro a6 n
 refine Zb (Ze (W_ret ?_))
 have av := Zu hm
 subst r
 refine ⟨_, retG1 rfl ⟨_, _, rfl, cellRes (n) A26⟩, ?_⟩
 have ah := St.boxArr (E := (encInt .i64)) (xs := [2]) (n).f3 ⟨[Vi (2)], [], rfl, rfl, rfl⟩ (by simp [maxLen])
 obtain ⟨ay, m, ai, ao⟩ := ah.freezeArr
 have aj := St.boxArr (E := (encInt .i64)) (xs := [0]) (ai).f2 ⟨[Vi (0)], [], rfl, rfl, rfl⟩ (by simp [maxLen])
 obtain ⟨az, k, ak, ap⟩ := aj.freezeArr
 have al := St.boxArr (E := encJob) (xs := [(⟨⟨#[108, 105, 103, 104, 116]⟩, 3, [(⟨0, 0⟩ : Fact)], [(⟨0, 1⟩ : Fact)], [], [(⟨0, 1⟩ : Fact)], [(⟨0, 0⟩ : Fact)]⟩ : Job), (⟨⟨#[100, 97, 114, 107]⟩, 1, [], [], [], [(⟨0, 0⟩ : Fact)], []⟩ : Job)]) (ak).f1 (reps.mono (Zt m k) ⟨[Value.string (⟨#[108, 105, 103, 104, 116]⟩), Vi (3), Value.slice (some ⟨a, 0, none⟩) 1 1, Value.slice (some ⟨b, 0, none⟩) 1 1, Value.slice none 0 0, Value.slice (some ⟨b, 0, none⟩) 1 1, Value.slice (some ⟨a, 0, none⟩) 1 1], [Value.string (⟨#[100, 97, 114, 107]⟩), Vi (1), Value.slice none 0 0, Value.slice none 0 0, Value.slice none 0 0, Value.slice (some ⟨a, 0, none⟩) 1 1, Value.slice none 0 0], rfl, ⟨[Value.string (⟨#[108, 105, 103, 104, 116]⟩)], [Vi (3), Value.slice (some ⟨a, 0, none⟩) 1 1, Value.slice (some ⟨b, 0, none⟩) 1 1, Value.slice none 0 0, Value.slice (some ⟨b, 0, none⟩) 1 1, Value.slice (some ⟨a, 0, none⟩) 1 1], rfl, rfl, ⟨[Vi (3)], [Value.slice (some ⟨a, 0, none⟩) 1 1, Value.slice (some ⟨b, 0, none⟩) 1 1, Value.slice none 0 0, Value.slice (some ⟨b, 0, none⟩) 1 1, Value.slice (some ⟨a, 0, none⟩) 1 1], rfl, rfl, ⟨[Value.slice (some ⟨a, 0, none⟩) 1 1], [Value.slice (some ⟨b, 0, none⟩) 1 1, Value.slice none 0 0, Value.slice (some ⟨b, 0, none⟩) 1 1, Value.slice (some ⟨a, 0, none⟩) 1 1], rfl, ⟨_, rfl, (j.mono d)⟩, ⟨[Value.slice (some ⟨b, 0, none⟩) 1 1], [Value.slice none 0 0, Value.slice (some ⟨b, 0, none⟩) 1 1, Value.slice (some ⟨a, 0, none⟩) 1 1], rfl, ⟨_, rfl, o⟩, ⟨[Value.slice none 0 0], [Value.slice (some ⟨b, 0, none⟩) 1 1, Value.slice (some ⟨a, 0, none⟩) 1 1], rfl, ⟨_, rfl, (SliceRep.nil _ _)⟩, ⟨[Value.slice (some ⟨b, 0, none⟩) 1 1], [Value.slice (some ⟨a, 0, none⟩) 1 1], rfl, ⟨_, rfl, o⟩, ⟨_, rfl, (j.mono d)⟩⟩⟩⟩⟩⟩⟩, ⟨[Value.string (⟨#[100, 97, 114, 107]⟩), Vi (1), Value.slice none 0 0, Value.slice none 0 0, Value.slice none 0 0, Value.slice (some ⟨a, 0, none⟩) 1 1, Value.slice none 0 0], [], rfl, ⟨[Value.string (⟨#[100, 97, 114, 107]⟩)], [Vi (1), Value.slice none 0 0, Value.slice none 0 0, Value.slice none 0 0, Value.slice (some ⟨a, 0, none⟩) 1 1, Value.slice none 0 0], rfl, rfl, ⟨[Vi (1)], [Value.slice none 0 0, Value.slice none 0 0, Value.slice none 0 0, Value.slice (some ⟨a, 0, none⟩) 1 1, Value.slice none 0 0], rfl, rfl, ⟨[Value.slice none 0 0], [Value.slice none 0 0, Value.slice none 0 0, Value.slice (some ⟨a, 0, none⟩) 1 1, Value.slice none 0 0], rfl, ⟨_, rfl, (SliceRep.nil _ _)⟩, ⟨[Value.slice none 0 0], [Value.slice none 0 0, Value.slice (some ⟨a, 0, none⟩) 1 1, Value.slice none 0 0], rfl, ⟨_, rfl, (SliceRep.nil _ _)⟩, ⟨[Value.slice none 0 0], [Value.slice (some ⟨a, 0, none⟩) 1 1, Value.slice none 0 0], rfl, ⟨_, rfl, (SliceRep.nil _ _)⟩, ⟨[Value.slice (some ⟨a, 0, none⟩) 1 1], [Value.slice none 0 0], rfl, ⟨_, rfl, (j.mono d)⟩, ⟨_, rfl, (SliceRep.nil _ _)⟩⟩⟩⟩⟩⟩⟩, rfl⟩⟩) (by simp [maxLen])
 obtain ⟨ar, l, am, aq⟩ := al.freezeArr
 exact ⟨ar, (Value.slice (some ⟨g, 0, none⟩) 1 1), (Value.slice (some ⟨h, 0, none⟩) 1 1), (Value.slice (some ⟨a, 0, none⟩) 1 1), (Value.slice (some ⟨i, 0, none⟩) 2 2), (Zt (Zt (Zt (Zt an d) m) k) l), (am).drop, rfl, (ao.mono (Zt k l)), (ap.mono l), (j.mono (Zt (Zt (Zt d m) k) l)), aq⟩
theorem Z34 : tyZero Tryz.prog 34 = some (Value.agg #[Value.slice none 0 0, Value.slice none 0 0, Value.slice none 0 0, Vi (0)]) := by kernel_rfl
theorem F26_2 : tyField Tryz.prog 26 2 = some 2 := by kernel_rfl
theorem A23 : tyAgg Tryz.prog 23 = some (false, 1) := by kernel_rfl
theorem F26_3 : tyField Tryz.prog 26 3 = some 3 := by kernel_rfl
theorem A24 : tyAgg Tryz.prog 24 = some (false, 1) := by kernel_rfl
theorem S24 : tySlice Tryz.prog 24 = some (59, 7, 144) := by kernel_rfl
theorem A59 : tyAgg Tryz.prog 59 = some (true, 7) := by kernel_rfl
theorem Z59 : tyZero Tryz.prog 59 = some (Value.agg #[Value.string ⟨#[]⟩, Vi (0), Value.slice none 0 0, Value.slice none 0 0, Value.slice none 0 0, Value.slice none 0 0, Value.slice none 0 0]) := by kernel_rfl
theorem F59_2 : tyField Tryz.prog 59 2 = some 2 := by kernel_rfl
theorem F59_3 : tyField Tryz.prog 59 3 = some 3 := by kernel_rfl
theorem F59_4 : tyField Tryz.prog 59 4 = some 4 := by kernel_rfl
theorem F59_5 : tyField Tryz.prog 59 5 = some 5 := by kernel_rfl
theorem F59_6 : tyField Tryz.prog 59 6 = some 6 := by kernel_rfl
theorem S78 : tySlice Tryz.prog 78 = some (23, 1, 24) := by kernel_rfl
theorem Z23 : tyZero Tryz.prog 23 = some (Value.slice none 0 0) := by kernel_rfl
theorem temporal_lists_sim {w0 w : World} {s : PHeap} {H : List Res} {h : Temporal} {ac : Value} {ad : Value} {m : Value} {p : Value} {r : (List (List Fact))} (hm : temporal_lists_p h = some r) (hS : St w0 s (H) w) (aI : SliceRep (encInt .i64) s ac h.Vars) (aJ : SliceRep (encInt .i64) s ad h.Init) (af : SliceRep encFact s m h.Goal) (q : SliceRep encJob s p h.Jobs) :
  Calls Tryz.prog 59 #[Value.agg #[ac, ad, m, p]] w fun e w' => ∃ v, e = .returned v ∧ ((fun (aH : (List (List Fact))) => ∃ (ab : PHeap) (ao : Value), PHeap.le s ab ∧ St w0 ab (H) w' ∧ v = ao ∧ SliceRep (encSlice encFact) ab ao aH) r) := by
 unfold temporal_lists_p at hm
 refine calls_of_W Tryz.func59 rfl rfl (Zc (Zd (Za rfl rfl (Exec.box (cs := [ac, ad, m, p]) hS rfl rfl rfl ?_))))
 intro aK aX ah
 refine Za rfl rfl (Zo (v := Value.slice none 0 0) rfl rfl (Zb (Ze (Zc (Zd (Za rfl rfl (Zp F26_2 rfl rfl rfl (Za rfl rfl (Zn (ah) A23 rfl rfl rfl (Za rfl rfl (Exec.buildSlice (Te := 23) (cs := [m]) ah rfl (parts_cons (c := [m]) (cells_of rfl (cells_one (af).one)) parts_nil) (fun _ => by kernel_rfl) ?_)))))))))))
 intro ag aY ai
 refine Za rfl rfl (Zo (v := Value.slice (some ⟨ag, 0, none⟩) 1 1) rfl rfl (Zb (Ze (Zc (Zc (Zd (Za rfl rfl (Zp F26_3 rfl rfl rfl (Za rfl rfl (Zn ((ai).f1) A24 rfl rfl rfl (Za rfl rfl (Zr S24 rfl rfl q (Za rfl rfl (Zm (v := Vi (0)) rfl rfl (Zb (Ze ?_))))))))))))))))
 obtain ⟨t, ar, hm⟩ := Zg hm
 refine W_block (W_forS (fun k' s' f' w' => (fun (t : (List (List Fact))) => ∃ (an : PHeap) (g : Value), PHeap.le s an ∧ St w0 an (Res.arr (encSlice encFact) 23 g t :: H) w' ∧ f' 3 = g ∧ f' 10 = p ∧ f' 11 = Vi ((h.Jobs.length : Int)) ∧ f' 12 = Vi (k' : Int)) s') ar ?_ ?_ ?_)
 ·have aw := St.boxArr (E := (encSlice encFact)) (xs := [h.Goal]) ai ⟨[m], [], rfl, ⟨_, rfl, af⟩, rfl⟩ (by simp [maxLen])
  exact ⟨s, (Value.slice (some ⟨ag, 0, none⟩) 1 1), (Zv _), ((aw).f1).drop, rfl, rfl, rfl, rfl⟩
 ·intro a3 t aD aQ aZ a2 au n
  obtain ⟨aE, g, ak, aj, a6, al, am, ae⟩ := au
  refine Zc (Zd (Za rfl rfl (Zq rfl ae am (Zb (Ze (Zc (W_true (Zx (decide_eq_true (by omega))) (W_skip (Ze (Zc (W_block (Zc (Zd ?_)))))))))))))
  obtain ⟨b, a9, n⟩ := Zg n
  refine Za rfl rfl (Exec.index_rep S24 rfl al ae (q.mono ak) a9 ?_)
  intro aL aT aq
  refine Za rfl rfl (Zw (E := encJob) aj A59 rfl rfl rfl aq ?_)
  intro aW aA
  obtain ⟨o, l, i, d, a, rfl, u, x, y, z, aa⟩ := encJob_val.1 aA
  refine Za rfl rfl (Exec.alloc (cs := [Value.string (⟨#[]⟩), Vi (0), Value.slice none 0 0, Value.slice none 0 0, Value.slice none 0 0, Value.slice none 0 0, Value.slice none 0 0]) aj Z59 rfl rfl ?_)
  intro aM ba ax
  refine Za rfl rfl (Exec.store_box (ds := [Value.string (b.Name), Vi (b.Duration), o, l, i, d, a]) (es := [Value.string (b.Name), Vi (b.Duration), o, l, i, d, a]) ax A59 rfl rfl rfl rfl (Zj rfl (Zj rfl (Zj (u).one (Zj (x).one (Zj (y).one (Zj (z).one (Zj (aa).one one_nil))))))) (Nat.le_of_ble_eq_true rfl) rfl ?_)
  intro bb j
  refine Zb (Ze (Zd (Za rfl rfl (Zm (v := g) rfl a6 (Za rfl rfl (Zp F59_2 rfl rfl rfl (Za rfl rfl (Zn (j) A23 rfl rfl rfl (Za rfl rfl (Zp F59_3 rfl rfl rfl (Za rfl rfl (Zn (j) A23 rfl rfl rfl (Za rfl rfl (Zp F59_4 rfl rfl rfl (Za rfl rfl (Zn (j) A23 rfl rfl rfl (Za rfl rfl (Zp F59_5 rfl rfl rfl (Za rfl rfl (Zn (j) A23 rfl rfl rfl (Za rfl rfl (Zp F59_6 rfl rfl rfl (Za rfl rfl (Zn (j) A23 rfl rfl rfl (Za rfl rfl (Exec.buildSlice (Te := 23) (cs := [o, l, i, d, a]) j rfl (parts_cons (c := [o]) (cells_of rfl (cells_one (u).one)) (parts_cons (c := [l]) (cells_of rfl (cells_one (x).one)) (parts_cons (c := [i]) (cells_of rfl (cells_one (y).one)) (parts_cons (c := [d]) (cells_of rfl (cells_one (z).one)) (parts_cons (c := [a]) (cells_of rfl (cells_one (aa).one)) parts_nil))))) (fun _ => by kernel_rfl) ?_))))))))))))))))))))))))))
  intro aN bc ay
  obtain ⟨aS, aB, n⟩ := Zg n
  refine Za rfl rfl (Exec.append_box (E := (encSlice encFact)) (ys := [b.Start, b.Over, b.End, b.AtStart, b.AtEnd]) (ay).f2 S78 Z23 rfl (by decide) rfl rfl rfl rfl ⟨[o], [l, i, d, a], rfl, ⟨_, rfl, u⟩, ⟨[l], [i, d, a], rfl, ⟨_, rfl, x⟩, ⟨[i], [d, a], rfl, ⟨_, rfl, y⟩, ⟨[d], [a], rfl, ⟨_, rfl, z⟩, ⟨[a], [], rfl, ⟨_, rfl, aa⟩, rfl⟩⟩⟩⟩⟩ rfl aB ?_)
  intro ap bd az
  refine Za rfl rfl (Zo (v := ap) rfl rfl (Zb (ib_normal (Ze (Zd (Za rfl rfl (Exec.add rfl ae rfl (Za rfl rfl (Zm (v := Vi (IntKind.i64.wrap ((a3 : Int) + 1))) rfl rfl (Zb (Ze ?_)))))))))))
  have aO := Zu n
  subst aD
  exact ⟨aE, ap, ak, ((az).f1).drop, rfl, al, am, (Eq.trans rfl (wrap_up a2 (SliceRep.le q)))⟩
 intro aR be av
 obtain ⟨aV, g, a4, a0, a7, aU, a8, aG⟩ := av
 refine Zc (Zd (Za rfl rfl (Zq rfl aG a8 (Zb (Ze (Zc (W_false (Zx (decide_eq_false (by omega))) (W_exit (at_exit (at_exit (ib_here (Ze (Zc (Zd (Za rfl rfl (Zm (v := g) rfl a7 (Za rfl rfl (Zo (v := g) rfl rfl (Zb (Ze (W_ret ?_)))))))))))))))))))))
 have aP := Zu hm
 subst r
 refine ⟨_, ret1 rfl, ?_⟩
 obtain ⟨aF, a5, a1, aC⟩ := a0.freezeArr
 exact ⟨aF, g, (Zt a4 a5), a1, rfl, aC⟩
theorem F26_0 : tyField Tryz.prog 26 0 = some 0 := by kernel_rfl
theorem A22 : tyAgg Tryz.prog 22 = some (false, 1) := by kernel_rfl
theorem S22 : tySlice Tryz.prog 22 = some (3, 1, 8) := by kernel_rfl
theorem S23 : tySlice Tryz.prog 23 = some (75, 2, 16) := by kernel_rfl
theorem N61 : (Tryz.f61.name == "runtime.NumGoroutine") = false := by kernel_rfl
theorem temporal_Check_c1_sim {w0 w : World} {s : PHeap} {H : List Res} {a : (List Fact)} {b : Value} {r : Bool} (hm : temporal_Check_c1_p a = some r) (hS : St w0 s (H) w) (d : SliceRep encFact s b a) :
  Calls Tryz.prog 61 #[b] w fun e w' => ∃ v, e = .returned v ∧ ((fun (f : Bool) => ∃ (c : PHeap) , PHeap.le s c ∧ St w0 c (H) w' ∧ v = Value.bool (f)) r) := by
 unfold temporal_Check_c1_p at hm
 refine calls_of_W Tryz.func61 rfl rfl (Zc (Zd (Za rfl rfl (Zo (v := Value.bool (false)) rfl rfl (Zb (Ze (Zc (Zd (Za rfl rfl (Zm (v := b) rfl rfl (Za rfl rfl (Zr S23 rfl rfl d (Za rfl rfl (Exec.gtr rfl rfl rfl (Za rfl rfl (Zo (v := Value.bool (decide (64 < (a.length : Int)))) rfl rfl (Zb (Ze (W_ret ?_)))))))))))))))))))
 have g := Zu hm
 subst r
 refine ⟨_, ret1 rfl, ?_⟩
 exact ⟨s, (Zv _), hS, rfl⟩
theorem slices_IndexFunc_apiFact_Check_c1_sim {w0 w : World} {s : PHeap} {H : List Res} {g : (List (List Fact))} {c : Value} {r : Int} (hm : slices_IndexFunc_apiFact_Check_c1_p g = some r) (hS : St w0 s (H) w) (i : SliceRep (encSlice encFact) s c g) :
  Calls Tryz.prog 81 #[c, Value.func (.func 61) #[] #[]] w fun e w' => ∃ v, e = .returned v ∧ ((fun (a5 : Int) => ∃ (aa : PHeap) , PHeap.le s aa ∧ St w0 aa (H) w' ∧ v = Vi (a5)) r) := by
 unfold slices_IndexFunc_apiFact_Check_c1_p at hm
 refine calls_of_W Tryz.func81 rfl rfl (Zc (Zd (Za rfl rfl (Zo (v := Vi (0)) rfl rfl (Zb (Ze (Zc (Zc (Zd (Za rfl rfl (Zm (v := c) rfl rfl (Za rfl rfl (Zr S78 rfl rfl i (Za rfl rfl (Zm (v := Vi (0)) rfl rfl (Zb (Ze ?_)))))))))))))))))
 obtain ⟨m, af, ap, an, al⟩ := ctl_some hm
 refine W_mid (M := fun f' w' => ∃ s', (m = .next s' ∨ m = .brk s') ∧ (fun (_ : Unit) => ∃ (ab : PHeap) , PHeap.le s ab ∧ St w0 ab (H) w' ∧ f' 0 = c ∧ f' 1 = Value.func (.func 61) #[] #[] ∧ f' 7 = Vi ((g.length : Int))) s') ?_ ?_
 ·refine W_block (W_forC (fun k' s' f' w' => (fun (_ : Unit) => ∃ (ac : PHeap) , PHeap.le s ac ∧ St w0 ac (H) w' ∧ f' 0 = c ∧ f' 1 = Value.func (.func 61) #[] #[] ∧ f' 7 = Vi ((g.length : Int)) ∧ f' 8 = Vi (k' : Int)) s') af ?_ ?_ ?_)
  ·exact ⟨s, (Zv _), hS, rfl, rfl, rfl, rfl⟩
  ·intro b aJ n aB aN am ag a aq
   obtain ⟨aI, j, o, u, x, y, l⟩ := ag
   refine Zc (Zd (Za rfl rfl (Zq rfl l y (Zb (Ze (Zc (W_true (Zx (decide_eq_true (by omega))) (W_skip (Ze (Zc (W_block (Zc (Zd (Za rfl rfl (Zm (v := Vi ((b : Int))) rfl l (Za rfl rfl (Zo (v := Vi ((b : Int))) rfl rfl (Zb (Ze (Zc (Zd (Za rfl rfl (Zm (v := Value.func (.func 61) #[] #[]) rfl x (Za rfl rfl (Zm (v := c) rfl u (Za rfl rfl (Zm (v := Vi ((b : Int))) rfl rfl ?_)))))))))))))))))))))))))))
   obtain ⟨a3, ay, a⟩ := Zg a
   refine Za rfl rfl (Exec.index_rep S78 rfl rfl rfl (i.mono j) ay ?_)
   intro a6 aE ae
   refine Za rfl rfl (Zw (E := (encSlice encFact)) o A23 rfl rfl rfl ae ?_)
   intro aM az
   have a0 := encSlice_val.1 az
   refine Za rfl rfl (Exec.callf rfl rfl Tryz.func61 rfl N61 (Zi rfl args_nil) ((temporal_Check_c1_sim (temporal_Check_c1_tot a3) o a0).mono ?_))
   rintro _ aO ⟨_, rfl, ⟨ad, t, p, rfl⟩⟩
   refine ⟨_, rfl, ?_⟩
   refine Zb (Ze ?_)
   rcases ite_some a with ⟨d, a⟩ | ⟨d, a⟩
   ·refine W_cond_t rfl d (Zc (Zd (Za rfl rfl (Zm (v := Vi ((b : Int))) rfl rfl (Za rfl rfl (Zo (v := Vi ((b : Int))) rfl rfl (Zb (Ze (W_ret (ib_ret (at_ret (at_ret (ib_ret (at_ret (at_ret ?_)))))))))))))))
    have a7 := Zu a
    subst n
    have ao := ap _ (aq (by intro _ h; cases h))
    have a8 := Zu ao
    subst r
    refine ⟨_, ret1 rfl, ?_⟩
    exact ⟨ad, (Zt j t), p, rfl⟩
   refine W_cond_f rfl d ?_
   replace d := Zk d
   refine W_skip (ib_normal (Ze (Zd (Za rfl rfl (Exec.add rfl l rfl (Za rfl rfl (Zm (v := Vi (IntKind.i64.wrap ((b : Int) + 1))) rfl rfl (Zb (Ze ?_)))))))))
   have a9 := Zu a
   subst n
   refine ⟨_, rfl, ?_⟩; exact ⟨ad, (Zt j t), p, u, x, y, (Eq.trans rfl (wrap_up am (SliceRep.le i)))⟩
  intro aK aC aP ah ar
  obtain ⟨a1, au, aj, aw, ax, z, a4⟩ := ah
  refine Zc (Zd (Za rfl rfl (Zq rfl a4 z (Zb (Ze (Zc (W_false (Zx (decide_eq_false (by omega))) (W_exit (at_exit (at_exit (ib_here (Ze ?_))))))))))))
  refine ⟨_, .inl ar, ?_⟩; exact ⟨a1, au, aj, aw, ax, z⟩
 rintro aD aQ ⟨aL, q, ai⟩
 have hm := q.elim (an _) (al _)
 clear q
 obtain ⟨a2, av, ak, aF, aG, aH⟩ := ai
 refine (Ze (Zc (Zd (Za rfl rfl (Zo (v := Vi ((-1))) rfl rfl (Zb (Ze (W_ret ?_))))))))
 have aA := Zu hm
 subst r
 refine ⟨_, ret1 rfl, ?_⟩
 exact ⟨a2, av, ak, rfl⟩
theorem slices_ContainsFunc_apiFact_Check_c1_sim {w0 w : World} {s : PHeap} {H : List Res} {c : (List (List Fact))} {a : Value} {r : Bool} (hm : slices_ContainsFunc_apiFact_Check_c1_p c = some r) (hS : St w0 s (H) w) (d : SliceRep (encSlice encFact) s a c) :
  Calls Tryz.prog 60 #[a, Value.func (.func 61) #[] #[]] w fun e w' => ∃ v, e = .returned v ∧ ((fun (k : Bool) => ∃ (b : PHeap) , PHeap.le s b ∧ St w0 b (H) w' ∧ v = Value.bool (k)) r) := by
 unfold slices_ContainsFunc_apiFact_Check_c1_p at hm
 refine calls_of_W Tryz.func60 rfl rfl (Zc (Zd (Za rfl rfl (Zo (v := Value.bool (false)) rfl rfl (Zb (Ze (Zc (Zd (Za rfl rfl (Zm (v := a) rfl rfl (Za rfl rfl (Zm (v := Value.func (.func 61) #[] #[]) rfl rfl ?_))))))))))))
 obtain ⟨j, h, hm⟩ := Zg hm
 refine Za rfl rfl (Tc rfl rfl rfl (Zi rfl (Zi rfl args_nil)) (slices_IndexFunc_apiFact_Check_c1_sim h hS d).r ?_)
 rintro _ m ⟨i, g, f, rfl⟩
 refine Za rfl rfl (Exec.geq rfl rfl rfl (Za rfl rfl (Zo (v := Value.bool (decide (0 ≤ j))) rfl rfl (Zb (Ze (W_ret ?_))))))
 have l := Zu hm
 subst r
 refine ⟨_, ret1 rfl, ?_⟩
 exact ⟨i, g, f, rfl⟩
theorem C77 : Tryz.prog.concrete 77 = true := by kernel_rfl
theorem A3 : tyAgg Tryz.prog 3 = some (false, 1) := by kernel_rfl
theorem F59_1 : tyField Tryz.prog 59 1 = some 1 := by kernel_rfl
theorem F26_1 : tyField Tryz.prog 26 1 = some 1 := by kernel_rfl
theorem task_Proper_sim {w0 w : World} {s : PHeap} {H : List Res} {ao : (List Int)} {m : (List Int)} {d : Value} {g : Value} {r : Bool} (hm : task_Proper_p ao m = some r) (hS : St w0 s (H) w) (ab : SliceRep (encInt .i64) s d ao) (q : SliceRep (encInt .i64) s g m) :
  Calls Tryz.prog 62 #[d, g] w fun e w' => ∃ v, e = .returned v ∧ ((fun (aN : Bool) => ∃ (aj : PHeap) , PHeap.le s aj ∧ St w0 aj (H) w' ∧ v = Value.bool (aN)) r) := by
 unfold task_Proper_p at hm
 refine calls_of_W Tryz.func62 rfl rfl (Zc (Zd (Za rfl rfl (Zo (v := Value.bool (false)) rfl rfl (Zb (Ze (Zc (Zc (Zd (Za rfl rfl (Zm (v := g) rfl rfl (Za rfl rfl (Zr S22 rfl rfl q (Za rfl rfl (Zm (v := d) rfl rfl (Za rfl rfl (Zr S22 rfl rfl ab (Za rfl rfl (Exec.neq rfl rfl rfl (Zb (Ze ?_)))))))))))))))))))))
 rcases ite_some hm with ⟨i, hm⟩ | ⟨i, hm⟩
 ·refine W_cond_t rfl i (Zc (Zd (Za rfl rfl (Zo (v := Value.bool (false)) rfl rfl (Zb (Ze (W_ret (at_ret ?_))))))))
  have aQ := Zu hm
  subst r
  refine ⟨_, ret1 rfl, ?_⟩
  exact ⟨s, (Zv _), hS, rfl⟩
 refine W_cond_f rfl i ?_
 replace i := Zk i
 refine W_skip (Ze (Zc (Zc (Zd (Za rfl rfl (Zm (v := g) rfl rfl (Za rfl rfl (Zr S22 rfl rfl q (Za rfl rfl (Zm (v := Vi (0)) rfl rfl (Zb (Ze ?_))))))))))))
 obtain ⟨ac, ar, a4, a2, a0⟩ := ctl_some hm
 refine W_mid (M := fun f' w' => ∃ s', (ac = .next s' ∨ ac = .brk s') ∧ (fun (_ : Unit) => ∃ (ak : PHeap) , PHeap.le s ak ∧ St w0 ak (H) w' ∧ f' 0 = d ∧ f' 12 = g ∧ f' 13 = Vi ((m.length : Int))) s') ?_ ?_
 ·refine W_block (W_forC (fun k' s' f' w' => (fun (_ : Unit) => ∃ (al : PHeap) , PHeap.le s al ∧ St w0 al (H) w' ∧ f' 0 = d ∧ f' 12 = g ∧ f' 13 = Vi ((m.length : Int)) ∧ f' 14 = Vi (k' : Int)) s') ar ?_ ?_ ?_)
  ·exact ⟨s, (Zv _), hS, rfl, rfl, rfl, rfl⟩
  ·intro l bg ad aX bl a1 au b a5
   obtain ⟨aa, u, t, x, y, z, n⟩ := au
   refine Zc (Zd (Za rfl rfl (Zq rfl n z (Zb (Ze (Zc (W_true (Zx (decide_eq_true (by omega))) (W_skip (Ze (Zc (W_block (Zc (Zd (Za rfl rfl (Zm (v := Vi ((l : Int))) rfl n ?_)))))))))))))))
   obtain ⟨o, aF, b⟩ := Zg b
   refine Za rfl rfl (Exec.index_rep S22 rfl y n (q.mono u) aF ?_)
   intro aO bb ap
   refine Za rfl rfl (Zw (E := (encInt .i64)) t A3 rfl rfl rfl ap ?_)
   intro bj aG
   obtain rfl := encInt_val.1 aG
   refine Za rfl rfl (Zo (v := Vi ((l : Int))) rfl rfl (Za rfl rfl (Zo (v := Vi (o)) rfl rfl (Zb (Ze (Zc ?_))))))
   obtain ⟨p, c, b⟩ := Zg b
   refine W_mid (M := fun f' w' => (fun (p : Bool) => ∃ (am : PHeap) , PHeap.le aa am ∧ St w0 am (H) w' ∧ f' 0 = d ∧ f' 12 = g ∧ f' 13 = Vi ((m.length : Int)) ∧ f' 14 = Vi ((l : Int)) ∧ f' 28 = Value.bool (p)) p) ?_ ?_
   ·refine Zd (Za rfl rfl (Zm (v := Vi (o)) rfl rfl (Za rfl rfl (Zq rfl rfl rfl (Za rfl rfl (Zm (v := Value.bool (decide (o < 0))) rfl rfl ?_))))))
    rcases ite_some c with ⟨a, c⟩ | ⟨a, c⟩
    ·refine WL_passes 7 (by rw [a]; rfl) ?_
     refine Zb (Ze ?_)
     have aR := Zu c
     subst p
     exact ⟨aa, (Zv _), t, x, y, z, n, rfl⟩
    replace a := Zk a
    refine WL_run rfl (Zf rfl (Zx a)) rfl (Zm (v := Vi (o)) rfl rfl (WL_run rfl (Zf rfl (Zx a)) rfl (Zm (v := d) rfl x (WL_run rfl (Zf rfl (Zx a)) rfl (Zm (v := Vi ((l : Int))) rfl rfl ?_)))))
    obtain ⟨aL, aH, c⟩ := Zg c
    refine WL_run rfl (Zf rfl (Zx a)) rfl (Exec.index_rep S22 rfl rfl rfl (ab.mono u) aH ?_)
    intro aP bc aq
    refine WL_run rfl (Zf rfl (Zx a)) rfl (Zw (E := (encInt .i64)) t A3 rfl rfl rfl aq ?_)
    intro bk aI
    obtain rfl := encInt_val.1 aI
    refine WL_run rfl (Zf rfl (Zx a)) rfl (Exec.geq rfl rfl rfl (Za rfl rfl (Exec.pick_f (v := Value.bool (decide (aL ≤ o))) rfl (Zx a) rfl (Zb (Ze ?_)))))
    have aS := Zu c
    subst p
    exact ⟨aa, (Zv _), t, x, y, z, n, rfl⟩
   intro aY bm aw
   obtain ⟨an, ag, ae, a9, aA, aB, aC, ah⟩ := aw
   refine (Ze ?_)
   rcases ite_some b with ⟨j, b⟩ | ⟨j, b⟩
   ·refine W_cond_t ah j (Zc (Zd (Za rfl rfl (Zo (v := Value.bool (false)) rfl rfl (Zb (Ze (W_ret (ib_ret (at_ret (at_ret (ib_ret (at_ret (at_ret ?_)))))))))))))
    have aT := Zu b
    subst ad
    have a3 := a4 _ (a5 (by intro _ h; cases h))
    have aU := Zu a3
    subst r
    refine ⟨_, ret1 rfl, ?_⟩
    exact ⟨an, (Zt u ag), ae, rfl⟩
   refine W_cond_f ah j ?_
   replace j := Zk j
   refine W_skip (ib_normal (Ze (Zd (Za rfl rfl (Exec.add rfl aC rfl (Za rfl rfl (Zm (v := Vi (IntKind.i64.wrap ((l : Int) + 1))) rfl rfl (Zb (Ze ?_)))))))))
   have aV := Zu b
   subst ad
   refine ⟨_, rfl, ?_⟩; exact ⟨an, (Zt u ag), ae, a9, aA, aB, (Eq.trans rfl (wrap_up a1 (SliceRep.le q)))⟩
  intro bh aZ bn av a6
  obtain ⟨aJ, a7, ay, aD, aE, ai, aM⟩ := av
  refine Zc (Zd (Za rfl rfl (Zq rfl aM ai (Zb (Ze (Zc (W_false (Zx (decide_eq_false (by omega))) (W_exit (at_exit (at_exit (ib_here (Ze ?_))))))))))))
  refine ⟨_, .inl a6, ?_⟩; exact ⟨aJ, a7, ay, aD, aE, ai⟩
 rintro ba bo ⟨bi, af, ax⟩
 have hm := af.elim (a2 _) (a0 _)
 clear af
 obtain ⟨aK, a8, az, bd, be, bf⟩ := ax
 refine (Ze (Zc (Zd (Za rfl rfl (Zo (v := Value.bool (true)) rfl rfl (Zb (Ze (W_ret ?_))))))))
 have aW := Zu hm
 subst r
 refine ⟨_, ret1 rfl, ?_⟩
 exact ⟨aK, a8, az, rfl⟩
theorem A75 : tyAgg Tryz.prog 75 = some (true, 2) := by kernel_rfl
theorem Z75 : tyZero Tryz.prog 75 = some (Value.agg #[Vi (0), Vi (0)]) := by kernel_rfl
theorem hmix : Tryz.prog.follows .mixedOrders = true := by kernel_rfl
theorem F75_0 : tyField Tryz.prog 75 0 = some 0 := by kernel_rfl
theorem F75_1 : tyField Tryz.prog 75 1 = some 1 := by kernel_rfl
theorem task_Facts_sim {w0 w : World} {s : PHeap} {H : List Res} {ab : (List Int)} {q : (List Fact)} {l : Value} {o : Value} {r : Bool} (hm : task_Facts_p ab q = some r) (hS : St w0 s (H) w) (ae : SliceRep (encInt .i64) s l ab) (ac : SliceRep encFact s o q) :
  Calls Tryz.prog 64 #[l, o] w fun e w' => ∃ v, e = .returned v ∧ ((fun (aX : Bool) => ∃ (ap : PHeap) , PHeap.le s ap ∧ St w0 ap (H) w' ∧ v = Value.bool (aX)) r) := by
 unfold task_Facts_p at hm
 refine calls_of_W Tryz.func64 rfl rfl (Zc (Zd (Za rfl rfl (Zo (v := Value.bool (false)) rfl rfl (Zb (Ze (Zc (Zd (Za rfl rfl (Zo (v := Vi ((-1))) rfl rfl (Zb (Ze (Zc (Zc (Zd (Za rfl rfl (Zm (v := o) rfl rfl (Za rfl rfl (Zr S23 rfl rfl ac (Za rfl rfl (Zm (v := Vi (0)) rfl rfl (Zb (Ze ?_)))))))))))))))))))))))
 obtain ⟨ag, ay, aB, a9, a7⟩ := ctl_some hm
 refine W_mid (M := fun f' w' => ∃ s', (ag = .next s' ∨ ag = .brk s') ∧ (fun (am : Int) => ∃ (aq : PHeap) , PHeap.le s aq ∧ St w0 aq (H) w' ∧ f' 0 = l ∧ f' 5 = Vi (am) ∧ f' 8 = o ∧ f' 9 = Vi ((q.length : Int))) s') ?_ ?_
 ·refine W_block (W_forC (fun k' s' f' w' => (fun (x : Int) => ∃ (ar : PHeap) , PHeap.le s ar ∧ St w0 ar (H) w' ∧ f' 0 = l ∧ f' 5 = Vi (x) ∧ f' 8 = o ∧ f' 9 = Vi ((q.length : Int)) ∧ f' 10 = Vi (k' : Int)) s') ay ?_ ?_ ?_)
  ·exact ⟨s, (Zv _), hS, rfl, rfl, rfl, rfl, rfl⟩
  ·intro ak x ah bj bv a8 az i aC
   obtain ⟨aa, u, ai, n, aG, y, z, p⟩ := az
   refine Zc (Zd (Za rfl rfl (Zq rfl p z (Zb (Ze (Zc (W_true (Zx (decide_eq_true (by omega))) (W_skip (Ze (Zc (W_block (Zc (Zd ?_)))))))))))))
   obtain ⟨c, aP, i⟩ := Zg i
   refine Za rfl rfl (Exec.index_rep S23 rfl y p (ac.mono u) aP ?_)
   intro aY bn aw
   refine Za rfl rfl (Zw (E := encFact) ai A75 rfl rfl rfl aw ?_)
   intro bt aQ
   obtain rfl := encFact_val.1 aQ
   refine Za rfl rfl (Exec.alloc (cs := [Vi (0), Vi (0)]) ai Z75 rfl rfl ?_)
   intro af bw a3
   refine Za rfl rfl (Exec.store_box (ds := [Vi (c.Var), Vi (c.Val)]) (es := [Vi (c.Var), Vi (c.Val)]) a3 A75 rfl rfl rfl rfl (Zj rfl (Zj rfl one_nil)) (Nat.le_of_ble_eq_true rfl) rfl ?_)
   intro bx a4
   refine Zb (Ze (Zc (Zc ?_)))
   obtain ⟨m, a, i⟩ := Zg i
   refine W_mid (M := fun f' w' => (fun (m : Bool) => ∃ (au : PHeap) , PHeap.le aa au ∧ St w0 au (Res.box af 75 [Vi (c.Var), Vi (c.Val)] :: H) w' ∧ f' 0 = l ∧ f' 7 = Value.pointer (some ⟨af, 0, none⟩) ∧ f' 8 = o ∧ f' 9 = Vi ((q.length : Int)) ∧ f' 10 = Vi ((ak : Int)) ∧ f' 39 = Value.bool (m)) m) ?_ ?_
   ·refine W_dl (n0 := 26) (qs 0 26 .done) hmix (by kernel_rfl) (by kernel_rfl) ?_
    have d := a4.drew
    refine DL_q rfl rfl (Zp F75_0 rfl rfl rfl ⟨rfl, ?_⟩)
    refine DL_q rfl rfl (Zn (d) A3 rfl rfl rfl ⟨rfl, ?_⟩)
    refine DL_q rfl rfl (Zm (v := Vi (x)) rfl aG ⟨rfl, ?_⟩)
    refine DL_q rfl rfl (Exec.leq rfl rfl rfl ⟨rfl, ?_⟩)
    refine DL_q rfl rfl (Zm (v := Value.bool (decide (c.Var ≤ x))) rfl rfl ⟨rfl, ?_⟩)
    rcases ite_some a with ⟨g, a⟩ | ⟨g, a⟩
    ·refine DL_passes 21 (by rw [g]; rfl) ?_
     refine DL_done (Zb (Ze ?_))
     have ba := Zu a
     subst m
     exact ⟨aa, (Zv _), d, n, rfl, y, z, p, rfl⟩
    replace g := Zk g
    refine DL_qg rfl rfl (Zf rfl (Zx g)) (Zp F75_0 rfl rfl rfl ⟨rfl, ?_⟩)
    refine DL_qg rfl rfl (Zf rfl (Zx g)) (Zn (d) A3 rfl rfl rfl ⟨rfl, ?_⟩)
    refine DL_qg rfl rfl (Zf rfl (Zx g)) (Zm (v := l) rfl n ⟨rfl, ?_⟩)
    refine DL_qg rfl rfl (Zf rfl (Zx g)) (Zr S22 rfl rfl (ae.mono u) ⟨rfl, ?_⟩)
    refine DL_qg rfl rfl (Zf rfl (Zx g)) (Exec.geq rfl rfl rfl ⟨rfl, ?_⟩)
    refine DL_q rfl rfl (Exec.pick_f (v := Value.bool (decide ((ab.length : Int) ≤ c.Var))) rfl (Zx g) rfl ⟨rfl, ?_⟩)
    refine DL_q rfl rfl (Zm (v := Value.bool (decide ((ab.length : Int) ≤ c.Var))) rfl rfl ⟨rfl, ?_⟩)
    rcases ite_some a with ⟨j, a⟩ | ⟨j, a⟩
    ·refine DL_passes 14 (by rw [j]; rfl) ?_
     refine DL_done (Zb (Ze ?_))
     have bb := Zu a
     subst m
     exact ⟨aa, (Zv _), d, n, rfl, y, z, p, rfl⟩
    replace j := Zk j
    refine DL_qg rfl rfl (Zf rfl (Zx j)) (Zp F75_1 rfl rfl rfl ⟨rfl, ?_⟩)
    refine DL_qg rfl rfl (Zf rfl (Zx j)) (Zn (d) A3 rfl rfl rfl ⟨rfl, ?_⟩)
    refine DL_qg rfl rfl (Zf rfl (Zx j)) (Zq rfl rfl rfl ⟨rfl, ?_⟩)
    refine DL_passes 2 (by rw [j]; rfl) ?_
    rcases ite_some a with ⟨b, a⟩ | ⟨b, a⟩
    ·refine DL_passes 9 (by rw [b]; rfl) ?_
     refine DL_done (Zb (Ze ?_))
     have bc := Zu a
     subst m
     exact ⟨aa, (Zv _), d, n, rfl, y, z, p, rfl⟩
    replace b := Zk b
    refine DL_qg rfl rfl (Zf rfl (Zx b)) (Zp F75_1 rfl rfl rfl ⟨rfl, ?_⟩)
    refine DL_qg rfl rfl (Zf rfl (Zx b)) (Zn (d) A3 rfl rfl rfl ⟨rfl, ?_⟩)
    refine DL_qg rfl rfl (Zf rfl (Zx b)) (Zm (v := l) rfl n ⟨rfl, ?_⟩)
    refine DL_qg rfl rfl (Zf rfl (Zx b)) (Zp F75_0 rfl rfl rfl ⟨rfl, ?_⟩)
    refine DL_qg rfl rfl (Zf rfl (Zx b)) (Zn (d) A3 rfl rfl rfl ⟨rfl, ?_⟩)
    obtain ⟨aV, aR, a⟩ := Zg a
    refine DL_qg rfl rfl (Zf rfl (Zx b)) (Exec.index_repE S22 rfl rfl rfl (ae.mono u) aR ?_)
    intro aZ bo ax bd
    refine ⟨rfl, ?_⟩
    refine DL_qg rfl rfl (Zf rfl (Zx b)) (Zw (E := (encInt .i64)) d A3 rfl rfl rfl ax ?_)
    intro bu aS
    obtain rfl := encInt_val.1 aS
    refine ⟨rfl, ?_⟩
    refine DL_qg rfl rfl (Zf rfl (Zx b)) (Exec.geq rfl rfl rfl ⟨rfl, ?_⟩)
    refine DL_q rfl rfl (Exec.pick_f (v := Value.bool (decide (aV ≤ c.Val))) rfl (Zx b) rfl ⟨rfl, ?_⟩)
    refine DL_done (Zb (Ze ?_))
    have be := Zu a
    subst m
    exact ⟨aa, (Zv _), d, n, rfl, y, z, p, rfl⟩
   intro bk bz a1
   obtain ⟨av, al, ad, aH, aI, aJ, aK, aL, an⟩ := a1
   refine (Ze ?_)
   rcases ite_some i with ⟨t, i⟩ | ⟨t, i⟩
   ·refine W_cond_t an t (Zc (Zd (Za rfl rfl (Zo (v := Value.bool (false)) rfl rfl (Zb (Ze (W_ret (at_ret (ib_ret (at_ret (at_ret (ib_ret (at_ret (at_ret ?_))))))))))))))
    have bf := Zu i
    subst ah
    have aA := aB _ (aC (by intro _ h; cases h))
    have bg := Zu aA
    subst r
    refine ⟨_, ret1 rfl, ?_⟩
    exact ⟨av, (Zt u al), (ad).drop, rfl⟩
   refine W_cond_f an t ?_
   replace t := Zk t
   refine W_skip (Ze (Zd (Za rfl rfl (Zp F75_0 rfl aI rfl (Za rfl rfl (Zn (ad) A3 rfl rfl rfl (Za rfl rfl (Zo (v := Vi (c.Var)) rfl rfl (Zb (ib_normal (Ze (Zd (Za rfl rfl (Exec.add rfl aL rfl (Za rfl rfl (Zm (v := Vi (IntKind.i64.wrap ((ak : Int) + 1))) rfl rfl (Zb (Ze ?_))))))))))))))))))
   have bh := Zu i
   subst ah
   refine ⟨_, rfl, ?_⟩; exact ⟨av, (Zt u al), (ad).drop, aH, rfl, aJ, aK, (Eq.trans rfl (wrap_up a8 (SliceRep.le ac)))⟩
  intro x bl b0 a0 aD
  obtain ⟨aT, aE, a5, aM, aN, aO, ao, aW⟩ := a0
  refine Zc (Zd (Za rfl rfl (Zq rfl aW ao (Zb (Ze (Zc (W_false (Zx (decide_eq_false (by omega))) (W_exit (at_exit (at_exit (ib_here (Ze ?_))))))))))))
  refine ⟨_, .inl aD, ?_⟩; exact ⟨aT, aE, a5, aM, aN, aO, ao⟩
 rintro bm b1 ⟨am, aj, a2⟩
 have hm := aj.elim (a9 _) (a7 _)
 clear aj
 obtain ⟨aU, aF, a6, bp, bq, br, bs⟩ := a2
 refine (Ze (Zc (Zd (Za rfl rfl (Zo (v := Value.bool (true)) rfl rfl (Zb (Ze (W_ret ?_))))))))
 have bi := Zu hm
 subst r
 refine ⟨_, ret1 rfl, ?_⟩
 exact ⟨aU, aF, a6, rfl⟩
theorem N63 : (Tryz.f63.name == "runtime.NumGoroutine") = false := by kernel_rfl
theorem temporal_Check_c2_sim {w0 w : World} {s : PHeap} {H : List Res} {d : (List Fact)} {a : Temporal} {b : Value} {c f : Nat} {r : Bool} (hm : temporal_Check_c2_p d a = some r) (hS : St w0 s (H) w) (h : SliceRep encFact s b d) (i : At s c f encTemporal a) :
  Calls Tryz.prog 63 #[b, Value.pointer (some ⟨c, f, none⟩)] w fun e w' => ∃ v, e = .returned v ∧ ((fun (p : Bool) => ∃ (g : PHeap) , PHeap.le s g ∧ St w0 g (H) w' ∧ v = Value.bool (p)) r) := by
 unfold temporal_Check_c2_p at hm
 refine calls_of_W Tryz.func63 rfl rfl (Zc (Zd (Za rfl rfl (Zo (v := Value.bool (false)) rfl rfl (Zb (Ze (Zc (Zd (Za rfl rfl (Zp F26_0 rfl rfl rfl (Za rfl rfl (Zw (E := (encSlice (encInt .i64))) hS A22 rfl rfl rfl (i.sub (Sub.iso (Sub.fst (Sub.refl _))) rfl) ?_))))))))))))
 intro u l
 have n : SliceRep _ _ _ (a.Vars) := encSlice_val.1 l
 refine Za rfl rfl (Zm (v := b) rfl rfl ?_)
 obtain ⟨q, m, hm⟩ := Zg hm
 refine Za rfl rfl (Tc rfl rfl rfl (Zi rfl (Zi rfl args_nil)) (task_Facts_sim m hS n h).r ?_)
 rintro _ x ⟨o, k, j, rfl⟩
 refine Za rfl rfl (Exec.not rfl rfl (Za rfl rfl (Zo (v := Value.bool (!q)) rfl rfl (Zb (Ze (W_ret ?_))))))
 have t := Zu hm
 subst r
 refine ⟨_, ret1 rfl, ?_⟩
 exact ⟨o, k, j, rfl⟩
theorem slices_IndexFunc_apiFact_Check_c2_sim {w0 w : World} {s : PHeap} {H : List Res} {l : (List (List Fact))} {o : Temporal} {c : Value} {d i : Nat} {r : Int} (hm : slices_IndexFunc_apiFact_Check_c2_p l o = some r) (hS : St w0 s (H) w) (m : SliceRep (encSlice encFact) s c l) (ah : At s d i encTemporal o) :
  Calls Tryz.prog 81 #[c, Value.func (.func 63) #[] #[Value.pointer (some ⟨d, i, none⟩)]] w fun e w' => ∃ v, e = .returned v ∧ ((fun (a9 : Int) => ∃ (ad : PHeap) , PHeap.le s ad ∧ St w0 ad (H) w' ∧ v = Vi (a9)) r) := by
 unfold slices_IndexFunc_apiFact_Check_c2_p at hm
 refine calls_of_W Tryz.func81 rfl rfl (Zc (Zd (Za rfl rfl (Zo (v := Vi (0)) rfl rfl (Zb (Ze (Zc (Zc (Zd (Za rfl rfl (Zm (v := c) rfl rfl (Za rfl rfl (Zr S78 rfl rfl m (Za rfl rfl (Zm (v := Vi (0)) rfl rfl (Zb (Ze ?_)))))))))))))))))
 obtain ⟨p, aj, av, ar, ap⟩ := ctl_some hm
 refine W_mid (M := fun f' w' => ∃ s', (p = .next s' ∨ p = .brk s') ∧ (fun (_ : Unit) => ∃ (ae : PHeap) , PHeap.le s ae ∧ St w0 ae (H) w' ∧ f' 0 = c ∧ f' 1 = Value.func (.func 63) #[] #[Value.pointer (some ⟨d, i, none⟩)] ∧ f' 7 = Vi ((l.length : Int))) s') ?_ ?_
 ·refine W_block (W_forC (fun k' s' f' w' => (fun (_ : Unit) => ∃ (af : PHeap) , PHeap.le s af ∧ St w0 af (H) w' ∧ f' 0 = c ∧ f' 1 = Value.func (.func 63) #[] #[Value.pointer (some ⟨d, i, none⟩)] ∧ f' 7 = Vi ((l.length : Int)) ∧ f' 8 = Vi (k' : Int)) s') aj ?_ ?_ ?_)
  ·exact ⟨s, (Zv _), hS, rfl, rfl, rfl, rfl⟩
  ·intro b aN q aF aR aq ak a aw
   obtain ⟨aM, j, t, z, aa, ab, n⟩ := ak
   refine Zc (Zd (Za rfl rfl (Zq rfl n ab (Zb (Ze (Zc (W_true (Zx (decide_eq_true (by omega))) (W_skip (Ze (Zc (W_block (Zc (Zd (Za rfl rfl (Zm (v := Vi ((b : Int))) rfl n (Za rfl rfl (Zo (v := Vi ((b : Int))) rfl rfl (Zb (Ze (Zc (Zd (Za rfl rfl (Zm (v := Value.func (.func 63) #[] #[Value.pointer (some ⟨d, i, none⟩)]) rfl aa (Za rfl rfl (Zm (v := c) rfl z (Za rfl rfl (Zm (v := Vi ((b : Int))) rfl rfl ?_)))))))))))))))))))))))))))
   obtain ⟨aV, a2, a⟩ := Zg a
   refine Za rfl rfl (Exec.index_rep S78 rfl rfl rfl (m.mono j) a2 ?_)
   intro aA aI ai
   refine Za rfl rfl (Zw (E := (encSlice encFact)) t A23 rfl rfl rfl ai ?_)
   intro aQ a3
   have a5 := encSlice_val.1 a3
   obtain ⟨aW, a4, a⟩ := Zg a
   refine Za rfl rfl (Exec.callc rfl rfl Tryz.func63 rfl N63 (Zi rfl args_nil) rfl ((temporal_Check_c2_sim a4 t a5 (ah.mono j)).mono ?_))
   rintro _ aS ⟨_, rfl, ⟨ag, y, u, rfl⟩⟩
   refine ⟨_, rfl, ?_⟩
   refine Zb (Ze ?_)
   rcases ite_some a with ⟨g, a⟩ | ⟨g, a⟩
   ·refine W_cond_t rfl g (Zc (Zd (Za rfl rfl (Zm (v := Vi ((b : Int))) rfl rfl (Za rfl rfl (Zo (v := Vi ((b : Int))) rfl rfl (Zb (Ze (W_ret (ib_ret (at_ret (at_ret (ib_ret (at_ret (at_ret ?_)))))))))))))))
    have aB := Zu a
    subst q
    have au := av _ (aw (by intro _ h; cases h))
    have aC := Zu au
    subst r
    refine ⟨_, ret1 rfl, ?_⟩
    exact ⟨ag, (Zt j y), u, rfl⟩
   refine W_cond_f rfl g ?_
   replace g := Zk g
   refine W_skip (ib_normal (Ze (Zd (Za rfl rfl (Exec.add rfl n rfl (Za rfl rfl (Zm (v := Vi (IntKind.i64.wrap ((b : Int) + 1))) rfl rfl (Zb (Ze ?_)))))))))
   have aD := Zu a
   subst q
   refine ⟨_, rfl, ?_⟩; exact ⟨ag, (Zt j y), u, z, aa, ab, (Eq.trans rfl (wrap_up aq (SliceRep.le m)))⟩
  intro aO aG aT al ax
  obtain ⟨a6, ay, an, a0, a1, ac, a8⟩ := al
  refine Zc (Zd (Za rfl rfl (Zq rfl a8 ac (Zb (Ze (Zc (W_false (Zx (decide_eq_false (by omega))) (W_exit (at_exit (at_exit (ib_here (Ze ?_))))))))))))
  refine ⟨_, .inl ax, ?_⟩; exact ⟨a6, ay, an, a0, a1, ac⟩
 rintro aH aU ⟨aP, x, am⟩
 have hm := x.elim (ar _) (ap _)
 clear x
 obtain ⟨a7, az, ao, aJ, aK, aL⟩ := am
 refine (Ze (Zc (Zd (Za rfl rfl (Zo (v := Vi ((-1))) rfl rfl (Zb (Ze (W_ret ?_))))))))
 have aE := Zu hm
 subst r
 refine ⟨_, ret1 rfl, ?_⟩
 exact ⟨a7, az, ao, rfl⟩
theorem slices_ContainsFunc_apiFact_Check_c2_sim {w0 w : World} {s : PHeap} {H : List Res} {g : (List (List Fact))} {d : Temporal} {c : Value} {a b : Nat} {r : Bool} (hm : slices_ContainsFunc_apiFact_Check_c2_p g d = some r) (hS : St w0 s (H) w) (h : SliceRep (encSlice encFact) s c g) (i : At s a b encTemporal d) :
  Calls Tryz.prog 60 #[c, Value.func (.func 63) #[] #[Value.pointer (some ⟨a, b, none⟩)]] w fun e w' => ∃ v, e = .returned v ∧ ((fun (n : Bool) => ∃ (f : PHeap) , PHeap.le s f ∧ St w0 f (H) w' ∧ v = Value.bool (n)) r) := by
 unfold slices_ContainsFunc_apiFact_Check_c2_p at hm
 refine calls_of_W Tryz.func60 rfl rfl (Zc (Zd (Za rfl rfl (Zo (v := Value.bool (false)) rfl rfl (Zb (Ze (Zc (Zd (Za rfl rfl (Zm (v := c) rfl rfl (Za rfl rfl (Zm (v := Value.func (.func 63) #[] #[Value.pointer (some ⟨a, b, none⟩)]) rfl rfl ?_))))))))))))
 obtain ⟨o, l, hm⟩ := Zg hm
 refine Za rfl rfl (Tc rfl rfl rfl (Zi rfl (Zi rfl args_nil)) (slices_IndexFunc_apiFact_Check_c2_sim l hS h i).r ?_)
 rintro _ q ⟨m, k, j, rfl⟩
 refine Za rfl rfl (Exec.geq rfl rfl rfl (Za rfl rfl (Zo (v := Value.bool (decide (0 ≤ o))) rfl rfl (Zb (Ze (W_ret ?_))))))
 have p := Zu hm
 subst r
 refine ⟨_, ret1 rfl, ?_⟩
 exact ⟨m, k, j, rfl⟩
theorem F59_0 : tyField Tryz.prog 59 0 = some 0 := by kernel_rfl
theorem A9 : tyAgg Tryz.prog 9 = some (false, 1) := by kernel_rfl
theorem temporal_named_sim {w0 w : World} {s : PHeap} {H : List Res} {a : ByteArray}  {r : Bool} (hm : temporal_named_p a = some r) (hS : St w0 s (H) w)  :
  Calls Tryz.prog 65 #[Value.string (a)] w fun e w' => ∃ v, e = .returned v ∧ ((fun (aA : Bool) => ∃ (ad : PHeap) , PHeap.le s ad ∧ St w0 ad (H) w' ∧ v = Value.bool (aA)) r) := by
 unfold temporal_named_p at hm
 refine calls_of_W Tryz.func65 rfl rfl (Zc (Zd (Za rfl rfl (Zo (v := Value.bool (false)) rfl rfl (Zb (Ze (Zc (Zc (Zd (Za rfl rfl (Zm (v := Value.string (a)) rfl rfl (Za rfl rfl (Exec.len_str Tryz.underlying9 rfl rfl (Za rfl rfl (Zm (v := Vi (0)) rfl rfl (Zb (Ze ?_)))))))))))))))))
 obtain ⟨aP, a6, hm⟩ := Zg hm
 obtain ⟨p, aj, aw, au, aq⟩ := ctl_some hm
 refine W_mid (M := fun f' w' => ∃ s', (p = .next s' ∨ p = .brk s') ∧ (fun (_ : Unit) => ∃ (ae : PHeap) , PHeap.le s ae ∧ St w0 ae (H) w' ∧ f' 0 = Value.string (a) ∧ f' 5 = Vi ((a.size : Int))) s') ?_ ?_
 ·refine W_block (W_forC (fun k' s' f' w' => (fun (_ : Unit) => ∃ (af : PHeap) , PHeap.le s af ∧ St w0 af (H) w' ∧ f' 0 = Value.string (a) ∧ f' 5 = Vi ((a.size : Int)) ∧ f' 6 = Vi (k' : Int)) s') aj ?_ ?_ ?_)
  ·exact ⟨s, (Zv _), hS, rfl, rfl, rfl⟩
  ·intro g aM q aH aQ ar ak c ax
   obtain ⟨o, y, t, l, n, m⟩ := ak
   refine Zc (Zd (Za rfl rfl (Zq rfl m n (Zb (Ze (Zc (W_true (Zx (decide_eq_true (by omega))) (W_skip (Ze (Zc (W_block (Zc (Zd (Za rfl rfl (Zm (v := Vi ((g : Int))) rfl m (Za rfl rfl (Zo (v := Vi ((g : Int))) rfl rfl (Zb (Ze (Zc ?_))))))))))))))))))))
   obtain ⟨j, d, c⟩ := Zg c
   refine W_mid (M := fun f' w' => (fun (j : Bool) => ∃ (ag : PHeap) , PHeap.le o ag ∧ St w0 ag (H) w' ∧ f' 0 = Value.string (a) ∧ f' 5 = Vi ((a.size : Int)) ∧ f' 6 = Vi ((g : Int)) ∧ f' 18 = Value.bool (j)) j) ?_ ?_
   ·refine Zd (Za rfl rfl (Zm (v := Value.string (a)) rfl l (Za rfl rfl (Zm (v := Vi ((g : Int))) rfl rfl ?_))))
    obtain ⟨ai, ac, d⟩ := Zg d
    refine Za rfl rfl (Exec.index_str Tryz.underlying9 rfl rfl rfl ac (Za rfl rfl (Zq rfl rfl rfl (Za rfl rfl (Zm (v := Value.bool (decide (ai < 32))) rfl rfl ?_)))))
    rcases ite_some d with ⟨b, d⟩ | ⟨b, d⟩
    ·refine WL_passes 5 (by rw [b]; rfl) ?_
     refine Zb (Ze ?_)
     have aB := Zu d
     subst j
     exact ⟨o, (Zv _), t, l, n, m, rfl⟩
    replace b := Zk b
    refine WL_run rfl (Zf rfl (Zx b)) rfl (Zm (v := Value.string (a)) rfl l (WL_run rfl (Zf rfl (Zx b)) rfl (Zm (v := Vi ((g : Int))) rfl rfl (WL_run rfl (Zf rfl (Zx b)) rfl (Exec.index_str Tryz.underlying9 rfl rfl rfl ac (WL_run rfl (Zf rfl (Zx b)) rfl (Exec.gtr rfl rfl rfl (Za rfl rfl (Exec.pick_f (v := Value.bool (decide (126 < ai))) rfl (Zx b) rfl (Zb (Ze ?_)))))))))))
    have aC := Zu d
    subst j
    exact ⟨o, (Zv _), t, l, n, m, rfl⟩
   intro aI aR am
   obtain ⟨ah, z, u, a1, a2, a3, aa⟩ := am
   refine (Ze ?_)
   rcases ite_some c with ⟨i, c⟩ | ⟨i, c⟩
   ·refine W_cond_t aa i (Zc (Zd (Za rfl rfl (Zo (v := Value.bool (false)) rfl rfl (Zb (Ze (W_ret (ib_ret (at_ret (at_ret (ib_ret (at_ret (at_ret ?_)))))))))))))
    have aD := Zu c
    subst q
    have av := aw _ (ax (by intro _ h; cases h))
    have aE := Zu av
    subst r
    refine ⟨_, ret1 rfl, ?_⟩
    exact ⟨ah, (Zt y z), u, rfl⟩
   refine W_cond_f aa i ?_
   replace i := Zk i
   refine W_skip (ib_normal (Ze (Zd (Za rfl rfl (Exec.add rfl a3 rfl (Za rfl rfl (Zm (v := Vi (IntKind.i64.wrap ((g : Int) + 1))) rfl rfl (Zb (Ze ?_)))))))))
   have aF := Zu c
   subst q
   refine ⟨_, rfl, ?_⟩; exact ⟨ah, (Zt y z), u, a1, a2, (Eq.trans rfl (wrap_up ar (by have h := must_some a6; simp at h; simp only [maxLen]; omega)))⟩
  intro aN aJ aS al ay
  obtain ⟨a7, az, ao, a4, ab, a9⟩ := al
  refine Zc (Zd (Za rfl rfl (Zq rfl a9 ab (Zb (Ze (Zc (W_false (Zx (decide_eq_false (by omega))) (W_exit (at_exit (at_exit (ib_here (Ze ?_))))))))))))
  refine ⟨_, .inl ay, ?_⟩; exact ⟨a7, az, ao, a4, ab⟩
 rintro aK aT ⟨aO, x, an⟩
 have hm := x.elim (au _) (aq _)
 clear x
 obtain ⟨a8, a0, ap, a5, aL⟩ := an
 refine (Ze (Zc (Zd (Za rfl rfl (Zm (v := Value.string (a)) rfl a5 (Za rfl rfl (Exec.len_str Tryz.underlying9 rfl rfl (Za rfl rfl (Exec.leq rfl rfl rfl (Za rfl rfl (Zo (v := Value.bool (decide ((a.size : Int) ≤ 256))) rfl rfl (Zb (Ze (W_ret ?_))))))))))))))
 have aG := Zu hm
 subst r
 refine ⟨_, ret1 rfl, ?_⟩
 exact ⟨a8, a0, ap, rfl⟩
theorem temporal_Check_sim {w0 w : World} {s : PHeap} {H : List Res} {a : Temporal} {ax : Value} {ao : Value} {ae : Value} {af : Value} {r : (Option Int)} (hm : temporal_Check_p a = some r) (hS : St w0 s (H) w) (bS : SliceRep (encInt .i64) s ax a.Vars) (bT : SliceRep (encInt .i64) s ao a.Init) (bU : SliceRep encFact s ae a.Goal) (bV : SliceRep encJob s af a.Jobs) :
  Calls Tryz.prog 34 #[Value.agg #[ax, ao, ae, af]] w fun e w' => ∃ v, e = .returned v ∧ ((fun (ea : (Option Int)) => ∃ (b0 : PHeap) , PHeap.le s b0 ∧ St w0 b0 (H) w' ∧ v = errV 77 (ea)) r) := by
 unfold temporal_Check_p at hm
 refine calls_of_W Tryz.func34 rfl rfl (Zc (Zd (Za rfl rfl (Exec.box (cs := [ax, ao, ae, af]) hS rfl rfl rfl ?_))))
 intro q fi cm
 obtain ⟨eL, ad, aS, o⟩ := St.freezeVar (E := encTemporal) (y := a) cm ⟨[ax], [ao, ae, af], rfl, ⟨_, rfl, bS⟩, ⟨[ao], [ae, af], rfl, ⟨_, rfl, bT⟩, ⟨[ae], [af], rfl, ⟨_, rfl, bU⟩, ⟨_, rfl, bV⟩⟩⟩⟩
 refine Za rfl rfl (Zo (v := errV 77 (none)) rfl rfl (Zb (Ze (Zc (Zd (Za rfl rfl (Zw (E := encTemporal) aS A26 rfl rfl rfl o ?_)))))))
 intro fa dj
 obtain ⟨eW, eX, eY, eZ, rfl, d4, d5, d6, d7⟩ := encTemporal_val.1 dj
 obtain ⟨f5, dk, hm⟩ := Zg hm
 refine Za rfl rfl (Tc rfl rfl rfl (Zi rfl args_nil) (temporal_lists_sim dk aS d4 d5 d6 d7).r ?_)
 rintro i fj ⟨aF, _, b, ah, rfl, bz⟩
 refine Za rfl rfl (Zo (v := i) rfl rfl (Zb (Ze (Zc (Zc ?_)))))
 obtain ⟨ag, d, hm⟩ := Zg hm
 refine W_mid (M := fun f' w' => (fun (ag : Bool) => ∃ (b1 : PHeap) , PHeap.le aF b1 ∧ St w0 b1 (H) w' ∧ f' 1 = Value.pointer (some ⟨q, 0, none⟩) ∧ f' 3 = i ∧ f' 25 = Value.bool (ag)) ag) ?_ ?_
 ·refine Zd (Za rfl rfl (Zp F26_0 rfl rfl rfl (Za rfl rfl (Zw (E := (encSlice (encInt .i64))) ah A22 rfl rfl rfl ((o.sub (Sub.iso (Sub.fst (Sub.refl _))) rfl).mono b) ?_))))
  intro fb dl
  have d8 : SliceRep _ _ _ (a.Vars) := encSlice_val.1 dl
  refine Za rfl rfl (Zr S22 rfl rfl d8 (Za rfl rfl (Exec.gtr rfl rfl rfl (Za rfl rfl (Zm (v := Value.bool (decide (64 < (a.Vars.length : Int)))) rfl rfl ?_)))))
  rcases ite_some d with ⟨j, d⟩ | ⟨j, d⟩
  ·refine WL_passes 9 (by rw [j]; rfl) ?_
   refine Zb (Ze ?_)
   have eg := Zu d
   subst ag
   exact ⟨aF, (Zv _), ah, rfl, rfl, rfl⟩
  replace j := Zk j
  refine WL_run rfl (Zf rfl (Zx j)) rfl (Zp F26_3 rfl rfl rfl (WL_run rfl (Zf rfl (Zx j)) rfl (Zw (E := (encSlice encJob)) ah A24 rfl rfl rfl ((o.sub (Sub.iso (Sub.snd (Sub.snd (Sub.snd (Sub.refl _) rfl) rfl) rfl)) rfl).mono b) ?_)))
  intro fc dm
  have d9 : SliceRep _ _ _ (a.Jobs) := encSlice_val.1 dm
  refine WL_run rfl (Zf rfl (Zx j)) rfl (Zr S24 rfl rfl d9 (WL_run rfl (Zf rfl (Zx j)) rfl (Exec.gtr rfl rfl rfl ?_)))
  refine WL_passes 2 (by rw [j]; rfl) ?_
  rcases ite_some d with ⟨aa, d⟩ | ⟨aa, d⟩
  ·refine WL_passes 3 (by rw [aa]; rfl) ?_
   refine Zb (Ze ?_)
   have eh := Zu d
   subst ag
   exact ⟨aF, (Zv _), ah, rfl, rfl, rfl⟩
  replace aa := Zk aa
  refine WL_run rfl (Zf rfl (Zx aa)) rfl (Zm (v := i) rfl rfl ?_)
  obtain ⟨dX, dn, d⟩ := Zg d
  refine WL_run rfl (Zf rfl (Zx aa)) rfl (Tc rfl rfl rfl (Zi rfl (Zi rfl args_nil)) (slices_ContainsFunc_apiFact_Check_c1_sim dn ah bz).r ?_)
  rintro _ fk ⟨dM, cI, cn, rfl⟩
  refine Za rfl rfl (Exec.pick_f (v := Value.bool (dX)) rfl (Zx aa) rfl (Zb (Ze ?_)))
  have ei := Zu d
  subst ag
  exact ⟨dM, cI, cn, rfl, rfl, rfl⟩
 intro ez fl cf
 obtain ⟨av, c, a1, bj, cO, bk⟩ := cf
 refine (Ze ?_)
 rcases ite_some hm with ⟨ai, hm⟩ | ⟨ai, hm⟩
 ·refine W_cond_t bk ai (Zc (Zd (Za rfl rfl (Exec.makeInterface C77 rfl rfl (Za rfl rfl (Zo (v := errV 77 (some 5)) rfl rfl (Zb (Ze (W_ret (at_ret ?_))))))))))
  have ej := Zu hm
  subst r
  refine ⟨_, ret1 rfl, ?_⟩
  exact ⟨av, (Zt (Zt ad b) c), a1, rfl⟩
 refine W_cond_f bk ai ?_
 replace ai := Zk ai
 refine W_skip (Ze (Zc (Zc (Zd (Za rfl rfl (Zp F26_0 rfl bj rfl (Za rfl rfl (Zw (E := (encSlice (encInt .i64))) a1 A22 rfl rfl rfl ((o.sub (Sub.iso (Sub.fst (Sub.refl _))) rfl).mono (Zt b c)) ?_))))))))
 intro aJ dp
 have aC : SliceRep _ _ _ (a.Vars) := encSlice_val.1 dp
 refine Za rfl rfl (Zr S22 rfl rfl aC (Za rfl rfl (Zm (v := Vi (0)) rfl rfl (Zb (Ze ?_)))))
 obtain ⟨aM, bW, c8, c2, cw⟩ := ctl_some hm
 refine W_mid (M := fun f' w' => ∃ s', (aM = .next s' ∨ aM = .brk s') ∧ (fun (_ : Unit) => ∃ (b2 : PHeap) , PHeap.le av b2 ∧ St w0 b2 (H) w' ∧ f' 1 = Value.pointer (some ⟨q, 0, none⟩) ∧ f' 3 = i ∧ f' 28 = aJ ∧ f' 29 = Vi ((a.Vars.length : Int))) s') ?_ ?_
 ·refine W_block (W_forC (fun k' s' f' w' => (fun (_ : Unit) => ∃ (b3 : PHeap) , PHeap.le av b3 ∧ St w0 b3 (H) w' ∧ f' 1 = Value.pointer (some ⟨q, 0, none⟩) ∧ f' 3 = i ∧ f' 28 = aJ ∧ f' 29 = Vi ((a.Vars.length : Int)) ∧ f' 30 = Vi (k' : Int)) s') bW ?_ ?_ ?_)
  ·exact ⟨av, (Zv _), a1, bj, cO, rfl, rfl, rfl⟩
  ·intro be eN aN e0 fm cz bZ ab cB
   obtain ⟨aG, a5, a2, bl, bm, a8, a9, ay⟩ := bZ
   refine Zc (Zd (Za rfl rfl (Zq rfl ay a9 (Zb (Ze (Zc (W_true (Zx (decide_eq_true (by omega))) (W_skip (Ze (Zc (W_block (Zc (Zd ?_)))))))))))))
   obtain ⟨z, dq, ab⟩ := Zg ab
   refine Za rfl rfl (Exec.index_rep S22 rfl a8 ay (aC.mono a5) dq ?_)
   intro eb eC bP
   refine Za rfl rfl (Zw (E := (encInt .i64)) a2 A3 rfl rfl rfl bP ?_)
   intro fd dr
   obtain rfl := encInt_val.1 dr
   refine Za rfl rfl (Zo (v := Vi (z)) rfl rfl (Zb (Ze (Zc (W_mid (M := fun f' w' => ∃ (b4 : PHeap) , PHeap.le aG b4 ∧ St w0 b4 (H) w' ∧ f' 1 = Value.pointer (some ⟨q, 0, none⟩) ∧ f' 3 = i ∧ f' 28 = aJ ∧ f' 29 = Vi ((a.Vars.length : Int)) ∧ f' 30 = Vi ((be : Int)) ∧ f' 39 = Value.bool (((decide (z < 1)) || decide (64 < z)))) ?_ ?_)))))
   ·refine Zd (Za rfl rfl (Zm (v := Vi (z)) rfl rfl (Za rfl rfl (Zq rfl rfl rfl (Za rfl rfl (Zm (v := Value.bool (decide (z < 1))) rfl rfl ?_))))))
    by_cases t : (decide (z < 1)) = true
    ·refine WL_passes 3 (by rw [t]; rfl) ?_
     refine Zb (Ze ?_)
     exact ⟨aG, (Zv _), a2, bl, bm, a8, a9, ay, (Zx (or_t t)).symm⟩
    replace t := Zk t
    refine WL_run rfl (Zf rfl (Zx t)) rfl (Zm (v := Vi (z)) rfl rfl (WL_run rfl (Zf rfl (Zx t)) rfl (Exec.gtr rfl rfl rfl (Za rfl rfl (Exec.pick_f (v := Value.bool (decide (64 < z))) rfl (Zx t) rfl (Zb (Ze ?_)))))))
    exact ⟨aG, (Zv _), a2, bl, bm, a8, a9, ay, (Zx (or_f t)).symm⟩
   intro e1 fn cg
   obtain ⟨b5, bg, aT, cP, cQ, cR, cS, cT, bn⟩ := cg
   refine (Ze ?_)
   rcases ite_some ab with ⟨aj, ab⟩ | ⟨aj, ab⟩
   ·refine W_cond_t bn aj (Zc (Zd (Za rfl rfl (Exec.makeInterface C77 rfl rfl (Za rfl rfl (Zo (v := errV 77 (some 1)) rfl rfl (Zb (Ze (W_ret (ib_ret (at_ret (at_ret (ib_ret (at_ret (at_ret ?_)))))))))))))))
    have ek := Zu ab
    subst aN
    have c5 := c8 _ (cB (by intro _ h; cases h))
    have el := Zu c5
    subst r
    refine ⟨_, ret1 rfl, ?_⟩
    exact ⟨b5, (Zt (Zt (Zt (Zt ad b) c) a5) bg), aT, rfl⟩
   refine W_cond_f bn aj ?_
   replace aj := Zk aj
   refine W_skip (ib_normal (Ze (Zd (Za rfl rfl (Exec.add rfl cT rfl (Za rfl rfl (Zm (v := Vi (IntKind.i64.wrap ((be : Int) + 1))) rfl rfl (Zb (Ze ?_)))))))))
   have em := Zu ab
   subst aN
   refine ⟨_, rfl, ?_⟩; exact ⟨b5, (Zt a5 bg), aT, cP, cQ, cR, cS, (Eq.trans rfl (wrap_up cz (SliceRep.le aC)))⟩
  intro eO e2 fo ca cC
  obtain ⟨dN, cJ, co, cU, cV, cW, bo, dU⟩ := ca
  refine Zc (Zd (Za rfl rfl (Zq rfl dU bo (Zb (Ze (Zc (W_false (Zx (decide_eq_false (by omega))) (W_exit (at_exit (at_exit (ib_here (Ze ?_))))))))))))
  refine ⟨_, .inl cC, ?_⟩; exact ⟨dN, cJ, co, cU, cV, cW, bo⟩
 rintro e3 fp ⟨eP, bb, ch⟩
 have hm := bb.elim (c2 _) (cw _)
 clear bb
 obtain ⟨aH, g, aU, bp, cX, eF, eG⟩ := ch
 refine (Ze (Zc (Zc (Zd (Za rfl rfl (Zp F26_3 rfl bp rfl (Za rfl rfl (Zw (E := (encSlice encJob)) aU A24 rfl rfl rfl ((o.sub (Sub.iso (Sub.snd (Sub.snd (Sub.snd (Sub.refl _) rfl) rfl) rfl)) rfl).mono (Zt (Zt b c) g)) ?_))))))))
 intro aK dt
 have aD : SliceRep _ _ _ (a.Jobs) := encSlice_val.1 dt
 refine Za rfl rfl (Zr S24 rfl rfl aD (Za rfl rfl (Zm (v := Vi (0)) rfl rfl (Zb (Ze ?_)))))
 obtain ⟨aO, bX, c9, c3, cx⟩ := ctl_some hm
 refine W_mid (M := fun f' w' => ∃ s', (aO = .next s' ∨ aO = .brk s') ∧ (fun (_ : Unit) => ∃ (b6 : PHeap) , PHeap.le aH b6 ∧ St w0 b6 (H) w' ∧ f' 1 = Value.pointer (some ⟨q, 0, none⟩) ∧ f' 3 = i ∧ f' 43 = aK ∧ f' 44 = Vi ((a.Jobs.length : Int))) s') ?_ ?_
 ·refine W_block (W_forC (fun k' s' f' w' => (fun (_ : Unit) => ∃ (b7 : PHeap) , PHeap.le aH b7 ∧ St w0 b7 (H) w' ∧ f' 1 = Value.pointer (some ⟨q, 0, none⟩) ∧ f' 3 = i ∧ f' 43 = aK ∧ f' 44 = Vi ((a.Jobs.length : Int)) ∧ f' 45 = Vi (k' : Int)) s') bX ?_ ?_ ?_)
  ·exact ⟨aH, (Zv _), aU, bp, cX, rfl, rfl, rfl⟩
  ·intro bf eQ aP e4 fq c0 cb ac cD
   obtain ⟨aI, a6, aV, bq, br, aA, aB, az⟩ := cb
   refine Zc (Zd (Za rfl rfl (Zq rfl az aB (Zb (Ze (Zc (W_true (Zx (decide_eq_true (by omega))) (W_skip (Ze (Zc (W_block (Zc (Zd ?_)))))))))))))
   obtain ⟨p, du, ac⟩ := Zg ac
   refine Za rfl rfl (Exec.index_rep S24 rfl aA az (aD.mono a6) du ?_)
   intro ec eD bQ
   refine Za rfl rfl (Zw (E := encJob) aV A59 rfl rfl rfl bQ ?_)
   intro fe dv
   obtain ⟨bE, bF, bG, bH, bI, rfl, dA, dB, dC, dD, dE⟩ := encJob_val.1 dv
   refine Za rfl rfl (Exec.alloc (cs := [Value.string (⟨#[]⟩), Vi (0), Value.slice none 0 0, Value.slice none 0 0, Value.slice none 0 0, Value.slice none 0 0, Value.slice none 0 0]) aV Z59 rfl rfl ?_)
   intro ed fr cp
   refine Za rfl rfl (Exec.store_box (ds := [Value.string (p.Name), Vi (p.Duration), bE, bF, bG, bH, bI]) (es := [Value.string (p.Name), Vi (p.Duration), bE, bF, bG, bH, bI]) cp A59 rfl rfl rfl rfl (Zj rfl (Zj rfl (Zj (dA).one (Zj (dB).one (Zj (dC).one (Zj (dD).one (Zj (dE).one one_nil))))))) (Nat.le_of_ble_eq_true rfl) rfl ?_)
   intro fs aq
   refine Zb (Ze (Zc (W_mid (M := fun f' w' => ∃ (b8 : PHeap) , PHeap.le aI b8 ∧ St w0 b8 (H) w' ∧ f' 1 = Value.pointer (some ⟨q, 0, none⟩) ∧ f' 3 = i ∧ f' 43 = aK ∧ f' 44 = Vi ((a.Jobs.length : Int)) ∧ f' 45 = Vi ((bf : Int)) ∧ f' 56 = Value.bool (((decide (p.Duration < 1)) || decide (62 < p.Duration)))) ?_ ?_)))
   ·refine Zd (Za rfl rfl (Zp F59_1 rfl rfl rfl (Za rfl rfl (Zn (aq) A3 rfl rfl rfl (Za rfl rfl (Zq rfl rfl rfl (Za rfl rfl (Zm (v := Value.bool (decide (p.Duration < 1))) rfl rfl ?_))))))))
    by_cases l : (decide (p.Duration < 1)) = true
    ·refine WL_passes 4 (by rw [l]; rfl) ?_
     refine Zb (Ze ?_)
     exact ⟨aI, (Zv _), (aq).drop, bq, br, aA, aB, az, (Zx (or_t l)).symm⟩
    replace l := Zk l
    refine WL_run rfl (Zf rfl (Zx l)) rfl (Zp F59_1 rfl rfl rfl (WL_run rfl (Zf rfl (Zx l)) rfl (Zn (aq) A3 rfl rfl rfl (WL_run rfl (Zf rfl (Zx l)) rfl (Exec.gtr rfl rfl rfl (Za rfl rfl (Exec.pick_f (v := Value.bool (decide (62 < p.Duration))) rfl (Zx l) rfl (Zb (Ze ?_)))))))))
    exact ⟨aI, (Zv _), (aq).drop, bq, br, aA, aB, az, (Zx (or_f l)).symm⟩
   intro e5 ft ci
   obtain ⟨b9, bh, aW, cY, cZ, da, db, dc, bs⟩ := ci
   refine (Ze ?_)
   rcases ite_some ac with ⟨ak, ac⟩ | ⟨ak, ac⟩
   ·refine W_cond_t bs ak (Zc (Zd (Za rfl rfl (Exec.makeInterface C77 rfl rfl (Za rfl rfl (Zo (v := errV 77 (some 1)) rfl rfl (Zb (Ze (W_ret (ib_ret (at_ret (at_ret (ib_ret (at_ret (at_ret ?_)))))))))))))))
    have en := Zu ac
    subst aP
    have c6 := c9 _ (cD (by intro _ h; cases h))
    have eo := Zu c6
    subst r
    refine ⟨_, ret1 rfl, ?_⟩
    exact ⟨b9, (Zt (Zt (Zt (Zt (Zt ad b) c) g) a6) bh), aW, rfl⟩
   refine W_cond_f bs ak ?_
   replace ak := Zk ak
   refine W_skip (ib_normal (Ze (Zd (Za rfl rfl (Exec.add rfl dc rfl (Za rfl rfl (Zm (v := Vi (IntKind.i64.wrap ((bf : Int) + 1))) rfl rfl (Zb (Ze ?_)))))))))
   have ep := Zu ac
   subst aP
   refine ⟨_, rfl, ?_⟩; exact ⟨b9, (Zt a6 bh), aW, cY, cZ, da, db, (Eq.trans rfl (wrap_up c0 (SliceRep.le aD)))⟩
  intro eR e6 fu cc cE
  obtain ⟨dO, cK, cq, dd, de, df, bt, dV⟩ := cc
  refine Zc (Zd (Za rfl rfl (Zq rfl dV bt (Zb (Ze (Zc (W_false (Zx (decide_eq_false (by omega))) (W_exit (at_exit (at_exit (ib_here (Ze ?_))))))))))))
  refine ⟨_, .inl cE, ?_⟩; exact ⟨dO, cK, cq, dd, de, df, bt⟩
 rintro e7 fv ⟨eS, bc, cj⟩
 have hm := bc.elim (c3 _) (cx _)
 clear bc
 obtain ⟨dP, x, a3, an, dg, eH, eI⟩ := cj
 refine (Ze (Zc (Zc ?_)))
 obtain ⟨ap, n, hm⟩ := Zg hm
 refine W_mid (M := fun f' w' => (fun (ap : Bool) => ∃ (bA : PHeap) , PHeap.le dP bA ∧ St w0 bA (H) w' ∧ f' 1 = Value.pointer (some ⟨q, 0, none⟩) ∧ f' 69 = Value.bool (ap)) ap) ?_ ?_
 ·refine Zd (Za rfl rfl (Zp F26_0 rfl an rfl (Za rfl rfl (Zw (E := (encSlice (encInt .i64))) a3 A22 rfl rfl rfl ((o.sub (Sub.iso (Sub.fst (Sub.refl _))) rfl).mono (Zt (Zt (Zt b c) g) x)) ?_))))
  intro ff dw
  have dF : SliceRep _ _ _ (a.Vars) := encSlice_val.1 dw
  refine Za rfl rfl (Zp F26_1 rfl an rfl (Za rfl rfl (Zw (E := (encSlice (encInt .i64))) a3 A22 rfl rfl rfl ((o.sub (Sub.iso (Sub.snd (Sub.fst (Sub.refl _)) rfl)) rfl).mono (Zt (Zt (Zt b c) g) x)) ?_)))
  intro fg dx
  have dG : SliceRep _ _ _ (a.Init) := encSlice_val.1 dx
  obtain ⟨dY, dy, n⟩ := Zg n
  refine Za rfl rfl (Tc rfl rfl rfl (Zi rfl (Zi rfl args_nil)) (task_Proper_sim dy a3 dF dG).r ?_)
  rintro _ fw ⟨dQ, ar, aX, rfl⟩
  refine Za rfl rfl (Exec.not rfl rfl (Za rfl rfl (Zm (v := Value.bool (!dY)) rfl rfl ?_)))
  rcases ite_some n with ⟨u, n⟩ | ⟨u, n⟩
  ·refine WL_passes 4 (by rw [u]; rfl) ?_
   refine Zb (Ze ?_)
   have er := Zu n
   subst ap
   exact ⟨dQ, ar, aX, an, rfl⟩
  replace u := Zk u
  refine WL_run rfl (Zf rfl (Zx u)) rfl (Zm (v := i) rfl dg (WL_run rfl (Zf rfl (Zx u)) rfl (Exec.makeFunc rfl (Zi an args_nil) ?_)))
  obtain ⟨dZ, dz, n⟩ := Zg n
  refine WL_run rfl (Zf rfl (Zx u)) rfl (Tc rfl rfl rfl (Zi rfl (Zi rfl args_nil)) (slices_ContainsFunc_apiFact_Check_c2_sim dz aX (bz.mono (Zt (Zt (Zt c g) x) ar)) (o.mono (Zt (Zt (Zt (Zt b c) g) x) ar))).r ?_)
  rintro _ fx ⟨dR, cL, cr, rfl⟩
  refine Za rfl rfl (Exec.pick_f (v := Value.bool (dZ)) rfl (Zx u) rfl (Zb (Ze ?_)))
  have et := Zu n
  subst ap
  exact ⟨dR, (Zt ar cL), cr, an, rfl⟩
 intro e8 fy ck
 obtain ⟨aw, au, a4, dh, bu⟩ := ck
 refine (Ze ?_)
 rcases ite_some hm with ⟨al, hm⟩ | ⟨al, hm⟩
 ·refine W_cond_t bu al (Zc (Zd (Za rfl rfl (Exec.makeInterface C77 rfl rfl (Za rfl rfl (Zo (v := errV 77 (some 2)) rfl rfl (Zb (Ze (W_ret (at_ret ?_))))))))))
  have eu := Zu hm
  subst r
  refine ⟨_, ret1 rfl, ?_⟩
  exact ⟨aw, (Zt (Zt (Zt (Zt (Zt ad b) c) g) x) au), a4, rfl⟩
 refine W_cond_f bu al ?_
 replace al := Zk al
 refine W_skip (Ze (Zc (Zc (Zd (Za rfl rfl (Zp F26_3 rfl dh rfl (Za rfl rfl (Zw (E := (encSlice encJob)) a4 A24 rfl rfl rfl ((o.sub (Sub.iso (Sub.snd (Sub.snd (Sub.snd (Sub.refl _) rfl) rfl) rfl)) rfl).mono (Zt (Zt (Zt (Zt b c) g) x) au)) ?_))))))))
 intro bO d0
 have aE : SliceRep _ _ _ (a.Jobs) := encSlice_val.1 d0
 refine Za rfl rfl (Zr S24 rfl rfl aE (Za rfl rfl (Zm (v := Vi (0)) rfl rfl (Zb (Ze ?_)))))
 obtain ⟨aQ, bY, cA, c4, cy⟩ := ctl_some hm
 refine W_mid (M := fun f' w' => ∃ s', (aQ = .next s' ∨ aQ = .brk s') ∧ (fun (_ : Unit) => ∃ (bB : PHeap) , PHeap.le aw bB ∧ St w0 bB (H) w' ∧ f' 72 = bO ∧ f' 73 = Vi ((a.Jobs.length : Int))) s') ?_ ?_
 ·refine W_block (W_forC (fun k' s' f' w' => (fun (_ : Unit) => ∃ (bC : PHeap) , PHeap.le aw bC ∧ St w0 bC (H) w' ∧ f' 72 = bO ∧ f' 73 = Vi ((a.Jobs.length : Int)) ∧ f' 74 = Vi (k' : Int)) s') bY ?_ ?_ ?_)
  ·exact ⟨aw, (Zv _), a4, rfl, rfl, rfl⟩
  ·intro cH eT aR e9 fz c1 cd m cF
   obtain ⟨eM, a7, aY, bv, bw, aL⟩ := cd
   refine Zc (Zd (Za rfl rfl (Zq rfl aL bw (Zb (Ze (Zc (W_true (Zx (decide_eq_true (by omega))) (W_skip (Ze (Zc (W_block (Zc (Zd ?_)))))))))))))
   obtain ⟨a0, d1, m⟩ := Zg m
   refine Za rfl rfl (Exec.index_rep S24 rfl bv aL (aE.mono a7) d1 ?_)
   intro ee eE bR
   refine Za rfl rfl (Zw (E := encJob) aY A59 rfl rfl rfl bR ?_)
   intro fh d2
   obtain ⟨bJ, bK, bL, bM, bN, rfl, dH, dI, dJ, dK, dL⟩ := encJob_val.1 d2
   refine Za rfl rfl (Exec.alloc (cs := [Value.string (⟨#[]⟩), Vi (0), Value.slice none 0 0, Value.slice none 0 0, Value.slice none 0 0, Value.slice none 0 0, Value.slice none 0 0]) aY Z59 rfl rfl ?_)
   intro ef f0 ct
   refine Za rfl rfl (Exec.store_box (ds := [Value.string (a0.Name), Vi (a0.Duration), bJ, bK, bL, bM, bN]) (es := [Value.string (a0.Name), Vi (a0.Duration), bJ, bK, bL, bM, bN]) ct A59 rfl rfl rfl rfl (Zj rfl (Zj rfl (Zj (dH).one (Zj (dI).one (Zj (dJ).one (Zj (dK).one (Zj (dL).one one_nil))))))) (Nat.le_of_ble_eq_true rfl) rfl ?_)
   intro f1 aZ
   refine Zb (Ze (Zc (Zd (Za rfl rfl (Zp F59_0 rfl rfl rfl (Za rfl rfl (Zn (aZ) A9 rfl rfl rfl ?_)))))))
   obtain ⟨f6, d3, m⟩ := Zg m
   refine Za rfl rfl (Tc rfl rfl rfl (Zi rfl args_nil) (temporal_named_sim d3 aZ ).r ?_)
   rintro _ f2 ⟨bD, bi, ba, rfl⟩
   refine Za rfl rfl (Exec.not rfl rfl (Zb (Ze ?_)))
   rcases ite_some m with ⟨am, m⟩ | ⟨am, m⟩
   ·refine W_cond_t rfl am (Zc (Zd (Za rfl rfl (Exec.makeInterface C77 rfl rfl (Za rfl rfl (Zo (v := errV 77 (some 8)) rfl rfl (Zb (Ze (W_ret (ib_ret (at_ret (at_ret (ib_ret (at_ret (at_ret ?_)))))))))))))))
    have ev := Zu m
    subst aR
    have c7 := cA _ (cF (by intro _ h; cases h))
    have ew := Zu c7
    subst r
    refine ⟨_, ret1 rfl, ?_⟩
    exact ⟨bD, (Zt (Zt (Zt (Zt (Zt (Zt (Zt ad b) c) g) x) au) a7) bi), (ba).drop, rfl⟩
   refine W_cond_f rfl am ?_
   replace am := Zk am
   refine W_skip (ib_normal (Ze (Zd (Za rfl rfl (Exec.add rfl aL rfl (Za rfl rfl (Zm (v := Vi (IntKind.i64.wrap ((cH : Int) + 1))) rfl rfl (Zb (Ze ?_)))))))))
   have ex := Zu m
   subst aR
   refine ⟨_, rfl, ?_⟩; exact ⟨bD, (Zt a7 bi), (ba).drop, bv, bw, (Eq.trans rfl (wrap_up c1 (SliceRep.le aE)))⟩
  intro eU eA f3 ce cG
  obtain ⟨dS, cM, cu, di, bx, dW⟩ := ce
  refine Zc (Zd (Za rfl rfl (Zq rfl dW bx (Zb (Ze (Zc (W_false (Zx (decide_eq_false (by omega))) (W_exit (at_exit (at_exit (ib_here (Ze ?_))))))))))))
  refine ⟨_, .inl cG, ?_⟩; exact ⟨dS, cM, cu, di, bx⟩
 rintro eB f4 ⟨eV, bd, cl⟩
 have hm := bd.elim (c4 _) (cy _)
 clear bd
 obtain ⟨dT, cN, cv, eJ, eK⟩ := cl
 refine (Ze (Zc (Zd (Za rfl rfl (Zo (v := errV 77 (none)) rfl rfl (Zb (Ze (W_ret ?_))))))))
 have ey := Zu hm
 subst r
 refine ⟨_, ret1 rfl, ?_⟩
 exact ⟨dT, (Zt (Zt (Zt (Zt (Zt (Zt ad b) c) g) x) au) cN), cv, rfl⟩
theorem S27 : tySlice Tryz.prog 27 = some (64, 2, 16) := by kernel_rfl
theorem A64 : tyAgg Tryz.prog 64 = some (true, 2) := by kernel_rfl
theorem Z64 : tyZero Tryz.prog 64 = some (Value.agg #[Vi (0), Vi (0)]) := by kernel_rfl
theorem F64_1 : tyField Tryz.prog 64 1 = some 1 := by kernel_rfl
theorem F64_0 : tyField Tryz.prog 64 0 = some 0 := by kernel_rfl
theorem temporal_accept_sim {w0 w : World} {s : PHeap} {H : List Res} {l : Temporal} {aa : (List Launch)} {m : Value} {n : Value} {o : Value} {p : Value} {q : Value} {r : (Option Int)} (hm : temporal_accept_p l aa = some r) (hS : St w0 s (H) w) (a3 : SliceRep (encInt .i64) s m l.Vars) (a4 : SliceRep (encInt .i64) s n l.Init) (a5 : SliceRep encFact s o l.Goal) (ak : SliceRep encJob s p l.Jobs) (ag : SliceRep encLaunch s q aa) :
  Calls Tryz.prog 38 #[Value.agg #[m, n, o, p], q] w fun e w' => ∃ v, e = .returned v ∧ ((fun (aZ : (Option Int)) => ∃ (ax : PHeap) , PHeap.le s ax ∧ St w0 ax (H) w' ∧ v = errV 77 (aZ)) r) := by
 unfold temporal_accept_p at hm
 refine calls_of_W Tryz.func38 rfl rfl (Zc (Zd (Za rfl rfl (Exec.box (cs := [m, n, o, p]) hS rfl rfl rfl ?_))))
 intro t bu an
 refine Za rfl rfl (Zo (v := errV 77 (none)) rfl rfl (Zb (Ze (Zc (Zc (Zd (Za rfl rfl (Exec.load_box_agg (ds := [m, n, o, p]) (an) A26 rfl rfl rfl ?_))))))))
 obtain ⟨ai, aT, hm⟩ := Zg hm
 refine Za rfl rfl (Tc rfl rfl rfl (Zi rfl args_nil) (temporal_Check_sim aT an a3 a4 a5 ak).r ?_)
 rintro _ bv ⟨ae, i, aj, rfl⟩
 refine Za rfl rfl (Zo (v := errV 77 (ai)) rfl rfl (Zb (Ze (Zc (Zd (Za rfl rfl (Zm (v := errV 77 (ai)) rfl rfl (Za rfl rfl (Exec.err_neq_nil (T := 77) Tryz.underlying36 rfl rfl rfl (Zb (Ze ?_)))))))))))
 rcases ite_some hm with ⟨x, hm⟩ | ⟨x, hm⟩
 ·refine W_cond_t rfl x (Zc (Zd (Za rfl rfl (Zm (v := errV 77 (ai)) rfl rfl (Za rfl rfl (Zo (v := errV 77 (ai)) rfl rfl (Zb (Ze (W_ret (at_ret ?_))))))))))
  have bc := Zu hm
  subst r
  refine ⟨_, ret1 rfl, ?_⟩
  exact ⟨ae, i, (aj).drop, rfl⟩
 refine W_cond_f rfl x ?_
 replace x := Zk x
 refine W_skip (Ze (Zc (Zc (Zd (Za rfl rfl (Zm (v := q) rfl rfl (Za rfl rfl (Zr S27 rfl rfl (ag.mono i) (Za rfl rfl (Exec.gtr rfl rfl rfl (Zb (Ze ?_))))))))))))
 rcases ite_some hm with ⟨y, hm⟩ | ⟨y, hm⟩
 ·refine W_cond_t rfl y (Zc (Zd (Za rfl rfl (Exec.makeInterface C77 rfl rfl (Za rfl rfl (Zo (v := errV 77 (some 5)) rfl rfl (Zb (Ze (W_ret (at_ret ?_))))))))))
  have bd := Zu hm
  subst r
  refine ⟨_, ret1 rfl, ?_⟩
  exact ⟨ae, i, (aj).drop, rfl⟩
 refine W_cond_f rfl y ?_
 replace y := Zk y
 refine W_skip (Ze (Zc (Zc (Zd (Za rfl rfl (Zm (v := q) rfl rfl (Za rfl rfl (Zr S27 rfl rfl (ag.mono i) (Za rfl rfl (Zm (v := Vi (0)) rfl rfl (Zb (Ze ?_))))))))))))
 obtain ⟨al, a6, aI, aG, aE⟩ := ctl_some hm
 refine W_mid (M := fun f' w' => ∃ s', (al = .next s' ∨ al = .brk s') ∧ (fun (_ : Unit) => ∃ (ay : PHeap) , PHeap.le ae ay ∧ St w0 ay (Res.box t 26 [m, n, o, p] :: H) w' ∧ f' 2 = Value.pointer (some ⟨t, 0, none⟩) ∧ f' 17 = q ∧ f' 18 = Vi ((aa.length : Int))) s') ?_ ?_
 ·refine W_block (W_forC (fun k' s' f' w' => (fun (_ : Unit) => ∃ (az : PHeap) , PHeap.le ae az ∧ St w0 az (Res.box t 26 [m, n, o, p] :: H) w' ∧ f' 2 = Value.pointer (some ⟨t, 0, none⟩) ∧ f' 17 = q ∧ f' 18 = Vi ((aa.length : Int)) ∧ f' 19 = Vi (k' : Int)) s') a6 ?_ ?_ ?_)
  ·exact ⟨ae, (Zv _), aj, rfl, rfl, rfl, rfl⟩
  ·intro ar bq am bi bw aF a7 j aJ
   obtain ⟨af, ah, ao, ab, ac, ad, u⟩ := a7
   refine Zc (Zd (Za rfl rfl (Zq rfl u ad (Zb (Ze (Zc (W_true (Zx (decide_eq_true (by omega))) (W_skip (Ze (Zc (W_block (Zc (Zd ?_)))))))))))))
   obtain ⟨b, aU, j⟩ := Zg j
   refine Za rfl rfl (Exec.index_rep S27 rfl ac u (ag.mono (Zt i ah)) aU ?_)
   intro ba bm a2
   refine Za rfl rfl (Zw (E := encLaunch) ao A64 rfl rfl rfl a2 ?_)
   intro bt aV
   obtain rfl := encLaunch_val.1 aV
   refine Za rfl rfl (Exec.alloc (cs := [Vi (0), Vi (0)]) ao Z64 rfl rfl ?_)
   intro bb bx aB
   refine Za rfl rfl (Exec.store_box (ds := [Vi (b.At), Vi (b.Job)]) (es := [Vi (b.At), Vi (b.Job)]) aB A64 rfl rfl rfl rfl (Zj rfl (Zj rfl one_nil)) (Nat.le_of_ble_eq_true rfl) rfl ?_)
   intro bz d
   refine Zb (Ze (Zc (W_mid (M := fun f' w' => ∃ (a0 : PHeap) , PHeap.le af a0 ∧ St w0 a0 (Res.box t 26 [m, n, o, p] :: H) w' ∧ f' 2 = Value.pointer (some ⟨t, 0, none⟩) ∧ f' 17 = q ∧ f' 18 = Vi ((aa.length : Int)) ∧ f' 19 = Vi ((ar : Int)) ∧ f' 43 = Value.bool (((decide (b.Job < 0)) || ((decide ((l.Jobs.length : Int) ≤ b.Job)) || ((decide (b.At < 0)) || decide (1048576 < b.At)))))) ?_ ?_)))
   ·refine Zd (Za rfl rfl (Zp F64_1 rfl rfl rfl (Za rfl rfl (Zn (d) A3 rfl rfl rfl (Za rfl rfl (Zq rfl rfl rfl (Za rfl rfl (Zm (v := Value.bool (decide (b.Job < 0))) rfl rfl ?_))))))))
    by_cases a : (decide (b.Job < 0)) = true
    ·refine WL_passes 17 (by rw [a]; rfl) ?_
     refine Zb (Ze ?_)
     exact ⟨af, (Zv _), (d).drop, ab, ac, ad, u, (Zx (or_t a)).symm⟩
    replace a := Zk a
    refine WL_run rfl (Zf rfl (Zx a)) rfl (Zp F64_1 rfl rfl rfl (WL_run rfl (Zf rfl (Zx a)) rfl (Zn (d) A3 rfl rfl rfl (WL_run rfl (Zf rfl (Zx a)) rfl (Zp F26_3 rfl ab rfl (WL_run rfl (Zf rfl (Zx a)) rfl (Zn ((d).f1) A24 rfl rfl rfl (WL_run rfl (Zf rfl (Zx a)) rfl (Zr S24 rfl rfl (ak.mono (Zt i ah)) (WL_run rfl (Zf rfl (Zx a)) rfl (Exec.geq rfl rfl rfl ?_)))))))))))
    refine WL_passes 2 (by rw [a]; rfl) ?_
    by_cases c : (decide ((l.Jobs.length : Int) ≤ b.Job)) = true
    ·refine WL_passes 9 (by rw [c]; rfl) ?_
     refine Zb (Ze ?_)
     exact ⟨af, (Zv _), (d).drop, ab, ac, ad, u, (Zx (Eq.trans (or_f a) (or_t c))).symm⟩
    replace c := Zk c
    refine WL_run rfl (Zf rfl (Zx c)) rfl (Zp F64_0 rfl rfl rfl (WL_run rfl (Zf rfl (Zx c)) rfl (Zn (d) A3 rfl rfl rfl (WL_run rfl (Zf rfl (Zx c)) rfl (Zq rfl rfl rfl ?_)))))
    refine WL_passes 2 (by rw [c]; rfl) ?_
    by_cases g : (decide (b.At < 0)) = true
    ·refine WL_passes 4 (by rw [g]; rfl) ?_
     refine Zb (Ze ?_)
     exact ⟨af, (Zv _), (d).drop, ab, ac, ad, u, (Zx (Eq.trans (or_f a) (Eq.trans (or_f c) (or_t g)))).symm⟩
    replace g := Zk g
    refine WL_run rfl (Zf rfl (Zx g)) rfl (Zp F64_0 rfl rfl rfl (WL_run rfl (Zf rfl (Zx g)) rfl (Zn (d) A3 rfl rfl rfl (WL_run rfl (Zf rfl (Zx g)) rfl (Exec.gtr rfl rfl rfl (Za rfl rfl (Exec.pick_f (v := Value.bool (decide (1048576 < b.At))) rfl (Zx g) rfl (Zb (Ze ?_)))))))))
    exact ⟨af, (Zv _), (d).drop, ab, ac, ad, u, (Zx (Eq.trans (or_f a) (Eq.trans (or_f c) (or_f g)))).symm⟩
   intro bj b0 a9
   obtain ⟨a1, au, ap, aN, aO, aP, aQ, av⟩ := a9
   refine (Ze ?_)
   rcases ite_some j with ⟨z, j⟩ | ⟨z, j⟩
   ·refine W_cond_t av z (Zc (Zd (Za rfl rfl (Exec.makeInterface C77 rfl rfl (Za rfl rfl (Zo (v := errV 77 (some 1)) rfl rfl (Zb (Ze (W_ret (ib_ret (at_ret (at_ret (ib_ret (at_ret (at_ret ?_)))))))))))))))
    have be := Zu j
    subst am
    have aH := aI _ (aJ (by intro _ h; cases h))
    have bf := Zu aH
    subst r
    refine ⟨_, ret1 rfl, ?_⟩
    exact ⟨a1, (Zt (Zt i ah) au), (ap).drop, rfl⟩
   refine W_cond_f av z ?_
   replace z := Zk z
   refine W_skip (ib_normal (Ze (Zd (Za rfl rfl (Exec.add rfl aQ rfl (Za rfl rfl (Zm (v := Vi (IntKind.i64.wrap ((ar : Int) + 1))) rfl rfl (Zb (Ze ?_)))))))))
   have bg := Zu j
   subst am
   refine ⟨_, rfl, ?_⟩; exact ⟨a1, (Zt ah au), ap, aN, aO, aP, (Eq.trans rfl (wrap_up aF (SliceRep.le (ag.mono i))))⟩
  intro br bk b1 a8 aK
  obtain ⟨aW, aL, aC, aR, aS, aw, aY⟩ := a8
  refine Zc (Zd (Za rfl rfl (Zq rfl aY aw (Zb (Ze (Zc (W_false (Zx (decide_eq_false (by omega))) (W_exit (at_exit (at_exit (ib_here (Ze ?_))))))))))))
  refine ⟨_, .inl aK, ?_⟩; exact ⟨aW, aL, aC, aR, aS, aw⟩
 rintro bl b2 ⟨bs, aq, aA⟩
 have hm := aq.elim (aG _) (aE _)
 clear aq
 obtain ⟨aX, aM, aD, bn, bo, bp⟩ := aA
 refine (Ze (Zc (Zd (Za rfl rfl (Zo (v := errV 77 (none)) rfl rfl (Zb (Ze (W_ret ?_))))))))
 have bh := Zu hm
 subst r
 refine ⟨_, ret1 rfl, ?_⟩
 exact ⟨aX, (Zt i aM), (aD).drop, rfl⟩
theorem Z100 : tyZero Tryz.prog 100 = some (Value.slice none 0 0) := by kernel_rfl
theorem S100 : tySlice Tryz.prog 100 = some (127, 2, 16) := by kernel_rfl
theorem Z127 : tyZero Tryz.prog 127 = some (Value.agg #[Vi (0), Value.bool false]) := by kernel_rfl
theorem temporal_end_sim {w0 w : World} {s : PHeap} {H : List Res} {c : Temporal} {a : Launch} {d : Value} {f : Value} {g : Value} {h : Value} {r : Int} (hm : temporal_end_p c a = some r) (hS : St w0 s (H) w) (t : SliceRep (encInt .i64) s d c.Vars) (u : SliceRep (encInt .i64) s f c.Init) (x : SliceRep encFact s g c.Goal) (k : SliceRep encJob s h c.Jobs) :
  Calls Tryz.prog 69 #[Value.agg #[d, f, g, h], Value.agg #[Vi (a.At), Vi (a.Job)]] w fun e w' => ∃ v, e = .returned v ∧ ((fun (q : Int) => ∃ (i : PHeap) , PHeap.le s i ∧ St w0 i (H) w' ∧ v = Vi (q)) r) := by
 unfold temporal_end_p at hm
 refine calls_of_W Tryz.func69 rfl rfl (Zc (Zd (Za rfl rfl (Exec.box (cs := [d, f, g, h]) hS rfl rfl rfl ?_))))
 intro y ae m
 refine Za rfl rfl (Exec.box (cs := [Vi (a.At), Vi (a.Job)]) m rfl rfl rfl ?_)
 intro z af b
 refine Za rfl rfl (Zo (v := Vi (0)) rfl rfl (Zb (Ze (Zc (W_dl (n0 := 10) (qs 0 10 .done) hmix (by kernel_rfl) (by kernel_rfl) (DL_q rfl rfl (Zp F64_0 rfl rfl rfl ⟨rfl, ?_⟩)))))))
 refine DL_q rfl rfl (Zn (b.drew) A3 rfl rfl rfl ⟨rfl, ?_⟩)
 refine DL_q rfl rfl (Zp F26_3 rfl rfl rfl ⟨rfl, ?_⟩)
 refine DL_q rfl rfl (Zn ((b.drew).f1) A24 rfl rfl rfl ⟨rfl, ?_⟩)
 refine DL_q rfl rfl (Zp F64_1 rfl rfl rfl ⟨rfl, ?_⟩)
 refine DL_q rfl rfl (Zn (b.drew) A3 rfl rfl rfl ⟨rfl, ?_⟩)
 obtain ⟨j, n, hm⟩ := Zg hm
 refine DL_q rfl rfl (Exec.index_repE S24 rfl rfl rfl k n ?_)
 intro aa ad l ab
 refine ⟨rfl, ?_⟩
 refine DL_q rfl rfl (Zp F59_1 rfl rfl rfl ⟨rfl, ?_⟩)
 refine DL_q rfl rfl (Zw (E := (encInt .i64)) b.drew A3 rfl rfl rfl (l.sub (Sub.iso (Sub.snd (Sub.fst (Sub.refl _)) rfl)) rfl) ?_)
 intro p o
 obtain rfl : p = Vi (j.Duration) := encInt_val.1 o
 refine ⟨rfl, ?_⟩
 refine DL_q rfl rfl (Exec.add rfl rfl rfl ⟨rfl, ?_⟩)
 refine DL_done (Za rfl rfl (Zo (v := Vi (IntKind.i64.wrap (a.At + j.Duration))) rfl rfl (Zb (Ze (W_ret ?_)))))
 have ac := Zu hm
 subst r
 refine ⟨_, ret1 rfl, ?_⟩
 exact ⟨s, (Zv _), ((b.drew).drop).drop, rfl⟩
theorem Z3 : tyZero Tryz.prog 3 = some (Vi (0)) := by kernel_rfl
end Go.Pw
