/-
  The walks (printed by my generator).
-/
import Derived.Test.YtcabhickgjhkhaaGreatDoorL33
import Derived.Test.YtcabhickgjhkhaaGreatDoorL27
import Derived.Test.YtcabhickgjhkhaaGreatDoorIhP
import Derived.Test.YtcabhickgjhkhaaGreatDoorL8
import Derived.Test.YtcabhickgjhkhaaGreatDoorL9
import Derived.Test.YtcabhickgjhkhaaGreatDoorL12
import Derived.Test.YtcabhickgjhkhaaGreatDoorL14
import Derived.Test.YtcabhickgjhkhaaGreatDoorL16
import Derived.Test.YtcabhickgjhkhaaGreatDoorL21
import Derived.Test.YtcabhickgjhkhaaGreatDoorL18
import Derived.Test.YtcabhickgjhkhaaGreatDoorL23
import Derived.Test.YtcabhickgjhkhaaGreatDoorL26
import Derived.Test.YtcabhickgjhkhaaGreatDoorL30
import Derived.Test.YtcabhickgjhkhaaGreatDoorL31
import Derived.Test.YtcabhickgjhkhaaGreatDoorL34
import Derived.Test.YtcabhickgjhkhaaGreatDoorL35
import Derived.Test.YtcabhickgjhkhaaGreatDoorL36
import Derived.Test.YtcabhickgjhkhaaGreatDoorL38
import Derived.Test.YtcabhickgjhkhaaGreatDoorL39
import Derived.Test.YtcabhickgjhkhaaGreatDoorL40
import Derived.Test.YtcabhickgjhkhaaGreatDoorL41
import Derived.Test.YtcabhickgjhkhaaGreatDoorL42
import Derived.Test.YtcabhickgjhkhaaGreatDoorL43
import Derived.Test.YtcabhickgjhkhaaGreatDoorL44
import Derived.Test.YtcabhickgjhkhaaGreatDoorL45
import Derived.Test.YtcabhickgjhkhaaGreatDoorL46
import Derived.Test.YtcabhickgjhkhaaGreatDoorProg
import Derived.KernelRfl
set_option maxRecDepth 100000
set_option maxHeartbeats 4000000
set_option linter.unusedVariables false
namespace Go.Pw
open Go.Proofs
theorem okAll : okCallees Tryz.prog 175 [0, 1, 124, 144, 145, 146, 147, 148, 149, 150, 151, 152, 153, 154, 155, 156, 157, 158, 159, 160, 161, 162, 163, 164, 165, 166, 167, 168, 169, 170, 171, 172, 173] = true := by kernel_rfl
theorem Tc {ρ : Operand → Value} {o : Oper} {w : World} {K : Value → World → Prop} {Q : Value → World → Prop} {f : FuncId} {args : List Operand} {ts : Array TypeId} {vs : List Value} (ho : o.op = .call { callee := .value (.func f), args := args.toArray, argTypes := ts }) (hc : ρ (.func f) = .func (.func f) #[] #[]) (hlt : okAt 175 [0, 1, 124, 144, 145, 146, 147, 148, 149, 150, 151, 152, 153, 154, 155, 156, 157, 158, 159, 160, 161, 162, 163, 164, 165, 166, 167, 168, 169, 170, 171, 172, 173] f = true) (hargs : List.map ρ args = vs) (h : Calls Tryz.prog f vs.toArray w fun e w' => ∃ v, e = .returned v ∧ Q v w') (hk : ∀ v w', Q v w' → K v w') : Exec Tryz.prog ρ o w K := Exec.callR okAll ho hc hlt hargs h hk
theorem Z28 : tyZero Tryz.prog 28 = some (Value.agg #[Value.slice none 0 0, Value.slice none 0 0, Value.slice none 0 0, Value.slice none 0 0, Value.slice none 0 0]) := by kernel_rfl
theorem S54 : tySlice Tryz.prog 54 = some (9, 1, 16) := by kernel_rfl
theorem A9 : tyAgg Tryz.prog 9 = some (false, 1) := by kernel_rfl
theorem S22 : tySlice Tryz.prog 22 = some (56, 2, 40) := by kernel_rfl
theorem Z56 : tyZero Tryz.prog 56 = some (Value.agg #[Value.string ⟨#[]⟩, Value.slice none 0 0]) := by kernel_rfl
theorem Z63 : tyZero Tryz.prog 63 = some (Value.agg #[Value.string ⟨#[]⟩, Vi (0), Value.slice none 0 0, Value.slice none 0 0, Value.slice none 0 0, Value.slice none 0 0, Value.slice none 0 0]) := by kernel_rfl
theorem A63 : tyAgg Tryz.prog 63 = some (true, 7) := by kernel_rfl
theorem law20_move_sim {w0 w : World} {s : PHeap} {H : List Res} {a : Int} {b : Int}  {r : GOp} (hm : law20_move_p a b = some r) (hS : St w0 s (H) w)  :
  Calls Tryz.prog 44 #[Vi (a), Vi (b)] w fun e w' => ∃ v, e = .returned v ∧ ((fun (g : GOp) => ∃ (f : PHeap) (l : Value) (m : Value) (n : Value) (o : Value) (p : Value), PHeap.le s f ∧ St w0 f (H) w' ∧ v = Value.agg #[Value.string (g.Name), Vi (g.Cost), l, m, n, o, p] ∧ SliceRep (encInt .i64) f l g.Pre.Pos ∧ SliceRep (encInt .i64) f m g.Pre.Neg ∧ SliceRep encGTest f n g.Pre.Tests ∧ SliceRep encGChange f o g.Changes ∧ SliceRep encGAssign f p g.Assigns) r) := by
 unfold law20_move_p at hm
 refine calls_of_W Tryz.func44 rfl rfl (Zc (Zd (Za rfl rfl (Exec.alloc (cs := [Value.string (⟨#[]⟩), Vi (0), Value.slice none 0 0, Value.slice none 0 0, Value.slice none 0 0, Value.slice none 0 0, Value.slice none 0 0]) hS Z63 rfl rfl ?_))))
 intro ae ah q
 refine Zb (Ze (Zc (Zd (Za rfl rfl (Zm (v := Vi (a)) rfl rfl (Za rfl rfl (Exec.buildSlice (Te := 3) (cs := [Vi (a)]) q rfl (parts_cons (c := [Vi (a)]) (cells_of rfl rfl) parts_nil) (fun _ => by kernel_rfl) ?_)))))))
 intro d ai t
 refine Za rfl rfl (Exec.build rfl (parts_cons (c := [Value.slice (some ⟨d, 0, none⟩) 1 1]) (cells_of rfl rfl) parts_nil) (v := Value.agg #[Value.slice (some ⟨d, 0, none⟩) 1 1, Value.slice none 0 0, Value.slice none 0 0]) (fun _ => by kernel_rfl) (Za rfl rfl (Zm (v := Vi (a)) rfl rfl (Za rfl rfl (Exec.build rfl (parts_cons (c := [Vi (a)]) (cells_of rfl rfl) parts_nil) (v := Value.agg #[Value.slice none 0 0, Value.slice none 0 0, Value.slice none 0 0, Vi (a), Value.bool (false)]) (fun _ => by kernel_rfl) (Za rfl rfl (Zm (v := Vi (b)) rfl rfl (Za rfl rfl (Exec.build rfl (parts_cons (c := [Vi (b)]) (cells_of rfl rfl) (parts_cons (c := [Value.bool (true)]) (cells_of rfl rfl) parts_nil)) (v := Value.agg #[Value.slice none 0 0, Value.slice none 0 0, Value.slice none 0 0, Vi (b), Value.bool (true)]) (fun _ => by kernel_rfl) (Za rfl rfl (Exec.buildSlice (Te := 81) (cs := [Value.slice none 0 0, Value.slice none 0 0, Value.slice none 0 0, Vi (a), Value.bool (false), Value.slice none 0 0, Value.slice none 0 0, Value.slice none 0 0, Vi (b), Value.bool (true)]) t rfl (parts_cons (c := [Value.slice none 0 0, Value.slice none 0 0, Value.slice none 0 0, Vi (a), Value.bool (false)]) (cells_of rfl rfl) (parts_cons (c := [Value.slice none 0 0, Value.slice none 0 0, Value.slice none 0 0, Vi (b), Value.bool (true)]) (cells_of rfl rfl) parts_nil)) (fun _ => by kernel_rfl) ?_)))))))))))
 intro h aj u
 refine Za rfl rfl (Exec.build rfl (parts_cons (c := [Value.string (⟨#[40, 109, 111, 118, 101, 41]⟩)]) (cells_of rfl rfl) (parts_cons (c := [Value.slice (some ⟨d, 0, none⟩) 1 1, Value.slice none 0 0, Value.slice none 0 0]) (cells_of rfl rfl) (parts_cons (c := [Value.slice (some ⟨h, 0, none⟩) 2 2]) (cells_of rfl rfl) parts_nil))) (v := Value.agg #[Value.string (⟨#[40, 109, 111, 118, 101, 41]⟩), Vi (0), Value.slice (some ⟨d, 0, none⟩) 1 1, Value.slice none 0 0, Value.slice none 0 0, Value.slice (some ⟨h, 0, none⟩) 2 2, Value.slice none 0 0]) (fun _ => by kernel_rfl) (Za rfl rfl (Exec.store_box (ds := [Value.string (⟨#[40, 109, 111, 118, 101, 41]⟩), Vi (0), Value.slice (some ⟨d, 0, none⟩) 1 1, Value.slice none 0 0, Value.slice none 0 0, Value.slice (some ⟨h, 0, none⟩) 2 2, Value.slice none 0 0]) (es := [Value.string (⟨#[40, 109, 111, 118, 101, 41]⟩), Vi (0), Value.slice (some ⟨d, 0, none⟩) 1 1, Value.slice none 0 0, Value.slice none 0 0, Value.slice (some ⟨h, 0, none⟩) 2 2, Value.slice none 0 0]) (u).f2 A63 rfl rfl rfl rfl (Zj rfl (Zj rfl (Zj rfl (Zj rfl (Zj rfl (Zj rfl (Zj rfl one_nil))))))) (Nat.le_of_ble_eq_true rfl) rfl ?_)))
 intro ak i
 refine Zb (Ze (W_ret ?_))
 have af := Zu hm
 subst r
 refine ⟨_, retG1 rfl ⟨_, _, rfl, cellRes (i) A63⟩, ?_⟩
 have x := St.boxArr (E := (encInt .i64)) (xs := [a]) (i).f2 ⟨[Vi (a)], [], rfl, rfl, rfl⟩ (by simp [maxLen])
 obtain ⟨ag, j, y, ab⟩ := x.freezeArr
 have z := St.boxArr (E := encGChange) (xs := [(⟨(⟨[], [], []⟩ : Cond), a, false⟩ : GChange), (⟨(⟨[], [], []⟩ : Cond), b, true⟩ : GChange)]) (y).f1 (reps.mono j ⟨[Value.slice none 0 0, Value.slice none 0 0, Value.slice none 0 0, Vi (a), Value.bool (false)], [Value.slice none 0 0, Value.slice none 0 0, Value.slice none 0 0, Vi (b), Value.bool (true)], rfl, ⟨[Value.slice none 0 0, Value.slice none 0 0, Value.slice none 0 0], [Vi (a), Value.bool (false)], rfl, ⟨[Value.slice none 0 0], [Value.slice none 0 0, Value.slice none 0 0], rfl, ⟨_, rfl, (SliceRep.nil _ _)⟩, ⟨[Value.slice none 0 0], [Value.slice none 0 0], rfl, ⟨_, rfl, (SliceRep.nil _ _)⟩, ⟨_, rfl, (SliceRep.nil _ _)⟩⟩⟩, ⟨[Vi (a)], [Value.bool (false)], rfl, rfl, rfl⟩⟩, ⟨[Value.slice none 0 0, Value.slice none 0 0, Value.slice none 0 0, Vi (b), Value.bool (true)], [], rfl, ⟨[Value.slice none 0 0, Value.slice none 0 0, Value.slice none 0 0], [Vi (b), Value.bool (true)], rfl, ⟨[Value.slice none 0 0], [Value.slice none 0 0, Value.slice none 0 0], rfl, ⟨_, rfl, (SliceRep.nil _ _)⟩, ⟨[Value.slice none 0 0], [Value.slice none 0 0], rfl, ⟨_, rfl, (SliceRep.nil _ _)⟩, ⟨_, rfl, (SliceRep.nil _ _)⟩⟩⟩, ⟨[Vi (b)], [Value.bool (true)], rfl, rfl, rfl⟩⟩, rfl⟩⟩) (by simp [maxLen])
 obtain ⟨ad, k, aa, ac⟩ := z.freezeArr
 exact ⟨ad, (Value.slice (some ⟨d, 0, none⟩) 1 1), (Value.slice none 0 0), (Value.slice none 0 0), (Value.slice (some ⟨h, 0, none⟩) 2 2), (Value.slice none 0 0), (Zt j k), (aa).drop, rfl, (ab.mono k), (SliceRep.nil _ _), (SliceRep.nil _ _), ac, (SliceRep.nil _ _)⟩
theorem A28 : tyAgg Tryz.prog 28 = some (true, 5) := by kernel_rfl
theorem law20_example_sim {w0 w : World} {s : PHeap} {H : List Res}   {r : Ground} (hm : law20_example_p  = some r) (hS : St w0 s (H) w)  :
  Calls Tryz.prog 21 #[] w fun e w' => ∃ v, e = .returned v ∧ ((fun (y20 : Ground) => ∃ (af : PHeap) (aA : Value) (aB : Value) (aC : Value) (aD : Value) (aE : Value), PHeap.le s af ∧ St w0 af (H) w' ∧ v = Value.agg #[aA, aB, aC, aD, aE] ∧ SliceRep encAtom af aA y20.Atoms ∧ SliceRep encGFluent af aB y20.Fluents ∧ SliceRep (encInt .i64) af aC y20.Init ∧ SliceRep encCond af aD y20.Goal ∧ SliceRep encGOp af aE y20.Ops) r) := by
 unfold law20_example_p at hm
 refine calls_of_W Tryz.func21 rfl rfl (Zc (Zd (Za rfl rfl (Exec.alloc (cs := [Value.slice none 0 0, Value.slice none 0 0, Value.slice none 0 0, Value.slice none 0 0, Value.slice none 0 0]) hS Z28 rfl rfl ?_))))
 intro az cu aL
 refine Zb (Ze (Zc (Zd (Za rfl rfl (Zo (v := Value.slice none 0 0) rfl rfl (Zb (Ze (Zc (Zc (Zd (Za rfl rfl (Exec.buildSlice (Te := 9) (cs := [Value.string (⟨#[97]⟩), Value.string (⟨#[98]⟩)]) aL rfl (parts_cons (c := [Value.string (⟨#[97]⟩)]) (cells_of rfl rfl) (parts_cons (c := [Value.string (⟨#[98]⟩)]) (cells_of rfl rfl) parts_nil)) (fun _ => by kernel_rfl) ?_))))))))))))
 intro aH cv aM
 have aN := St.boxArr (E := encStr) (xs := ([⟨#[97]⟩, ⟨#[98]⟩] : List ByteArray)) aM ⟨[Value.string (⟨#[97]⟩)], [Value.string (⟨#[98]⟩)], rfl, rfl, ⟨[Value.string (⟨#[98]⟩)], [], rfl, rfl, rfl⟩⟩ (by simp [maxLen])
 obtain ⟨a8, br, aO, ax⟩ := aN.freezeArr
 refine Za rfl rfl (Zr S54 rfl rfl ax (Za rfl rfl (Zm (v := Vi (0)) rfl rfl (Zb (Ze ?_)))))
 obtain ⟨av, aI, hm⟩ := Zg hm
 refine W_block (W_forS (fun k' s' f' w' => (fun (av : (List Atom)) => ∃ (a9 : PHeap) (g : Value), PHeap.le a8 a9 ∧ St w0 a9 (Res.box az 28 [Value.slice none 0 0, Value.slice none 0 0, Value.slice none 0 0, Value.slice none 0 0, Value.slice none 0 0] :: Res.arr encAtom 56 g av :: H) w' ∧ f' 0 = Value.pointer (some ⟨az, 0, none⟩) ∧ f' 1 = g ∧ f' 4 = Value.slice (some ⟨aH, 0, none⟩) 2 2 ∧ f' 5 = Vi ((([⟨#[97]⟩, ⟨#[98]⟩] : List ByteArray).length : Int)) ∧ f' 6 = Vi (k' : Int)) s') aI ?_ ?_ ?_)
 ·have aP := aO.nilArr encAtom 56
  exact ⟨a8, (Value.slice none 0 0), (Zv _), (aP).f1, rfl, rfl, rfl, rfl, rfl⟩
 ·intro bq av bU cd cw bp aJ ao
  obtain ⟨ci, g, a2, a0, bv, bw, a5, a6, ay⟩ := aJ
  refine Zc (Zd (Za rfl rfl (Zq rfl ay a6 (Zb (Ze (Zc (W_true (Zx (decide_eq_true (by omega))) (W_skip (Ze (Zc (W_block (Zc (Zd ?_)))))))))))))
  obtain ⟨b, b0, ao⟩ := Zg ao
  refine Za rfl rfl (Exec.index_rep S54 rfl a5 ay (ax.mono a2) b0 ?_)
  intro bZ cg aG
  refine Za rfl rfl (Zw (E := encStr) a0 A9 rfl rfl rfl aG ?_)
  intro bX b1
  obtain rfl : bX = Value.string (b) := encStr_val.1 b1
  refine Za rfl rfl (Zo (v := Value.string (b)) rfl rfl (Zb (Ze (Zd (Za rfl rfl (Zm (v := g) rfl bw (Za rfl rfl (Zm (v := Value.string (b)) rfl rfl (Za rfl rfl (Exec.buildSlice (Te := 9) (cs := [Value.string (b), Value.string (⟨#[112]⟩)]) a0 rfl (parts_cons (c := [Value.string (b)]) (cells_of rfl rfl) (parts_cons (c := [Value.string (⟨#[112]⟩)]) (cells_of rfl rfl) parts_nil)) (fun _ => by kernel_rfl) ?_))))))))))
  intro aj cx aQ
  refine Za rfl rfl (Exec.build rfl (parts_cons (c := [Value.string (⟨#[97, 116]⟩)]) (cells_of rfl rfl) (parts_cons (c := [Value.slice (some ⟨aj, 0, none⟩) 2 2]) (cells_of rfl rfl) parts_nil)) (v := Value.agg #[Value.string (⟨#[97, 116]⟩), Value.slice (some ⟨aj, 0, none⟩) 2 2]) (fun _ => by kernel_rfl) (Za rfl rfl (Zm (v := Value.string (b)) rfl rfl (Za rfl rfl (Exec.buildSlice (Te := 9) (cs := [Value.string (b), Value.string (⟨#[113]⟩)]) aQ rfl (parts_cons (c := [Value.string (b)]) (cells_of rfl rfl) (parts_cons (c := [Value.string (⟨#[113]⟩)]) (cells_of rfl rfl) parts_nil)) (fun _ => by kernel_rfl) ?_)))))
  intro ad cy aR
  refine Za rfl rfl (Exec.build rfl (parts_cons (c := [Value.string (⟨#[97, 116]⟩)]) (cells_of rfl rfl) (parts_cons (c := [Value.slice (some ⟨ad, 0, none⟩) 2 2]) (cells_of rfl rfl) parts_nil)) (v := Value.agg #[Value.string (⟨#[97, 116]⟩), Value.slice (some ⟨ad, 0, none⟩) 2 2]) (fun _ => by kernel_rfl) ?_)
  have aS := St.boxArr (E := encStr) (xs := ([b, ⟨#[112]⟩] : List ByteArray)) (aR).f1 ⟨[Value.string (b)], [Value.string (⟨#[112]⟩)], rfl, rfl, ⟨[Value.string (⟨#[112]⟩)], [], rfl, rfl, rfl⟩⟩ (by simp [maxLen])
  obtain ⟨cj, bs, aT, b3⟩ := aS.freezeArr
  have aU := St.boxArr (E := encStr) (xs := ([b, ⟨#[113]⟩] : List ByteArray)) aT ⟨[Value.string (b)], [Value.string (⟨#[113]⟩)], rfl, rfl, ⟨[Value.string (⟨#[113]⟩)], [], rfl, rfl, rfl⟩⟩ (by simp [maxLen])
  obtain ⟨bV, a3, aV, b4⟩ := aU.freezeArr
  refine Za rfl rfl (Exec.buildSlice (Te := 56) (cs := [Value.string (⟨#[97, 116]⟩), Value.slice (some ⟨aj, 0, none⟩) 2 2, Value.string (⟨#[97, 116]⟩), Value.slice (some ⟨ad, 0, none⟩) 2 2]) aV rfl (parts_cons (c := [Value.string (⟨#[97, 116]⟩), Value.slice (some ⟨aj, 0, none⟩) 2 2]) (cells_of rfl rfl) (parts_cons (c := [Value.string (⟨#[97, 116]⟩), Value.slice (some ⟨ad, 0, none⟩) 2 2]) (cells_of rfl rfl) parts_nil)) (fun _ => by kernel_rfl) ?_)
  intro ca cz aW
  obtain ⟨cf, b2, ao⟩ := Zg ao
  refine Za rfl rfl (Exec.append_box (E := encAtom) (ys := [(⟨⟨#[97, 116]⟩, ([b, ⟨#[112]⟩] : List ByteArray)⟩ : Atom), (⟨⟨#[97, 116]⟩, ([b, ⟨#[113]⟩] : List ByteArray)⟩ : Atom)]) (aW).f2 S22 Z56 rfl (by decide) rfl rfl rfl rfl ⟨[Value.string (⟨#[97, 116]⟩), Value.slice (some ⟨aj, 0, none⟩) 2 2], [Value.string (⟨#[97, 116]⟩), Value.slice (some ⟨ad, 0, none⟩) 2 2], rfl, ⟨[Value.string (⟨#[97, 116]⟩)], [Value.slice (some ⟨aj, 0, none⟩) 2 2], rfl, rfl, ⟨_, rfl, (b3.mono a3)⟩⟩, ⟨[Value.string (⟨#[97, 116]⟩), Value.slice (some ⟨ad, 0, none⟩) 2 2], [], rfl, ⟨[Value.string (⟨#[97, 116]⟩)], [Value.slice (some ⟨ad, 0, none⟩) 2 2], rfl, rfl, ⟨_, rfl, b4⟩⟩, rfl⟩⟩ rfl b2 ?_)
  intro aF c0 aX
  refine Za rfl rfl (Zo (v := aF) rfl rfl (Zb (ib_normal (Ze (Zd (Za rfl rfl (Exec.add rfl ay rfl (Za rfl rfl (Zm (v := Vi (IntKind.i64.wrap ((bq : Int) + 1))) rfl rfl (Zb (Ze ?_)))))))))))
  have cb := Zu ao
  subst bU
  exact ⟨bV, aF, (Zt (Zt a2 bs) a3), (aX).f1, bv, rfl, a5, a6, (Eq.trans rfl (wrap_up bp (SliceRep.le ax)))⟩
 intro ce c1 aK
 obtain ⟨ck, g, bt, aY, a7, bx, ch, bz, bY⟩ := aK
 refine Zc (Zd (Za rfl rfl (Zq rfl bY bz (Zb (Ze (Zc (W_false (Zx (decide_eq_false (by omega))) (W_exit (at_exit (at_exit (ib_here (Ze (Zc (Zd (Za rfl rfl (Zm (v := g) rfl bx (Za rfl rfl (Exec.buildSlice (Te := 3) (cs := [Vi (0), Vi (2)]) aY rfl (parts_cons (c := [Vi (0)]) (cells_of rfl rfl) (parts_cons (c := [Vi (2)]) (cells_of rfl rfl) parts_nil)) (fun _ => by kernel_rfl) ?_))))))))))))))))))
 intro al c2 aZ
 refine Za rfl rfl (Exec.buildSlice (Te := 3) (cs := [Vi (1)]) aZ rfl (parts_cons (c := [Vi (1)]) (cells_of rfl rfl) parts_nil) (fun _ => by kernel_rfl) ?_)
 intro ak c3 ba
 refine Za rfl rfl (Exec.build rfl (parts_cons (c := [Value.slice (some ⟨ak, 0, none⟩) 1 1]) (cells_of rfl rfl) parts_nil) (v := Value.agg #[Value.slice (some ⟨ak, 0, none⟩) 1 1, Value.slice none 0 0, Value.slice none 0 0]) (fun _ => by kernel_rfl) ?_)
 have bb := St.boxArr (E := (encInt .i64)) (xs := [1]) ba ⟨[Vi (1)], [], rfl, rfl, rfl⟩ (by simp [maxLen])
 obtain ⟨cl, bu, bc, b5⟩ := bb.freezeArr
 refine Za rfl rfl (Exec.buildSlice (Te := 59) (cs := [Value.slice (some ⟨ak, 0, none⟩) 1 1, Value.slice none 0 0, Value.slice none 0 0]) bc rfl (parts_cons (c := [Value.slice (some ⟨ak, 0, none⟩) 1 1, Value.slice none 0 0, Value.slice none 0 0]) (cells_of rfl rfl) parts_nil) (fun _ => by kernel_rfl) ?_)
 intro am c4 bd
 refine Za rfl rfl (Tc rfl rfl rfl (Zi rfl (Zi rfl args_nil)) (law20_move_sim (law20_move_tot 0 1) bd ).r ?_)
 rintro _ c5 ⟨cm, ag, y, z, ah, ai, a4, be, rfl, b6, b7, b8, b9, bA⟩
 refine Za rfl rfl (Tc rfl rfl rfl (Zi rfl (Zi rfl args_nil)) (law20_move_sim (law20_move_tot 1 0) be ).r ?_)
 rintro _ c6 ⟨cn, aa, p, q, ab, ac, ae, bf, rfl, bB, bC, bD, bE, bF⟩
 refine Za rfl rfl (Tc rfl rfl rfl (Zi rfl (Zi rfl args_nil)) (law20_move_sim (law20_move_tot 2 3) bf ).r ?_)
 rintro _ c7 ⟨co, t, j, l, u, x, d, bg, rfl, bG, bH, bI, bJ, bK⟩
 refine Za rfl rfl (Tc rfl rfl rfl (Zi rfl (Zi rfl args_nil)) (law20_move_sim (law20_move_tot 3 2) bg ).r ?_)
 rintro _ c8 ⟨cp, m, h, i, n, o, a, bh, rfl, bL, bM, bN, bO, bP⟩
 refine Za rfl rfl (Exec.buildSlice (Te := 63) (cs := [Value.string ((law20_move_t 0 1).Name), Vi ((law20_move_t 0 1).Cost), ag, y, z, ah, ai, Value.string ((law20_move_t 1 0).Name), Vi ((law20_move_t 1 0).Cost), aa, p, q, ab, ac, Value.string ((law20_move_t 2 3).Name), Vi ((law20_move_t 2 3).Cost), t, j, l, u, x, Value.string ((law20_move_t 3 2).Name), Vi ((law20_move_t 3 2).Cost), m, h, i, n, o]) bh rfl (parts_cons (c := [Value.string ((law20_move_t 0 1).Name), Vi ((law20_move_t 0 1).Cost), ag, y, z, ah, ai]) (cells_of rfl rfl) (parts_cons (c := [Value.string ((law20_move_t 1 0).Name), Vi ((law20_move_t 1 0).Cost), aa, p, q, ab, ac]) (cells_of rfl rfl) (parts_cons (c := [Value.string ((law20_move_t 2 3).Name), Vi ((law20_move_t 2 3).Cost), t, j, l, u, x]) (cells_of rfl rfl) (parts_cons (c := [Value.string ((law20_move_t 3 2).Name), Vi ((law20_move_t 3 2).Cost), m, h, i, n, o]) (cells_of rfl rfl) parts_nil)))) (fun _ => by kernel_rfl) ?_)
 intro an c9 au
 refine Za rfl rfl (Exec.build rfl (parts_cons (c := [g]) (cells_of rfl (cells_one ((au).f4).arr_one)) (parts_cons (c := [Value.slice (some ⟨al, 0, none⟩) 2 2]) (cells_of rfl rfl) (parts_cons (c := [Value.slice (some ⟨am, 0, none⟩) 1 1]) (cells_of rfl rfl) (parts_cons (c := [Value.slice (some ⟨an, 0, none⟩) 4 4]) (cells_of rfl rfl) parts_nil)))) (v := Value.agg #[g, Value.slice none 0 0, Value.slice (some ⟨al, 0, none⟩) 2 2, Value.slice (some ⟨am, 0, none⟩) 1 1, Value.slice (some ⟨an, 0, none⟩) 4 4]) (fun _ => by kernel_rfl) (Za rfl rfl (Exec.store_box (ds := [g, Value.slice none 0 0, Value.slice (some ⟨al, 0, none⟩) 2 2, Value.slice (some ⟨am, 0, none⟩) 1 1, Value.slice (some ⟨an, 0, none⟩) 4 4]) (es := [g, Value.slice none 0 0, Value.slice (some ⟨al, 0, none⟩) 2 2, Value.slice (some ⟨am, 0, none⟩) 1 1, Value.slice (some ⟨an, 0, none⟩) 4 4]) (au).f3 A28 rfl a7 rfl rfl (Zj (((au).f3).f4).arr_one (Zj rfl (Zj rfl (Zj rfl (Zj rfl one_nil))))) (Nat.le_of_ble_eq_true rfl) rfl ?_)))
 intro cA a1
 refine Zb (Ze (W_ret ?_))
 have cc := Zu hm
 subst r
 refine ⟨_, retG1 rfl ⟨_, _, a7, cellRes (a1) A28⟩, ?_⟩
 obtain ⟨cq, aw, bi, bQ⟩ := (a1).f4.freezeArr
 have bj := St.boxArr (E := (encInt .i64)) (xs := [0, 2]) (bi).f3 ⟨[Vi (0)], [Vi (2)], rfl, rfl, ⟨[Vi (2)], [], rfl, rfl, rfl⟩⟩ (by simp [maxLen])
 obtain ⟨cr, ap, bk, bR⟩ := bj.freezeArr
 have bl := St.boxArr (E := encCond) (xs := [(⟨[1], [], []⟩ : Cond)]) (bk).f2 (reps.mono (Zt (Zt (Zt (Zt (Zt a4 ae) d) a) aw) ap) ⟨[Value.slice (some ⟨ak, 0, none⟩) 1 1, Value.slice none 0 0, Value.slice none 0 0], [], rfl, ⟨[Value.slice (some ⟨ak, 0, none⟩) 1 1], [Value.slice none 0 0, Value.slice none 0 0], rfl, ⟨_, rfl, b5⟩, ⟨[Value.slice none 0 0], [Value.slice none 0 0], rfl, ⟨_, rfl, (SliceRep.nil _ _)⟩, ⟨_, rfl, (SliceRep.nil _ _)⟩⟩⟩, rfl⟩) (by simp [maxLen])
 obtain ⟨ct, aq, bm, bS⟩ := bl.freezeArr
 have bn := St.boxArr (E := encGOp) (xs := [(law20_move_t 0 1), (law20_move_t 1 0), (law20_move_t 2 3), (law20_move_t 3 2)]) (bm).f1 (reps.mono (Zt (Zt aw ap) aq) ⟨[Value.string ((law20_move_t 0 1).Name), Vi ((law20_move_t 0 1).Cost), ag, y, z, ah, ai], [Value.string ((law20_move_t 1 0).Name), Vi ((law20_move_t 1 0).Cost), aa, p, q, ab, ac, Value.string ((law20_move_t 2 3).Name), Vi ((law20_move_t 2 3).Cost), t, j, l, u, x, Value.string ((law20_move_t 3 2).Name), Vi ((law20_move_t 3 2).Cost), m, h, i, n, o], rfl, ⟨[Value.string ((law20_move_t 0 1).Name)], [Vi ((law20_move_t 0 1).Cost), ag, y, z, ah, ai], rfl, rfl, ⟨[Vi ((law20_move_t 0 1).Cost)], [ag, y, z, ah, ai], rfl, rfl, ⟨[ag, y, z], [ah, ai], rfl, ⟨[ag], [y, z], rfl, ⟨_, rfl, (b6.mono (Zt (Zt ae d) a))⟩, ⟨[y], [z], rfl, ⟨_, rfl, (b7.mono (Zt (Zt ae d) a))⟩, ⟨_, rfl, (b8.mono (Zt (Zt ae d) a))⟩⟩⟩, ⟨[ah], [ai], rfl, ⟨_, rfl, (b9.mono (Zt (Zt ae d) a))⟩, ⟨_, rfl, (bA.mono (Zt (Zt ae d) a))⟩⟩⟩⟩⟩, ⟨[Value.string ((law20_move_t 1 0).Name), Vi ((law20_move_t 1 0).Cost), aa, p, q, ab, ac], [Value.string ((law20_move_t 2 3).Name), Vi ((law20_move_t 2 3).Cost), t, j, l, u, x, Value.string ((law20_move_t 3 2).Name), Vi ((law20_move_t 3 2).Cost), m, h, i, n, o], rfl, ⟨[Value.string ((law20_move_t 1 0).Name)], [Vi ((law20_move_t 1 0).Cost), aa, p, q, ab, ac], rfl, rfl, ⟨[Vi ((law20_move_t 1 0).Cost)], [aa, p, q, ab, ac], rfl, rfl, ⟨[aa, p, q], [ab, ac], rfl, ⟨[aa], [p, q], rfl, ⟨_, rfl, (bB.mono (Zt d a))⟩, ⟨[p], [q], rfl, ⟨_, rfl, (bC.mono (Zt d a))⟩, ⟨_, rfl, (bD.mono (Zt d a))⟩⟩⟩, ⟨[ab], [ac], rfl, ⟨_, rfl, (bE.mono (Zt d a))⟩, ⟨_, rfl, (bF.mono (Zt d a))⟩⟩⟩⟩⟩, ⟨[Value.string ((law20_move_t 2 3).Name), Vi ((law20_move_t 2 3).Cost), t, j, l, u, x], [Value.string ((law20_move_t 3 2).Name), Vi ((law20_move_t 3 2).Cost), m, h, i, n, o], rfl, ⟨[Value.string ((law20_move_t 2 3).Name)], [Vi ((law20_move_t 2 3).Cost), t, j, l, u, x], rfl, rfl, ⟨[Vi ((law20_move_t 2 3).Cost)], [t, j, l, u, x], rfl, rfl, ⟨[t, j, l], [u, x], rfl, ⟨[t], [j, l], rfl, ⟨_, rfl, (bG.mono a)⟩, ⟨[j], [l], rfl, ⟨_, rfl, (bH.mono a)⟩, ⟨_, rfl, (bI.mono a)⟩⟩⟩, ⟨[u], [x], rfl, ⟨_, rfl, (bJ.mono a)⟩, ⟨_, rfl, (bK.mono a)⟩⟩⟩⟩⟩, ⟨[Value.string ((law20_move_t 3 2).Name), Vi ((law20_move_t 3 2).Cost), m, h, i, n, o], [], rfl, ⟨[Value.string ((law20_move_t 3 2).Name)], [Vi ((law20_move_t 3 2).Cost), m, h, i, n, o], rfl, rfl, ⟨[Vi ((law20_move_t 3 2).Cost)], [m, h, i, n, o], rfl, rfl, ⟨[m, h, i], [n, o], rfl, ⟨[m], [h, i], rfl, ⟨_, rfl, bL⟩, ⟨[h], [i], rfl, ⟨_, rfl, bM⟩, ⟨_, rfl, bN⟩⟩⟩, ⟨[n], [o], rfl, ⟨_, rfl, bO⟩, ⟨_, rfl, bP⟩⟩⟩⟩⟩, rfl⟩⟩⟩⟩) (by simp [maxLen])
 obtain ⟨bW, ar, bo, bT⟩ := bn.freezeArr
 exact ⟨bW, g, (Value.slice none 0 0), (Value.slice (some ⟨al, 0, none⟩) 2 2), (Value.slice (some ⟨am, 0, none⟩) 1 1), (Value.slice (some ⟨an, 0, none⟩) 4 4), (Zt (Zt (Zt (Zt (Zt (Zt (Zt (Zt (Zt (Zt br bt) bu) a4) ae) d) a) aw) ap) aq) ar), (bo).drop, rfl, (bQ.mono (Zt (Zt ap aq) ar)), (SliceRep.nil _ _), (bR.mono (Zt aq ar)), (bS.mono ar), bT⟩
theorem F28_0 : tyField Tryz.prog 28 0 = some 0 := by kernel_rfl
theorem A22 : tyAgg Tryz.prog 22 = some (false, 1) := by kernel_rfl
theorem F28_1 : tyField Tryz.prog 28 1 = some 1 := by kernel_rfl
theorem A23 : tyAgg Tryz.prog 23 = some (false, 1) := by kernel_rfl
theorem S23 : tySlice Tryz.prog 23 = some (69, 5, 64) := by kernel_rfl
theorem F28_4 : tyField Tryz.prog 28 4 = some 4 := by kernel_rfl
theorem A26 : tyAgg Tryz.prog 26 = some (false, 1) := by kernel_rfl
theorem S26 : tySlice Tryz.prog 26 = some (63, 7, 144) := by kernel_rfl
theorem F28_3 : tyField Tryz.prog 28 3 = some 3 := by kernel_rfl
theorem A25 : tyAgg Tryz.prog 25 = some (false, 1) := by kernel_rfl
theorem S25 : tySlice Tryz.prog 25 = some (59, 3, 72) := by kernel_rfl
theorem A69 : tyAgg Tryz.prog 69 = some (true, 5) := by kernel_rfl
theorem F69_1 : tyField Tryz.prog 69 1 = some 2 := by kernel_rfl
theorem A3 : tyAgg Tryz.prog 3 = some (false, 1) := by kernel_rfl
theorem F69_3 : tyField Tryz.prog 69 3 = some 4 := by kernel_rfl
theorem F69_2 : tyField Tryz.prog 69 2 = some 3 := by kernel_rfl
theorem ground_fluent_sim {w0 w : World} {s : PHeap} {H : List Res} {a : GFluent} {i : Value} {r : Bool} (hm : ground_fluent_p a = some r) (hS : St w0 s (H) w) (t : SliceRep encStr s i a.Fluent.Args) :
  Calls Tryz.prog 32 #[Value.agg #[Value.string (a.Fluent.Name), i, Vi (a.Lo), Vi (a.Hi), Vi (a.Init)]] w fun e w' => ∃ v, e = .returned v ∧ ((fun (q : Bool) => ∃ (j : PHeap) , PHeap.le s j ∧ St w0 j (H) w' ∧ v = Value.bool (q)) r) := by
 unfold ground_fluent_p at hm
 refine calls_of_W Tryz.func32 rfl rfl (Zc (Zd (Za rfl rfl (Exec.box (cs := [Value.string (a.Fluent.Name), i, Vi (a.Lo), Vi (a.Hi), Vi (a.Init)]) hS rfl rfl rfl ?_))))
 intro u z c
 refine Za rfl rfl (Zo (v := Value.bool (false)) rfl rfl (Zb (Ze (Zc (W_mid (M := fun f' w' => ∃ (k : PHeap) , PHeap.le s k ∧ St w0 k (H) w' ∧ f' 2 = Value.bool (((decide ((-1099511627776) ≤ a.Lo)) && ((decide (a.Lo ≤ a.Init)) && ((decide (a.Init ≤ a.Hi)) && ((decide (a.Hi ≤ 1099511627776)) && decide ((IntKind.i64.wrap (a.Hi - a.Lo)) < 64))))))) ?_ ?_)))))
 ·refine Zd (Za rfl rfl (Zp F69_1 rfl rfl rfl (Za rfl rfl (Zn (c) A3 rfl rfl rfl (Za rfl rfl (Exec.leq rfl rfl rfl (Za rfl rfl (Zm (v := Value.bool (decide ((-1099511627776) ≤ a.Lo))) rfl rfl ?_))))))))
  by_cases b : (decide ((-1099511627776) ≤ a.Lo)) = true
  ·refine WL_run rfl (Zf rfl (Zx b)) rfl (Zp F69_1 rfl rfl rfl (WL_run rfl (Zf rfl (Zx b)) rfl (Zn (c) A3 rfl rfl rfl (WL_run rfl (Zf rfl (Zx b)) rfl (Zp F69_3 rfl rfl rfl (WL_run rfl (Zf rfl (Zx b)) rfl (Zn (c) A3 rfl rfl rfl (WL_run rfl (Zf rfl (Zx b)) rfl (Exec.leq rfl rfl rfl ?_)))))))))
   refine WL_passes 2 (by rw [b]; rfl) ?_
   by_cases d : (decide (a.Lo ≤ a.Init)) = true
   ·refine WL_run rfl (Zf rfl (Zx d)) rfl (Zp F69_3 rfl rfl rfl (WL_run rfl (Zf rfl (Zx d)) rfl (Zn (c) A3 rfl rfl rfl (WL_run rfl (Zf rfl (Zx d)) rfl (Zp F69_2 rfl rfl rfl (WL_run rfl (Zf rfl (Zx d)) rfl (Zn (c) A3 rfl rfl rfl (WL_run rfl (Zf rfl (Zx d)) rfl (Exec.leq rfl rfl rfl ?_)))))))))
    refine WL_passes 2 (by rw [d]; rfl) ?_
    by_cases h : (decide (a.Init ≤ a.Hi)) = true
    ·refine WL_run rfl (Zf rfl (Zx h)) rfl (Zp F69_2 rfl rfl rfl (WL_run rfl (Zf rfl (Zx h)) rfl (Zn (c) A3 rfl rfl rfl (WL_run rfl (Zf rfl (Zx h)) rfl (Exec.leq rfl rfl rfl ?_)))))
     refine WL_passes 2 (by rw [h]; rfl) ?_
     by_cases g : (decide (a.Hi ≤ 1099511627776)) = true
     ·refine WL_run rfl (Zf rfl (Zx g)) rfl (Zp F69_2 rfl rfl rfl (WL_run rfl (Zf rfl (Zx g)) rfl (Zn (c) A3 rfl rfl rfl (WL_run rfl (Zf rfl (Zx g)) rfl (Zp F69_1 rfl rfl rfl (WL_run rfl (Zf rfl (Zx g)) rfl (Zn (c) A3 rfl rfl rfl (WL_run rfl (Zf rfl (Zx g)) rfl (Exec.sub rfl rfl rfl (WL_run rfl (Zf rfl (Zx g)) rfl (Zq rfl rfl rfl ?_)))))))))))
      refine WL_passes 2 (by rw [g]; rfl) ?_
      refine Zb (Ze ?_)
      exact ⟨s, (Zv _), (c).drop, (Zx (Eq.trans (and_t b) (Eq.trans (and_t d) (Eq.trans (and_t h) (and_t g))))).symm⟩
     replace g := Zk g
     refine WL_passes 8 (by rw [g]; rfl) ?_
     refine Zb (Ze ?_)
     exact ⟨s, (Zv _), (c).drop, (Zx (Eq.trans (and_t b) (Eq.trans (and_t d) (Eq.trans (and_t h) (and_f g))))).symm⟩
    replace h := Zk h
    refine WL_passes 13 (by rw [h]; rfl) ?_
    refine Zb (Ze ?_)
    exact ⟨s, (Zv _), (c).drop, (Zx (Eq.trans (and_t b) (Eq.trans (and_t d) (and_f h)))).symm⟩
   replace d := Zk d
   refine WL_passes 20 (by rw [d]; rfl) ?_
   refine Zb (Ze ?_)
   exact ⟨s, (Zv _), (c).drop, (Zx (Eq.trans (and_t b) (and_f d))).symm⟩
  replace b := Zk b
  refine WL_passes 27 (by rw [b]; rfl) ?_
  refine Zb (Ze ?_)
  exact ⟨s, (Zv _), (c).drop, (Zx (and_f b)).symm⟩
 intro y aa l
 obtain ⟨p, n, m, o⟩ := l
 refine (Ze (W_ret ?_))
 have x := Zu hm
 subst r
 refine ⟨_, ret1 rfl, ?_⟩
 exact ⟨p, n, m, o⟩
theorem N31 : (Tryz.f31.name == "runtime.NumGoroutine") = false := by kernel_rfl
theorem ground_Valid_c1_sim {w0 w : World} {s : PHeap} {H : List Res} {a : GFluent} {b : Value} {r : Bool} (hm : ground_Valid_c1_p a = some r) (hS : St w0 s (H) w) (f : SliceRep encStr s b a.Fluent.Args) :
  Calls Tryz.prog 31 #[Value.agg #[Value.string (a.Fluent.Name), b, Vi (a.Lo), Vi (a.Hi), Vi (a.Init)]] w fun e w' => ∃ v, e = .returned v ∧ ((fun (j : Bool) => ∃ (d : PHeap) , PHeap.le s d ∧ St w0 d (H) w' ∧ v = Value.bool (j)) r) := by
 unfold ground_Valid_c1_p at hm
 refine calls_of_W Tryz.func31 rfl rfl (Zc (Zd (Za rfl rfl (Exec.box (cs := [Value.string (a.Fluent.Name), b, Vi (a.Lo), Vi (a.Hi), Vi (a.Init)]) hS rfl rfl rfl ?_))))
 intro k m c
 refine Za rfl rfl (Zo (v := Value.bool (false)) rfl rfl (Zb (Ze (Zc (Zd (Za rfl rfl (Exec.load_box_agg (ds := [Value.string (a.Fluent.Name), b, Vi (a.Lo), Vi (a.Hi), Vi (a.Init)]) (c) A69 rfl rfl rfl (Za rfl rfl (Tc rfl rfl rfl (Zi rfl args_nil) (ground_fluent_sim (ground_fluent_tot a) c f).r ?_)))))))))
 rintro _ n ⟨i, h, g, rfl⟩
 refine Za rfl rfl (Exec.not rfl rfl (Za rfl rfl (Zo (v := Value.bool (!(ground_fluent_t a))) rfl rfl (Zb (Ze (W_ret ?_))))))
 have l := Zu hm
 subst r
 refine ⟨_, ret1 rfl, ?_⟩
 exact ⟨i, h, (g).drop, rfl⟩
theorem slices_IndexFunc_apiGFluent_Valid_c1_sim {w0 w : World} {s : PHeap} {H : List Res} {g : (List GFluent)} {c : Value} {r : Int} (hm : slices_IndexFunc_apiGFluent_Valid_c1_p g = some r) (hS : St w0 s (H) w) (i : SliceRep encGFluent s c g) :
  Calls Tryz.prog 56 #[c, Value.func (.func 31) #[] #[]] w fun e w' => ∃ v, e = .returned v ∧ ((fun (a5 : Int) => ∃ (aa : PHeap) , PHeap.le s aa ∧ St w0 aa (H) w' ∧ v = Vi (a5)) r) := by
 unfold slices_IndexFunc_apiGFluent_Valid_c1_p at hm
 refine calls_of_W Tryz.func56 rfl rfl (Zc (Zd (Za rfl rfl (Zo (v := Vi (0)) rfl rfl (Zb (Ze (Zc (Zc (Zd (Za rfl rfl (Zm (v := c) rfl rfl (Za rfl rfl (Zr S23 rfl rfl i (Za rfl rfl (Zm (v := Vi (0)) rfl rfl (Zb (Ze ?_)))))))))))))))))
 obtain ⟨m, af, ap, an, al⟩ := ctl_some hm
 refine W_mid (M := fun f' w' => ∃ s', (m = .next s' ∨ m = .brk s') ∧ (fun (_ : Unit) => ∃ (ab : PHeap) , PHeap.le s ab ∧ St w0 ab (H) w' ∧ f' 0 = c ∧ f' 1 = Value.func (.func 31) #[] #[] ∧ f' 7 = Vi ((g.length : Int))) s') ?_ ?_
 ·refine W_block (W_forC (fun k' s' f' w' => (fun (_ : Unit) => ∃ (ac : PHeap) , PHeap.le s ac ∧ St w0 ac (H) w' ∧ f' 0 = c ∧ f' 1 = Value.func (.func 31) #[] #[] ∧ f' 7 = Vi ((g.length : Int)) ∧ f' 8 = Vi (k' : Int)) s') af ?_ ?_ ?_)
  ·exact ⟨s, (Zv _), hS, rfl, rfl, rfl, rfl⟩
  ·intro b aJ n aB aO am ag a aq
   obtain ⟨aI, j, o, u, x, y, l⟩ := ag
   refine Zc (Zd (Za rfl rfl (Zq rfl l y (Zb (Ze (Zc (W_true (Zx (decide_eq_true (by omega))) (W_skip (Ze (Zc (W_block (Zc (Zd (Za rfl rfl (Zm (v := Vi ((b : Int))) rfl l (Za rfl rfl (Zo (v := Vi ((b : Int))) rfl rfl (Zb (Ze (Zc (Zd (Za rfl rfl (Zm (v := Value.func (.func 31) #[] #[]) rfl x (Za rfl rfl (Zm (v := c) rfl u (Za rfl rfl (Zm (v := Vi ((b : Int))) rfl rfl ?_)))))))))))))))))))))))))))
   obtain ⟨a3, ay, a⟩ := Zg a
   refine Za rfl rfl (Exec.index_rep S23 rfl rfl rfl (i.mono j) ay ?_)
   intro a6 aE ae
   refine Za rfl rfl (Zw (E := encGFluent) o A69 rfl rfl rfl ae ?_)
   intro aN az
   obtain ⟨aM, rfl, a0⟩ := encGFluent_val.1 az
   refine Za rfl rfl (Exec.callf rfl rfl Tryz.func31 rfl N31 (Zi rfl args_nil) ((ground_Valid_c1_sim (ground_Valid_c1_tot a3) o a0).mono ?_))
   rintro _ aP ⟨_, rfl, ⟨ad, t, p, rfl⟩⟩
   refine ⟨_, rfl, ?_⟩
   refine Zb (Ze ?_)
   rcases ite_some a with ⟨d, a⟩ | ⟨d, a⟩
   ·refine W_cond_t rfl d (Zc (Zd (Za rfl rfl (Zm (v := Vi ((b : Int))) rfl rfl (Za rfl rfl (Zo (v := Vi ((b : Int))) rfl rfl (Zb (Ze (W_ret (ib_ret (at_ret (at_ret (ib_ret (at_ret (at_ret ?_)))))))))))))))
    have a7 := Zu a
    subst n
    have ao := ap _ (aq (by intro _ h; cases h))
    have a8 := Zu ao
    subst r
    refine ⟨_, ret1 rfl, ?_⟩
    exact ⟨ad, (Zt j t), p, rfl⟩
   refine W_cond_f rfl d ?_
   replace d := Zk d
   refine W_skip (ib_normal (Ze (Zd (Za rfl rfl (Exec.add rfl l rfl (Za rfl rfl (Zm (v := Vi (IntKind.i64.wrap ((b : Int) + 1))) rfl rfl (Zb (Ze ?_)))))))))
   have a9 := Zu a
   subst n
   refine ⟨_, rfl, ?_⟩; exact ⟨ad, (Zt j t), p, u, x, y, (Eq.trans rfl (wrap_up am (SliceRep.le i)))⟩
  intro aK aC aQ ah ar
  obtain ⟨a1, au, aj, aw, ax, z, a4⟩ := ah
  refine Zc (Zd (Za rfl rfl (Zq rfl a4 z (Zb (Ze (Zc (W_false (Zx (decide_eq_false (by omega))) (W_exit (at_exit (at_exit (ib_here (Ze ?_))))))))))))
  refine ⟨_, .inl ar, ?_⟩; exact ⟨a1, au, aj, aw, ax, z⟩
 rintro aD aR ⟨aL, q, ai⟩
 have hm := q.elim (an _) (al _)
 clear q
 obtain ⟨a2, av, ak, aF, aG, aH⟩ := ai
 refine (Ze (Zc (Zd (Za rfl rfl (Zo (v := Vi ((-1))) rfl rfl (Zb (Ze (W_ret ?_))))))))
 have aA := Zu hm
 subst r
 refine ⟨_, ret1 rfl, ?_⟩
 exact ⟨a2, av, ak, rfl⟩
theorem slices_ContainsFunc_apiGFluent_Valid_c1_sim {w0 w : World} {s : PHeap} {H : List Res} {c : (List GFluent)} {a : Value} {r : Bool} (hm : slices_ContainsFunc_apiGFluent_Valid_c1_p c = some r) (hS : St w0 s (H) w) (d : SliceRep encGFluent s a c) :
  Calls Tryz.prog 30 #[a, Value.func (.func 31) #[] #[]] w fun e w' => ∃ v, e = .returned v ∧ ((fun (j : Bool) => ∃ (b : PHeap) , PHeap.le s b ∧ St w0 b (H) w' ∧ v = Value.bool (j)) r) := by
 unfold slices_ContainsFunc_apiGFluent_Valid_c1_p at hm
 refine calls_of_W Tryz.func30 rfl rfl (Zc (Zd (Za rfl rfl (Zo (v := Value.bool (false)) rfl rfl (Zb (Ze (Zc (Zd (Za rfl rfl (Zm (v := a) rfl rfl (Za rfl rfl (Zm (v := Value.func (.func 31) #[] #[]) rfl rfl ?_))))))))))))
 obtain ⟨k, h, hm⟩ := Zg hm
 refine Za rfl rfl (Tc rfl rfl rfl (Zi rfl (Zi rfl args_nil)) (slices_IndexFunc_apiGFluent_Valid_c1_sim h hS d).r ?_)
 rintro _ m ⟨i, g, f, rfl⟩
 refine Za rfl rfl (Exec.geq rfl rfl rfl (Za rfl rfl (Zo (v := Value.bool (decide (0 ≤ k))) rfl rfl (Zb (Ze (W_ret ?_))))))
 have l := Zu hm
 subst r
 refine ⟨_, ret1 rfl, ?_⟩
 exact ⟨i, g, f, rfl⟩
theorem F28_2 : tyField Tryz.prog 28 2 = some 2 := by kernel_rfl
theorem A24 : tyAgg Tryz.prog 24 = some (false, 1) := by kernel_rfl
theorem S24 : tySlice Tryz.prog 24 = some (3, 1, 8) := by kernel_rfl
theorem ground_indices_sim {w0 w : World} {s : PHeap} {H : List Res} {t : (List Int)} {p : Int} {d : Value} {r : Bool} (hm : ground_indices_p t p = some r) (hS : St w0 s (H) w) (ab : SliceRep (encInt .i64) s d t) :
  Calls Tryz.prog 33 #[d, Vi (p)] w fun e w' => ∃ v, e = .returned v ∧ ((fun (aP : Bool) => ∃ (ak : PHeap) , PHeap.le s ak ∧ St w0 ak (H) w' ∧ v = Value.bool (aP)) r) := by
 unfold ground_indices_p at hm
 refine calls_of_W Tryz.func33 rfl rfl (Zc (Zd (Za rfl rfl (Zo (v := Value.bool (false)) rfl rfl (Zb (Ze (Zc (Zc (Zd (Za rfl rfl (Zm (v := d) rfl rfl (Za rfl rfl (Zr S24 rfl rfl ab (Za rfl rfl (Zm (v := Vi (0)) rfl rfl (Zb (Ze ?_)))))))))))))))))
 obtain ⟨ad, au, a5, a3, a1⟩ := ctl_some hm
 refine W_mid (M := fun f' w' => ∃ s', (ad = .next s' ∨ ad = .brk s') ∧ (fun (_ : Unit) => ∃ (al : PHeap) , PHeap.le s al ∧ St w0 al (H) w' ∧ f' 0 = d ∧ f' 1 = Vi (p) ∧ f' 7 = d ∧ f' 8 = Vi ((t.length : Int))) s') ?_ ?_
 ·refine W_block (W_forC (fun k' s' f' w' => (fun (_ : Unit) => ∃ (am : PHeap) , PHeap.le s am ∧ St w0 am (H) w' ∧ f' 0 = d ∧ f' 1 = Vi (p) ∧ f' 7 = d ∧ f' 8 = Vi ((t.length : Int)) ∧ f' 9 = Vi (k' : Int)) s') au ?_ ?_ ?_)
  ·exact ⟨s, (Zv _), hS, rfl, rfl, rfl, rfl, rfl⟩
  ·intro j bk ae ba bp a2 av g a6
   obtain ⟨aa, ac, o, u, x, y, z, l⟩ := av
   refine Zc (Zd (Za rfl rfl (Zq rfl l z (Zb (Ze (Zc (W_true (Zx (decide_eq_true (by omega))) (W_skip (Ze (Zc (W_block (Zc (Zd (Za rfl rfl (Zm (v := Vi ((j : Int))) rfl l ?_)))))))))))))))
   obtain ⟨m, aI, g⟩ := Zg g
   refine Za rfl rfl (Exec.index_rep S24 rfl y l (ab.mono ac) aI ?_)
   intro aQ be aq
   refine Za rfl rfl (Zw (E := (encInt .i64)) o A3 rfl rfl rfl aq ?_)
   intro bn aJ
   obtain rfl := encInt_val.1 aJ
   refine Za rfl rfl (Zo (v := Vi ((j : Int))) rfl rfl (Za rfl rfl (Zo (v := Vi (m)) rfl rfl (Zb (Ze (Zc ?_))))))
   obtain ⟨n, a, g⟩ := Zg g
   refine W_mid (M := fun f' w' => (fun (n : Bool) => ∃ (an : PHeap) , PHeap.le aa an ∧ St w0 an (H) w' ∧ f' 0 = d ∧ f' 1 = Vi (p) ∧ f' 7 = d ∧ f' 8 = Vi ((t.length : Int)) ∧ f' 9 = Vi ((j : Int)) ∧ f' 33 = Value.bool (n)) n) ?_ ?_
   ·refine Zd (Za rfl rfl (Zm (v := Vi (m)) rfl rfl (Za rfl rfl (Zq rfl rfl rfl (Za rfl rfl (Zm (v := Value.bool (decide (m < 0))) rfl rfl ?_))))))
    rcases ite_some a with ⟨i, a⟩ | ⟨i, a⟩
    ·refine WL_passes 17 (by rw [i]; rfl) ?_
     refine Zb (Ze ?_)
     have aS := Zu a
     subst n
     exact ⟨aa, (Zv _), o, u, x, y, z, l, rfl⟩
    replace i := Zk i
    refine WL_run rfl (Zf rfl (Zx i)) rfl (Zm (v := Vi (m)) rfl rfl (WL_run rfl (Zf rfl (Zx i)) rfl (Zm (v := Vi (p)) rfl x (WL_run rfl (Zf rfl (Zx i)) rfl (Exec.geq rfl rfl rfl ?_)))))
    refine WL_passes 2 (by rw [i]; rfl) ?_
    rcases ite_some a with ⟨c, a⟩ | ⟨c, a⟩
    ·refine WL_passes 12 (by rw [c]; rfl) ?_
     refine Zb (Ze ?_)
     have aT := Zu a
     subst n
     exact ⟨aa, (Zv _), o, u, x, y, z, l, rfl⟩
    replace c := Zk c
    refine WL_run rfl (Zf rfl (Zx c)) rfl (Zm (v := Vi ((j : Int))) rfl rfl (WL_run rfl (Zf rfl (Zx c)) rfl (Exec.gtr rfl rfl rfl (WL_run rfl (Zf rfl (Zx c)) rfl (Zm (v := Value.bool (decide (0 < (j : Int)))) rfl rfl ?_)))))
    rcases ite_some a with ⟨b, a⟩ | ⟨b, a⟩
    ·refine WL_run rfl (Zf rfl (Zx b)) rfl (Zm (v := d) rfl u (WL_run rfl (Zf rfl (Zx b)) rfl (Zm (v := Vi ((j : Int))) rfl rfl (WL_run rfl (Zf rfl (Zx b)) rfl (Exec.sub rfl rfl rfl ?_)))))
     obtain ⟨ap, aK, a⟩ := Zg a
     refine WL_run rfl (Zf rfl (Zx b)) rfl (Exec.index_rep S24 rfl rfl rfl (ab.mono ac) aK ?_)
     intro aR bf ar
     refine WL_run rfl (Zf rfl (Zx b)) rfl (Zw (E := (encInt .i64)) o A3 rfl rfl rfl ar ?_)
     intro bo aL
     obtain rfl := encInt_val.1 aL
     refine WL_run rfl (Zf rfl (Zx b)) rfl (Zm (v := Vi (m)) rfl rfl (WL_run rfl (Zf rfl (Zx b)) rfl (Exec.geq rfl rfl rfl (WL_run rfl (Zf rfl (Zx c)) rfl (Zs (v := Value.bool (decide (m ≤ ap))) rfl (Zx b) rfl (Za rfl rfl (Exec.pick_f (v := Value.bool (decide (m ≤ ap))) rfl (Zx c) rfl (Zb (Ze ?_)))))))))
     have aU := Zu a
     subst n
     exact ⟨aa, (Zv _), o, u, x, y, z, l, rfl⟩
    replace b := Zk b
    refine WL_passes 7 (by rw [b]; rfl) ?_
    refine WL_run rfl (Zf rfl (Zx c)) rfl (Exec.pick_f (v := Value.bool (false)) rfl rfl rfl (Za rfl rfl (Exec.pick_f (v := Value.bool (false)) rfl (Zx c) rfl (Zb (Ze ?_)))))
    have aV := Zu a
    subst n
    exact ⟨aa, (Zv _), o, u, x, y, z, l, rfl⟩
   intro bb bq ax
   obtain ⟨ao, ah, af, aA, aB, aC, aD, aE, ai⟩ := ax
   refine (Ze ?_)
   rcases ite_some g with ⟨q, g⟩ | ⟨q, g⟩
   ·refine W_cond_t ai q (Zc (Zd (Za rfl rfl (Zo (v := Value.bool (false)) rfl rfl (Zb (Ze (W_ret (ib_ret (at_ret (at_ret (ib_ret (at_ret (at_ret ?_)))))))))))))
    have aW := Zu g
    subst ae
    have a4 := a5 _ (a6 (by intro _ h; cases h))
    have aX := Zu a4
    subst r
    refine ⟨_, ret1 rfl, ?_⟩
    exact ⟨ao, (Zt ac ah), af, rfl⟩
   refine W_cond_f ai q ?_
   replace q := Zk q
   refine W_skip (ib_normal (Ze (Zd (Za rfl rfl (Exec.add rfl aE rfl (Za rfl rfl (Zm (v := Vi (IntKind.i64.wrap ((j : Int) + 1))) rfl rfl (Zb (Ze ?_)))))))))
   have aY := Zu g
   subst ae
   refine ⟨_, rfl, ?_⟩; exact ⟨ao, (Zt ac ah), af, aA, aB, aC, aD, (Eq.trans rfl (wrap_up a2 (SliceRep.le ab)))⟩
  intro bl bc br aw a7
  obtain ⟨aM, a8, az, aF, aG, aH, aj, aO⟩ := aw
  refine Zc (Zd (Za rfl rfl (Zq rfl aO aj (Zb (Ze (Zc (W_false (Zx (decide_eq_false (by omega))) (W_exit (at_exit (at_exit (ib_here (Ze ?_))))))))))))
  refine ⟨_, .inl a7, ?_⟩; exact ⟨aM, a8, az, aF, aG, aH, aj⟩
 rintro bd bs ⟨bm, ag, ay⟩
 have hm := ag.elim (a3 _) (a1 _)
 clear ag
 obtain ⟨aN, a9, a0, bg, bh, bi, bj⟩ := ay
 refine (Ze (Zc (Zd (Za rfl rfl (Zo (v := Value.bool (true)) rfl rfl (Zb (Ze (W_ret ?_))))))))
 have aZ := Zu hm
 subst r
 refine ⟨_, ret1 rfl, ?_⟩
 exact ⟨aN, a9, a0, rfl⟩
theorem A59 : tyAgg Tryz.prog 59 = some (true, 3) := by kernel_rfl
theorem F59_2 : tyField Tryz.prog 59 2 = some 2 := by kernel_rfl
theorem A57 : tyAgg Tryz.prog 57 = some (false, 1) := by kernel_rfl
theorem S57 : tySlice Tryz.prog 57 = some (104, 7, 112) := by kernel_rfl
theorem A104 : tyAgg Tryz.prog 104 = some (true, 7) := by kernel_rfl
theorem Z104 : tyZero Tryz.prog 104 = some (Value.agg #[Value.string ⟨#[]⟩, Value.string ⟨#[]⟩, Vi (0), Value.slice none 0 0, Value.string ⟨#[]⟩, Vi (0), Value.slice none 0 0]) := by kernel_rfl
theorem F59_0 : tyField Tryz.prog 59 0 = some 0 := by kernel_rfl
theorem F59_1 : tyField Tryz.prog 59 1 = some 1 := by kernel_rfl
theorem ground_condition_sim {w0 w : World} {s : PHeap} {H : List Res} {h : Ground} {g : Cond} {j : Value} {l : Value} {m : Value} {n : Value} {o : Value} {p : Value} {q : Value} {d : Value} {r : Bool} (hm : ground_condition_p h g = some r) (hS : St w0 s (H) w) (ac : SliceRep encAtom s j h.Atoms) (aZ : SliceRep encGFluent s l h.Fluents) (ba : SliceRep (encInt .i64) s m h.Init) (bb : SliceRep encCond s n h.Goal) (bc : SliceRep encGOp s o h.Ops) (au : SliceRep (encInt .i64) s p g.Pos) (av : SliceRep (encInt .i64) s q g.Neg) (ad : SliceRep encGTest s d g.Tests) :
  Calls Tryz.prog 36 #[Value.agg #[j, l, m, n, o], Value.agg #[p, q, d]] w fun e w' => ∃ v, e = .returned v ∧ ((fun (aX : Bool) => ∃ (al : PHeap) , PHeap.le s al ∧ St w0 al (H) w' ∧ v = Value.bool (aX)) r) := by
 unfold ground_condition_p at hm
 refine calls_of_W Tryz.func36 rfl rfl (Zc (Zd (Za rfl rfl (Exec.box (cs := [j, l, m, n, o]) hS rfl rfl rfl ?_))))
 intro u b3 a2
 refine Za rfl rfl (Exec.box (cs := [p, q, d]) a2 rfl rfl rfl ?_)
 intro x b4 af
 refine Za rfl rfl (Zo (v := Value.bool (false)) rfl rfl (Zb (Ze (Zc (Zc (Zd (Za rfl rfl (Zp F59_2 rfl rfl rfl (Za rfl rfl (Zn (af) A57 rfl rfl rfl (Za rfl rfl (Zr S57 rfl rfl ad (Za rfl rfl (Zm (v := Vi (0)) rfl rfl (Zb (Ze ?_))))))))))))))))
 obtain ⟨ae, ax, bp, a9, a8⟩ := ctl_some hm
 refine W_mid (M := fun f' w' => ∃ s', (ae = .next s' ∨ ae = .brk s') ∧ (fun (_ : Unit) => ∃ (am : PHeap) , PHeap.le s am ∧ St w0 am (Res.box u 28 [j, l, m, n, o] :: Res.box x 59 [p, q, d] :: H) w' ∧ f' 2 = Value.pointer (some ⟨u, 0, none⟩) ∧ f' 3 = Value.pointer (some ⟨x, 0, none⟩) ∧ f' 8 = d ∧ f' 9 = Vi ((g.Tests.length : Int))) s') ?_ ?_
 ·refine W_block (W_forC (fun k' s' f' w' => (fun (_ : Unit) => ∃ (an : PHeap) , PHeap.le s an ∧ St w0 an (Res.box u 28 [j, l, m, n, o] :: Res.box x 59 [p, q, d] :: H) w' ∧ f' 2 = Value.pointer (some ⟨u, 0, none⟩) ∧ f' 3 = Value.pointer (some ⟨x, 0, none⟩) ∧ f' 8 = d ∧ f' 9 = Vi ((g.Tests.length : Int)) ∧ f' 10 = Vi (k' : Int)) s') ax ?_ ?_ ?_)
  ·have a3 := (af).f1
   exact ⟨s, (Zv _), a3, rfl, rfl, rfl, rfl, rfl⟩
  ·intro br bz bf bj b5 bo ay ab bq
   obtain ⟨bx, aB, ag, bt, bu, aF, aG, ar⟩ := ay
   refine Zc (Zd (Za rfl rfl (Zq rfl ar aG (Zb (Ze (Zc (W_true (Zx (decide_eq_true (by omega))) (W_skip (Ze (Zc (W_block (Zc (Zd ?_)))))))))))))
   obtain ⟨b, aL, ab⟩ := Zg ab
   refine Za rfl rfl (Exec.index_rep S57 rfl aF ar (ad.mono aB) aL ?_)
   intro bd bs aw
   refine Za rfl rfl (Zw (E := encGTest) ag A104 rfl rfl rfl aw ?_)
   intro b2 aM
   obtain ⟨ap, aq, rfl, aP, aQ⟩ := encGTest_val.1 aM
   refine Za rfl rfl (Exec.alloc (cs := [Value.string (⟨#[]⟩), Value.string (⟨#[]⟩), Vi (0), Value.slice none 0 0, Value.string (⟨#[]⟩), Vi (0), Value.slice none 0 0]) ag Z104 rfl rfl ?_)
   intro be b6 a4
   refine Za rfl rfl (Exec.store_box (ds := [Value.string (b.Op), Value.string (b.A.Op), Vi (b.A.N), ap, Value.string (b.B.Op), Vi (b.B.N), aq]) (es := [Value.string (b.Op), Value.string (b.A.Op), Vi (b.A.N), ap, Value.string (b.B.Op), Vi (b.B.N), aq]) a4 A104 rfl rfl rfl rfl (Zj rfl (Zj rfl (Zj rfl (Zj (aP).one (Zj rfl (Zj rfl (Zj (aQ).one one_nil))))))) (Nat.le_of_ble_eq_true rfl) rfl ?_)
   intro b7 bn
   refine Zb (Ze (Zc ?_))
   cases ab
  intro b0 bk b8 az aA
  obtain ⟨aR, aC, a5, aH, aI, aJ, ai, aW⟩ := az
  refine Zc (Zd (Za rfl rfl (Zq rfl aW ai (Zb (Ze (Zc (W_false (Zx (decide_eq_false (by omega))) (W_exit (at_exit (at_exit (ib_here (Ze ?_))))))))))))
  refine ⟨_, .inl aA, ?_⟩; exact ⟨aR, aC, ((a5).f1).f1, aH, aI, aJ, ai⟩
 rintro bl b9 ⟨b1, ah, a0⟩
 have hm := ah.elim (a9 _) (a8 _)
 clear ah
 obtain ⟨aS, i, aa, aj, ak, bv, bw⟩ := a0
 refine (Ze (Zc ?_))
 obtain ⟨t, c, hm⟩ := Zg hm
 refine W_mid (M := fun f' w' => (fun (t : Bool) => ∃ (ao : PHeap) , PHeap.le aS ao ∧ St w0 ao (H) w' ∧ f' 4 = Value.bool (t)) t) ?_ ?_
 ·refine Zd (Za rfl rfl (Zp F59_0 rfl ak rfl (Za rfl rfl (Zn ((aa).f1) A24 rfl rfl rfl (Za rfl rfl (Zp F28_0 rfl aj rfl (Za rfl rfl (Zn (aa) A22 rfl rfl rfl (Za rfl rfl (Zr S22 rfl rfl (ac.mono i) ?_))))))))))
  obtain ⟨aY, aN, c⟩ := Zg c
  refine Za rfl rfl (Tc rfl rfl rfl (Zi rfl (Zi rfl args_nil)) (ground_indices_sim aN aa (au.mono i)).r ?_)
  rintro _ bA ⟨aT, z, y, rfl⟩
  refine Za rfl rfl (Zm (v := Value.bool (aY)) rfl rfl ?_)
  rcases ite_some c with ⟨a, c⟩ | ⟨a, c⟩
  ·refine WL_run rfl (Zf rfl (Zx a)) rfl (Zp F59_1 rfl ak rfl (WL_run rfl (Zf rfl (Zx a)) rfl (Zn ((y).f1) A24 rfl rfl rfl (WL_run rfl (Zf rfl (Zx a)) rfl (Zp F28_0 rfl aj rfl (WL_run rfl (Zf rfl (Zx a)) rfl (Zn (y) A22 rfl rfl rfl (WL_run rfl (Zf rfl (Zx a)) rfl (Zr S22 rfl rfl (ac.mono (Zt i z)) ?_)))))))))
   obtain ⟨bD, aO, c⟩ := Zg c
   refine WL_run rfl (Zf rfl (Zx a)) rfl (Tc rfl rfl rfl (Zi rfl (Zi rfl args_nil)) (ground_indices_sim aO y (av.mono (Zt i z))).r ?_)
   rintro _ bB ⟨aU, aD, a6, rfl⟩
   refine WL_passes 2 (by rw [a]; rfl) ?_
   refine Zb (Ze ?_)
   have bg := Zu c
   subst t
   exact ⟨aU, (Zt z aD), ((a6).drop).drop, rfl⟩
  replace a := Zk a
  refine WL_passes 8 (by rw [a]; rfl) ?_
  refine Zb (Ze ?_)
  have bh := Zu c
  subst t
  exact ⟨aT, z, ((y).drop).drop, rfl⟩
 intro bm bC a1
 obtain ⟨aV, aE, a7, aK⟩ := a1
 refine (Ze (W_ret ?_))
 have bi := Zu hm
 subst r
 refine ⟨_, ret1 rfl, ?_⟩
 exact ⟨aV, (Zt i aE), a7, aK⟩
theorem N35 : (Tryz.f35.name == "runtime.NumGoroutine") = false := by kernel_rfl
theorem ground_Valid_c2_sim {w0 w : World} {s : PHeap} {H : List Res} {a : Cond} {h : Ground} {b : Value} {c : Value} {d : Value} {g i : Nat} {r : Bool} (hm : ground_Valid_c2_p a h = some r) (hS : St w0 s (H) w) (k : SliceRep (encInt .i64) s b a.Pos) (l : SliceRep (encInt .i64) s c a.Neg) (m : SliceRep encGTest s d a.Tests) (n : At s g i encGround h) :
  Calls Tryz.prog 35 #[Value.agg #[b, c, d], Value.pointer (some ⟨g, i, none⟩)] w fun e w' => ∃ v, e = .returned v ∧ ((fun (ac : Bool) => ∃ (j : PHeap) , PHeap.le s j ∧ St w0 j (H) w' ∧ v = Value.bool (ac)) r) := by
 unfold ground_Valid_c2_p at hm
 refine calls_of_W Tryz.func35 rfl rfl (Zc (Zd (Za rfl rfl (Exec.box (cs := [b, c, d]) hS rfl rfl rfl ?_))))
 intro ae am f
 refine Za rfl rfl (Zo (v := Value.bool (false)) rfl rfl (Zb (Ze (Zc (Zd (Za rfl rfl (Zw (E := encGround) f A28 rfl rfl rfl n ?_)))))))
 intro al q
 obtain ⟨ag, ah, ai, aj, ak, rfl, u, x, y, z, aa⟩ := encGround_val.1 q
 refine Za rfl rfl (Exec.load_box_agg (ds := [b, c, d]) (f) A59 rfl rfl rfl ?_)
 obtain ⟨ad, t, hm⟩ := Zg hm
 refine Za rfl rfl (Tc rfl rfl rfl (Zi rfl (Zi rfl args_nil)) (ground_condition_sim t f u x y z aa k l m).r ?_)
 rintro _ an ⟨ab, p, o, rfl⟩
 refine Za rfl rfl (Exec.not rfl rfl (Za rfl rfl (Zo (v := Value.bool (!ad)) rfl rfl (Zb (Ze (W_ret ?_))))))
 have af := Zu hm
 subst r
 refine ⟨_, ret1 rfl, ?_⟩
 exact ⟨ab, p, (o).drop, rfl⟩
theorem slices_IndexFunc_apiCond_Valid_c2_sim {w0 w : World} {s : PHeap} {H : List Res} {l : (List Cond)} {o : Ground} {c : Value} {d i : Nat} {r : Int} (hm : slices_IndexFunc_apiCond_Valid_c2_p l o = some r) (hS : St w0 s (H) w) (m : SliceRep encCond s c l) (ah : At s d i encGround o) :
  Calls Tryz.prog 57 #[c, Value.func (.func 35) #[] #[Value.pointer (some ⟨d, i, none⟩)]] w fun e w' => ∃ v, e = .returned v ∧ ((fun (aB : Int) => ∃ (ad : PHeap) , PHeap.le s ad ∧ St w0 ad (H) w' ∧ v = Vi (aB)) r) := by
 unfold slices_IndexFunc_apiCond_Valid_c2_p at hm
 refine calls_of_W Tryz.func57 rfl rfl (Zc (Zd (Za rfl rfl (Zo (v := Vi (0)) rfl rfl (Zb (Ze (Zc (Zc (Zd (Za rfl rfl (Zm (v := c) rfl rfl (Za rfl rfl (Zr S25 rfl rfl m (Za rfl rfl (Zm (v := Vi (0)) rfl rfl (Zb (Ze ?_)))))))))))))))))
 obtain ⟨p, aj, av, ar, ap⟩ := ctl_some hm
 refine W_mid (M := fun f' w' => ∃ s', (p = .next s' ∨ p = .brk s') ∧ (fun (_ : Unit) => ∃ (ae : PHeap) , PHeap.le s ae ∧ St w0 ae (H) w' ∧ f' 0 = c ∧ f' 1 = Value.func (.func 35) #[] #[Value.pointer (some ⟨d, i, none⟩)] ∧ f' 7 = Vi ((l.length : Int))) s') ?_ ?_
 ·refine W_block (W_forC (fun k' s' f' w' => (fun (_ : Unit) => ∃ (af : PHeap) , PHeap.le s af ∧ St w0 af (H) w' ∧ f' 0 = c ∧ f' 1 = Value.func (.func 35) #[] #[Value.pointer (some ⟨d, i, none⟩)] ∧ f' 7 = Vi ((l.length : Int)) ∧ f' 8 = Vi (k' : Int)) s') aj ?_ ?_ ?_)
  ·exact ⟨s, (Zv _), hS, rfl, rfl, rfl, rfl⟩
  ·intro b aP q aH aW aq ak a aw
   obtain ⟨aO, j, t, z, aa, ab, n⟩ := ak
   refine Zc (Zd (Za rfl rfl (Zq rfl n ab (Zb (Ze (Zc (W_true (Zx (decide_eq_true (by omega))) (W_skip (Ze (Zc (W_block (Zc (Zd (Za rfl rfl (Zm (v := Vi ((b : Int))) rfl n (Za rfl rfl (Zo (v := Vi ((b : Int))) rfl rfl (Zb (Ze (Zc (Zd (Za rfl rfl (Zm (v := Value.func (.func 35) #[] #[Value.pointer (some ⟨d, i, none⟩)]) rfl aa (Za rfl rfl (Zm (v := c) rfl z (Za rfl rfl (Zm (v := Vi ((b : Int))) rfl rfl ?_)))))))))))))))))))))))))))
   obtain ⟨ba, a2, a⟩ := Zg a
   refine Za rfl rfl (Exec.index_rep S25 rfl rfl rfl (m.mono j) a2 ?_)
   intro aC aK ai
   refine Za rfl rfl (Zw (E := encCond) t A59 rfl rfl rfl ai ?_)
   intro aV a3
   obtain ⟨aS, aT, aU, rfl, a5, a6, a7⟩ := encCond_val.1 a3
   obtain ⟨bb, a4, a⟩ := Zg a
   refine Za rfl rfl (Exec.callc rfl rfl Tryz.func35 rfl N35 (Zi rfl args_nil) rfl ((ground_Valid_c2_sim a4 t a5 a6 a7 (ah.mono j)).mono ?_))
   rintro _ aX ⟨_, rfl, ⟨ag, y, u, rfl⟩⟩
   refine ⟨_, rfl, ?_⟩
   refine Zb (Ze ?_)
   rcases ite_some a with ⟨g, a⟩ | ⟨g, a⟩
   ·refine W_cond_t rfl g (Zc (Zd (Za rfl rfl (Zm (v := Vi ((b : Int))) rfl rfl (Za rfl rfl (Zo (v := Vi ((b : Int))) rfl rfl (Zb (Ze (W_ret (ib_ret (at_ret (at_ret (ib_ret (at_ret (at_ret ?_)))))))))))))))
    have aD := Zu a
    subst q
    have au := av _ (aw (by intro _ h; cases h))
    have aE := Zu au
    subst r
    refine ⟨_, ret1 rfl, ?_⟩
    exact ⟨ag, (Zt j y), u, rfl⟩
   refine W_cond_f rfl g ?_
   replace g := Zk g
   refine W_skip (ib_normal (Ze (Zd (Za rfl rfl (Exec.add rfl n rfl (Za rfl rfl (Zm (v := Vi (IntKind.i64.wrap ((b : Int) + 1))) rfl rfl (Zb (Ze ?_)))))))))
   have aF := Zu a
   subst q
   refine ⟨_, rfl, ?_⟩; exact ⟨ag, (Zt j y), u, z, aa, ab, (Eq.trans rfl (wrap_up aq (SliceRep.le m)))⟩
  intro aQ aI aY al ax
  obtain ⟨a8, ay, an, a0, a1, ac, aA⟩ := al
  refine Zc (Zd (Za rfl rfl (Zq rfl aA ac (Zb (Ze (Zc (W_false (Zx (decide_eq_false (by omega))) (W_exit (at_exit (at_exit (ib_here (Ze ?_))))))))))))
  refine ⟨_, .inl ax, ?_⟩; exact ⟨a8, ay, an, a0, a1, ac⟩
 rintro aJ aZ ⟨aR, x, am⟩
 have hm := x.elim (ar _) (ap _)
 clear x
 obtain ⟨a9, az, ao, aL, aM, aN⟩ := am
 refine (Ze (Zc (Zd (Za rfl rfl (Zo (v := Vi ((-1))) rfl rfl (Zb (Ze (W_ret ?_))))))))
 have aG := Zu hm
 subst r
 refine ⟨_, ret1 rfl, ?_⟩
 exact ⟨a9, az, ao, rfl⟩
theorem slices_ContainsFunc_apiCond_Valid_c2_sim {w0 w : World} {s : PHeap} {H : List Res} {g : (List Cond)} {d : Ground} {c : Value} {a b : Nat} {r : Bool} (hm : slices_ContainsFunc_apiCond_Valid_c2_p g d = some r) (hS : St w0 s (H) w) (h : SliceRep encCond s c g) (i : At s a b encGround d) :
  Calls Tryz.prog 34 #[c, Value.func (.func 35) #[] #[Value.pointer (some ⟨a, b, none⟩)]] w fun e w' => ∃ v, e = .returned v ∧ ((fun (n : Bool) => ∃ (f : PHeap) , PHeap.le s f ∧ St w0 f (H) w' ∧ v = Value.bool (n)) r) := by
 unfold slices_ContainsFunc_apiCond_Valid_c2_p at hm
 refine calls_of_W Tryz.func34 rfl rfl (Zc (Zd (Za rfl rfl (Zo (v := Value.bool (false)) rfl rfl (Zb (Ze (Zc (Zd (Za rfl rfl (Zm (v := c) rfl rfl (Za rfl rfl (Zm (v := Value.func (.func 35) #[] #[Value.pointer (some ⟨a, b, none⟩)]) rfl rfl ?_))))))))))))
 obtain ⟨o, l, hm⟩ := Zg hm
 refine Za rfl rfl (Tc rfl rfl rfl (Zi rfl (Zi rfl args_nil)) (slices_IndexFunc_apiCond_Valid_c2_sim l hS h i).r ?_)
 rintro _ q ⟨m, k, j, rfl⟩
 refine Za rfl rfl (Exec.geq rfl rfl rfl (Za rfl rfl (Zo (v := Value.bool (decide (0 ≤ o))) rfl rfl (Zb (Ze (W_ret ?_))))))
 have p := Zu hm
 subst r
 refine ⟨_, ret1 rfl, ?_⟩
 exact ⟨m, k, j, rfl⟩
theorem F63_3 : tyField Tryz.prog 63 3 = some 5 := by kernel_rfl
theorem A60 : tyAgg Tryz.prog 60 = some (false, 1) := by kernel_rfl
theorem S60 : tySlice Tryz.prog 60 = some (81, 5, 88) := by kernel_rfl
theorem F63_1 : tyField Tryz.prog 63 1 = some 1 := by kernel_rfl
theorem F63_0 : tyField Tryz.prog 63 0 = some 0 := by kernel_rfl
theorem ground_named_sim {w0 w : World} {s : PHeap} {H : List Res} {a : ByteArray}  {r : Bool} (hm : ground_named_p a = some r) (hS : St w0 s (H) w)  :
  Calls Tryz.prog 60 #[Value.string (a)] w fun e w' => ∃ v, e = .returned v ∧ ((fun (aA : Bool) => ∃ (ad : PHeap) , PHeap.le s ad ∧ St w0 ad (H) w' ∧ v = Value.bool (aA)) r) := by
 unfold ground_named_p at hm
 refine calls_of_W Tryz.func60 rfl rfl (Zc (Zd (Za rfl rfl (Zo (v := Value.bool (false)) rfl rfl (Zb (Ze (Zc (Zc (Zd (Za rfl rfl (Zm (v := Value.string (a)) rfl rfl (Za rfl rfl (Exec.len_str Tryz.underlying9 rfl rfl (Za rfl rfl (Zm (v := Vi (0)) rfl rfl (Zb (Ze ?_)))))))))))))))))
 obtain ⟨aP, a6, hm⟩ := Zg hm
 obtain ⟨p, aj, aw, au, aq⟩ := ctl_some hm
 refine W_mid (M := fun f' w' => ∃ s', (p = .next s' ∨ p = .brk s') ∧ (fun (_ : Unit) => ∃ (ae : PHeap) , PHeap.le s ae ∧ St w0 ae (H) w' ∧ f' 0 = Value.string (a) ∧ f' 5 = Vi ((a.size : Int))) s') ?_ ?_
 ·refine W_block (W_forC (fun k' s' f' w' => (fun (_ : Unit) => ∃ (af : PHeap) , PHeap.le s af ∧ St w0 af (H) w' ∧ f' 0 = Value.string (a) ∧ f' 5 = Vi ((a.size : Int)) ∧ f' 6 = Vi (k' : Int)) s') aj ?_ ?_ ?_)
  ·exact ⟨s, (Zv _), hS, rfl, rfl, rfl⟩
  ·intro g aM q aH aQ ar ak c ax
   obtain ⟨o, y, t, l, n, m⟩ := ak
   refine Zc (Zd (Za rfl rfl (Zq rfl m n (Zb (Ze (Zc (W_true (Zx (decide_eq_true (by omega))) (W_skip (Ze (Zc (W_block (Zc (Zd (Za rfl rfl (Zm (v := Vi ((g : Int))) rfl m (Za rfl rfl (Zo (v := Vi ((g : Int))) rfl rfl (Zb (Ze (Zc ?_))))))))))))))))))))
   obtain ⟨j, d, c⟩ := Zg c
   refine W_mid (M := fun f' w' => (fun (j : Bool) => ∃ (ag : PHeap) , PHeap.le o ag ∧ St w0 ag (H) w' ∧ f' 0 = Value.string (a) ∧ f' 5 = Vi ((a.size : Int)) ∧ f' 6 = Vi ((g : Int)) ∧ f' 18 = Value.bool (j)) j) ?_ ?_
   ·refine Zd (Za rfl rfl (Zm (v := Value.string (a)) rfl l (Za rfl rfl (Zm (v := Vi ((g : Int))) rfl rfl ?_))))
    obtain ⟨ai, ac, d⟩ := Zg d
    refine Za rfl rfl (Exec.index_str Tryz.underlying9 rfl rfl rfl ac (Za rfl rfl (Zq rfl rfl rfl (Za rfl rfl (Zm (v := Value.bool (decide (ai < 32))) rfl rfl ?_)))))
    rcases ite_some d with ⟨b, d⟩ | ⟨b, d⟩
    ·refine WL_passes 5 (by rw [b]; rfl) ?_
     refine Zb (Ze ?_)
     have aB := Zu d
     subst j
     exact ⟨o, (Zv _), t, l, n, m, rfl⟩
    replace b := Zk b
    refine WL_run rfl (Zf rfl (Zx b)) rfl (Zm (v := Value.string (a)) rfl l (WL_run rfl (Zf rfl (Zx b)) rfl (Zm (v := Vi ((g : Int))) rfl rfl (WL_run rfl (Zf rfl (Zx b)) rfl (Exec.index_str Tryz.underlying9 rfl rfl rfl ac (WL_run rfl (Zf rfl (Zx b)) rfl (Exec.gtr rfl rfl rfl (Za rfl rfl (Exec.pick_f (v := Value.bool (decide (126 < ai))) rfl (Zx b) rfl (Zb (Ze ?_)))))))))))
    have aC := Zu d
    subst j
    exact ⟨o, (Zv _), t, l, n, m, rfl⟩
   intro aI aR am
   obtain ⟨ah, z, u, a1, a2, a3, aa⟩ := am
   refine (Ze ?_)
   rcases ite_some c with ⟨i, c⟩ | ⟨i, c⟩
   ·refine W_cond_t aa i (Zc (Zd (Za rfl rfl (Zo (v := Value.bool (false)) rfl rfl (Zb (Ze (W_ret (ib_ret (at_ret (at_ret (ib_ret (at_ret (at_ret ?_)))))))))))))
    have aD := Zu c
    subst q
    have av := aw _ (ax (by intro _ h; cases h))
    have aE := Zu av
    subst r
    refine ⟨_, ret1 rfl, ?_⟩
    exact ⟨ah, (Zt y z), u, rfl⟩
   refine W_cond_f aa i ?_
   replace i := Zk i
   refine W_skip (ib_normal (Ze (Zd (Za rfl rfl (Exec.add rfl a3 rfl (Za rfl rfl (Zm (v := Vi (IntKind.i64.wrap ((g : Int) + 1))) rfl rfl (Zb (Ze ?_)))))))))
   have aF := Zu c
   subst q
   refine ⟨_, rfl, ?_⟩; exact ⟨ah, (Zt y z), u, a1, a2, (Eq.trans rfl (wrap_up ar (by have h := must_some a6; simp at h; simp only [maxLen]; omega)))⟩
  intro aN aJ aS al ay
  obtain ⟨a7, az, ao, a4, ab, a9⟩ := al
  refine Zc (Zd (Za rfl rfl (Zq rfl a9 ab (Zb (Ze (Zc (W_false (Zx (decide_eq_false (by omega))) (W_exit (at_exit (at_exit (ib_here (Ze ?_))))))))))))
  refine ⟨_, .inl ay, ?_⟩; exact ⟨a7, az, ao, a4, ab⟩
 rintro aK aT ⟨aO, x, an⟩
 have hm := x.elim (au _) (aq _)
 clear x
 obtain ⟨a8, a0, ap, a5, aL⟩ := an
 refine (Ze (Zc (Zd (Za rfl rfl (Zm (v := Value.string (a)) rfl a5 (Za rfl rfl (Exec.len_str Tryz.underlying9 rfl rfl (Za rfl rfl (Exec.leq rfl rfl rfl (Za rfl rfl (Zo (v := Value.bool (decide ((a.size : Int) ≤ 256))) rfl rfl (Zb (Ze (W_ret ?_))))))))))))))
 have aG := Zu hm
 subst r
 refine ⟨_, ret1 rfl, ?_⟩
 exact ⟨a8, a0, ap, rfl⟩
theorem F63_2 : tyField Tryz.prog 63 2 = some 2 := by kernel_rfl
theorem A81 : tyAgg Tryz.prog 81 = some (true, 5) := by kernel_rfl
theorem Z81 : tyZero Tryz.prog 81 = some (Value.agg #[Value.slice none 0 0, Value.slice none 0 0, Value.slice none 0 0, Vi (0), Value.bool false]) := by kernel_rfl
theorem F81_1 : tyField Tryz.prog 81 1 = some 3 := by kernel_rfl
theorem F81_0 : tyField Tryz.prog 81 0 = some 0 := by kernel_rfl
theorem F63_4 : tyField Tryz.prog 63 4 = some 6 := by kernel_rfl
theorem A61 : tyAgg Tryz.prog 61 = some (false, 1) := by kernel_rfl
theorem S61 : tySlice Tryz.prog 61 = some (109, 4, 56) := by kernel_rfl
theorem A109 : tyAgg Tryz.prog 109 = some (true, 4) := by kernel_rfl
theorem Z109 : tyZero Tryz.prog 109 = some (Value.agg #[Vi (0), Value.string ⟨#[]⟩, Vi (0), Value.slice none 0 0]) := by kernel_rfl
theorem ground_operator_sim {w0 w : World} {s : PHeap} {H : List Res} {aj : Ground} {a : GOp} {i : Value} {j : Value} {l : Value} {m : Value} {n : Value} {af : Value} {ag : Value} {ah : Value} {t : Value} {y : Value} {r : Bool} (hm : ground_operator_p aj a = some r) (hS : St w0 s (H) w) (ay : SliceRep encAtom s i aj.Atoms) (a8 : SliceRep encGFluent s j aj.Fluents) (a9 : SliceRep (encInt .i64) s l aj.Init) (aA : SliceRep encCond s m aj.Goal) (aB : SliceRep encGOp s n aj.Ops) (bd : SliceRep (encInt .i64) s af a.Pre.Pos) (be : SliceRep (encInt .i64) s ag a.Pre.Neg) (bf : SliceRep encGTest s ah a.Pre.Tests) (au : SliceRep encGChange s t a.Changes) (aC : SliceRep encGAssign s y a.Assigns) :
  Calls Tryz.prog 39 #[Value.agg #[i, j, l, m, n], Value.agg #[Value.string (a.Name), Vi (a.Cost), af, ag, ah, t, y]] w fun e w' => ∃ v, e = .returned v ∧ ((fun (cr : Bool) => ∃ (aU : PHeap) , PHeap.le s aU ∧ St w0 aU (H) w' ∧ v = Value.bool (cr)) r) := by
 unfold ground_operator_p at hm
 refine calls_of_W Tryz.func39 rfl rfl (Zc (Zd (Za rfl rfl (Exec.box (cs := [i, j, l, m, n]) hS rfl rfl rfl ?_))))
 intro c di bt
 refine Za rfl rfl (Exec.box (cs := [Value.string (a.Name), Vi (a.Cost), af, ag, ah, t, y]) bt rfl rfl rfl ?_)
 intro z dj aa
 refine Za rfl rfl (Zo (v := Value.bool (false)) rfl rfl (Zb (Ze (Zc (Zc ?_)))))
 obtain ⟨ai, b, hm⟩ := Zg hm
 refine W_mid (M := fun f' w' => (fun (ai : Bool) => ∃ (aV : PHeap) , PHeap.le s aV ∧ St w0 aV (Res.box c 28 [i, j, l, m, n] :: Res.box z 63 [Value.string (a.Name), Vi (a.Cost), af, ag, ah, t, y] :: H) w' ∧ f' 2 = Value.pointer (some ⟨c, 0, none⟩) ∧ f' 3 = Value.pointer (some ⟨z, 0, none⟩) ∧ f' 36 = Value.bool (ai)) ai) ?_ ?_
 ·refine Zd (Za rfl rfl (Zp F63_3 rfl rfl rfl (Za rfl rfl (Zn (aa) A60 rfl rfl rfl (Za rfl rfl (Zr S60 rfl rfl au (Za rfl rfl (Exec.gtr rfl rfl rfl (Za rfl rfl (Zm (v := Value.bool (decide (256 < (a.Changes.length : Int)))) rfl rfl ?_))))))))))
  rcases ite_some b with ⟨ac, b⟩ | ⟨ac, b⟩
  ·refine WL_passes 22 (by rw [ac]; rfl) ?_
   refine Zb (Ze ?_)
   have c0 := Zu b
   subst ai
   exact ⟨s, (Zv _), (aa).f1, rfl, rfl, rfl⟩
  replace ac := Zk ac
  refine WL_run rfl (Zf rfl (Zx ac)) rfl (Zp F63_1 rfl rfl rfl (WL_run rfl (Zf rfl (Zx ac)) rfl (Zn (aa) A3 rfl rfl rfl (WL_run rfl (Zf rfl (Zx ac)) rfl (Zq rfl rfl rfl ?_)))))
  refine WL_passes 2 (by rw [ac]; rfl) ?_
  rcases ite_some b with ⟨ad, b⟩ | ⟨ad, b⟩
  ·refine WL_passes 17 (by rw [ad]; rfl) ?_
   refine Zb (Ze ?_)
   have c1 := Zu b
   subst ai
   exact ⟨s, (Zv _), (aa).f1, rfl, rfl, rfl⟩
  replace ad := Zk ad
  refine WL_run rfl (Zf rfl (Zx ad)) rfl (Zp F63_1 rfl rfl rfl (WL_run rfl (Zf rfl (Zx ad)) rfl (Zn (aa) A3 rfl rfl rfl (WL_run rfl (Zf rfl (Zx ad)) rfl (Exec.gtr rfl rfl rfl ?_)))))
  refine WL_passes 2 (by rw [ad]; rfl) ?_
  rcases ite_some b with ⟨u, b⟩ | ⟨u, b⟩
  ·refine WL_passes 12 (by rw [u]; rfl) ?_
   refine Zb (Ze ?_)
   have c2 := Zu b
   subst ai
   exact ⟨s, (Zv _), (aa).f1, rfl, rfl, rfl⟩
  replace u := Zk u
  refine WL_run rfl (Zf rfl (Zx u)) rfl (Zp F63_0 rfl rfl rfl (WL_run rfl (Zf rfl (Zx u)) rfl (Zn (aa) A9 rfl rfl rfl ?_)))
  obtain ⟨d2, ca, b⟩ := Zg b
  refine WL_run rfl (Zf rfl (Zx u)) rfl (Tc rfl rfl rfl (Zi rfl args_nil) (ground_named_sim ca aa ).r ?_)
  rintro _ dk ⟨ci, q, av, rfl⟩
  refine WL_run rfl (Zf rfl (Zx u)) rfl (Exec.not rfl rfl ?_)
  refine WL_passes 2 (by rw [u]; rfl) ?_
  rcases ite_some b with ⟨o, b⟩ | ⟨o, b⟩
  ·refine WL_passes 6 (by rw [o]; rfl) ?_
   refine Zb (Ze ?_)
   have c3 := Zu b
   subst ai
   exact ⟨ci, q, (av).f1, rfl, rfl, rfl⟩
  replace o := Zk o
  refine WL_run rfl (Zf rfl (Zx o)) rfl (Exec.load_box_agg (ds := [i, j, l, m, n]) ((av).f1) A28 rfl rfl rfl (WL_run rfl (Zf rfl (Zx o)) rfl (Zp F63_2 rfl rfl rfl (WL_run rfl (Zf rfl (Zx o)) rfl (Exec.load_box_agg (ds := [af, ag, ah]) (av) A59 rfl rfl rfl ?_)))))
  obtain ⟨ct, cb, b⟩ := Zg b
  refine WL_run rfl (Zf rfl (Zx o)) rfl (Tc rfl rfl rfl (Zi rfl (Zi rfl args_nil)) (ground_condition_sim cb av (ay.mono q) (a8.mono q) (a9.mono q) (aA.mono q) (aB.mono q) (bd.mono q) (be.mono q) (bf.mono q)).r ?_)
  rintro _ dl ⟨cj, bD, bu, rfl⟩
  refine WL_run rfl (Zf rfl (Zx o)) rfl (Exec.not rfl rfl (Za rfl rfl (Exec.pick_f (v := Value.bool (!ct)) rfl (Zx o) rfl (Zb (Ze ?_)))))
  have c4 := Zu b
  subst ai
  exact ⟨cj, (Zt q bD), (bu).f1, rfl, rfl, rfl⟩
 intro cA dm bp
 obtain ⟨a2, d, aF, bK, aM, aN⟩ := bp
 refine (Ze ?_)
 rcases ite_some hm with ⟨an, hm⟩ | ⟨an, hm⟩
 ·refine W_cond_t aN an (Zc ?_)
  cases hm
 refine W_cond_f aN an ?_
 replace an := Zk an
 refine W_skip (Ze (Zc (Zc (Zd (Za rfl rfl (Zp F63_3 rfl aM rfl (Za rfl rfl (Zn ((aF).f1) A60 rfl rfl rfl (Za rfl rfl (Zr S60 rfl rfl (au.mono d) (Za rfl rfl (Zm (v := Vi (0)) rfl rfl (Zb (Ze ?_))))))))))))))
 obtain ⟨aD, bj, cK, b9, b6⟩ := ctl_some hm
 refine W_mid (M := fun f' w' => ∃ s', (aD = .next s' ∨ aD = .brk s') ∧ (fun (_ : Unit) => ∃ (aW : PHeap) , PHeap.le a2 aW ∧ St w0 aW (Res.box c 28 [i, j, l, m, n] :: Res.box z 63 [Value.string (a.Name), Vi (a.Cost), af, ag, ah, t, y] :: H) w' ∧ f' 2 = Value.pointer (some ⟨c, 0, none⟩) ∧ f' 3 = Value.pointer (some ⟨z, 0, none⟩) ∧ f' 38 = t ∧ f' 39 = Vi ((a.Changes.length : Int))) s') ?_ ?_
 ·refine W_block (W_forC (fun k' s' f' w' => (fun (_ : Unit) => ∃ (aX : PHeap) , PHeap.le a2 aX ∧ St w0 aX (Res.box c 28 [i, j, l, m, n] :: Res.box z 63 [Value.string (a.Name), Vi (a.Cost), af, ag, ah, t, y] :: H) w' ∧ f' 2 = Value.pointer (some ⟨c, 0, none⟩) ∧ f' 3 = Value.pointer (some ⟨z, 0, none⟩) ∧ f' 38 = t ∧ f' 39 = Vi ((a.Changes.length : Int)) ∧ f' 40 = Vi (k' : Int)) s') bj ?_ ?_ ?_)
  ·have bv := (aF).f1
   exact ⟨a2, (Zv _), (bv).f1, bK, aM, rfl, rfl, rfl⟩
  ·intro aL da bi cB dn b8 bl x cM
   obtain ⟨a3, ae, aG, ap, a1, aw, ax, aq⟩ := bl
   refine Zc (Zd (Za rfl rfl (Zq rfl aq ax (Zb (Ze (Zc (W_true (Zx (decide_eq_true (by omega))) (W_skip (Ze (Zc (W_block (Zc (Zd ?_)))))))))))))
   obtain ⟨ar, cc, x⟩ := Zg x
   refine Za rfl rfl (Exec.index_rep S60 rfl aw aq (au.mono (Zt d ae)) cc ?_)
   intro cv cP bg
   refine Za rfl rfl (Zw (E := encGChange) aG A81 rfl rfl rfl bg ?_)
   intro dg cd
   obtain ⟨a5, a6, a7, rfl, aR, aS, aT⟩ := encGChange_val.1 cd
   refine Za rfl rfl (Exec.alloc (cs := [Value.slice none 0 0, Value.slice none 0 0, Value.slice none 0 0, Vi (0), Value.bool (false)]) aG Z81 rfl rfl ?_)
   intro cw dp bw
   refine Za rfl rfl (Exec.store_box (ds := [a5, a6, a7, Vi (ar.Atom), Value.bool (ar.Add)]) (es := [a5, a6, a7, Vi (ar.Atom), Value.bool (ar.Add)]) bw A81 rfl rfl rfl rfl (Zj (aR).one (Zj (aS).one (Zj (aT).one (Zj rfl (Zj rfl one_nil))))) (Nat.le_of_ble_eq_true rfl) rfl ?_)
   intro dq ab
   refine Zb (Ze (Zc ?_))
   obtain ⟨al, h, x⟩ := Zg x
   refine W_mid (M := fun f' w' => (fun (al : Bool) => ∃ (aY : PHeap) , PHeap.le a3 aY ∧ St w0 aY (Res.box c 28 [i, j, l, m, n] :: Res.box z 63 [Value.string (a.Name), Vi (a.Cost), af, ag, ah, t, y] :: H) w' ∧ f' 2 = Value.pointer (some ⟨c, 0, none⟩) ∧ f' 3 = Value.pointer (some ⟨z, 0, none⟩) ∧ f' 38 = t ∧ f' 39 = Vi ((a.Changes.length : Int)) ∧ f' 40 = Vi ((aL : Int)) ∧ f' 61 = Value.bool (al)) al) ?_ ?_
   ·refine Zd (Za rfl rfl (Zp F81_1 rfl rfl rfl (Za rfl rfl (Zn (ab) A3 rfl rfl rfl (Za rfl rfl (Zq rfl rfl rfl (Za rfl rfl (Zm (v := Value.bool (decide (ar.Atom < 0))) rfl rfl ?_))))))))
    rcases ite_some h with ⟨g, h⟩ | ⟨g, h⟩
    ·refine WL_passes 14 (by rw [g]; rfl) ?_
     refine Zb (Ze ?_)
     have c5 := Zu h
     subst al
     exact ⟨a3, (Zv _), (((ab).drop).f1).f1, ap, a1, aw, ax, aq, rfl⟩
    replace g := Zk g
    refine WL_run rfl (Zf rfl (Zx g)) rfl (Zp F81_1 rfl rfl rfl (WL_run rfl (Zf rfl (Zx g)) rfl (Zn (ab) A3 rfl rfl rfl (WL_run rfl (Zf rfl (Zx g)) rfl (Zp F28_0 rfl ap rfl (WL_run rfl (Zf rfl (Zx g)) rfl (Zn ((ab).f1) A22 rfl rfl rfl (WL_run rfl (Zf rfl (Zx g)) rfl (Zr S22 rfl rfl (ay.mono (Zt d ae)) (WL_run rfl (Zf rfl (Zx g)) rfl (Exec.geq rfl rfl rfl ?_)))))))))))
    refine WL_passes 2 (by rw [g]; rfl) ?_
    rcases ite_some h with ⟨p, h⟩ | ⟨p, h⟩
    ·refine WL_passes 6 (by rw [p]; rfl) ?_
     refine Zb (Ze ?_)
     have c6 := Zu h
     subst al
     exact ⟨a3, (Zv _), (((ab).drop).f1).f1, ap, a1, aw, ax, aq, rfl⟩
    replace p := Zk p
    refine WL_run rfl (Zf rfl (Zx p)) rfl (Exec.load_box_agg (ds := [i, j, l, m, n]) ((ab).f1) A28 rfl ap rfl (WL_run rfl (Zf rfl (Zx p)) rfl (Zp F81_0 rfl rfl rfl (WL_run rfl (Zf rfl (Zx p)) rfl (Exec.load_box_agg (ds := [a5, a6, a7]) (ab) A59 rfl rfl rfl ?_)))))
    obtain ⟨cu, ce, h⟩ := Zg h
    refine WL_run rfl (Zf rfl (Zx p)) rfl (Tc rfl rfl rfl (Zi rfl (Zi rfl args_nil)) (ground_condition_sim ce ab (ay.mono (Zt d ae)) (a8.mono (Zt d ae)) (a9.mono (Zt d ae)) (aA.mono (Zt d ae)) (aB.mono (Zt d ae)) aR aS aT).r ?_)
    rintro _ dr ⟨ck, bE, bx, rfl⟩
    refine WL_run rfl (Zf rfl (Zx p)) rfl (Exec.not rfl rfl (Za rfl rfl (Exec.pick_f (v := Value.bool (!cu)) rfl (Zx p) rfl (Zb (Ze ?_)))))
    have c7 := Zu h
    subst al
    exact ⟨ck, bE, (((bx).drop).f1).f1, ap, a1, aw, ax, aq, rfl⟩
   intro cC dt bq
   obtain ⟨cl, bF, bz, bL, bM, bN, bO, bP, aO⟩ := bq
   refine (Ze ?_)
   rcases ite_some x with ⟨ao, x⟩ | ⟨ao, x⟩
   ·refine W_cond_t aO ao (Zc ?_)
    cases x
   refine W_cond_f aO ao ?_
   replace ao := Zk ao
   refine W_skip (ib_normal (Ze (Zd (Za rfl rfl (Exec.add rfl bP rfl (Za rfl rfl (Zm (v := Vi (IntKind.i64.wrap ((aL : Int) + 1))) rfl rfl (Zb (Ze ?_)))))))))
   have c8 := Zu x
   subst bi
   refine ⟨_, rfl, ?_⟩; exact ⟨cl, (Zt ae bF), ((bz).f1).f1, bL, bM, bN, bO, (Eq.trans rfl (wrap_up b8 (SliceRep.le (au.mono d))))⟩
  intro db cD du bm bB
  obtain ⟨cm, bG, b0, bQ, bR, bS, aP, cp⟩ := bm
  refine Zc (Zd (Za rfl rfl (Zq rfl cp aP (Zb (Ze (Zc (W_false (Zx (decide_eq_false (by omega))) (W_exit (at_exit (at_exit (ib_here (Ze ?_))))))))))))
  refine ⟨_, .inl bB, ?_⟩; exact ⟨cm, bG, ((b0).f1).f1, bQ, bR, bS, aP⟩
 rintro cE dv ⟨dc, aJ, br⟩
 have hm := aJ.elim (b9 _) (b6 _)
 clear aJ
 obtain ⟨a4, a0, b1, bT, bU, cR, cS⟩ := br
 refine (Ze (Zc (Zd (Za rfl rfl (Exec.make_bmap (k := 3) (e := 4) b1 rfl ?_)))))
 intro am dw aH
 refine Za rfl rfl (Zo (v := Value.map (some am)) rfl rfl (Zb (Ze (Zc (Zc (Zd (Za rfl rfl (Zp F63_4 rfl bU rfl (Za rfl rfl (Zn ((aH).f2) A61 rfl rfl rfl (Za rfl rfl (Zr S61 rfl rfl (aC.mono (Zt d a0)) (Za rfl rfl (Zm (v := Vi (0)) rfl rfl (Zb (Ze ?_))))))))))))))))
 obtain ⟨aE, bk, cL, bA, b7⟩ := ctl_some hm
 refine W_mid (M := fun f' w' => ∃ s', (aE = .next s' ∨ aE = .brk s') ∧ (fun (_ : Unit) => ∃ (aZ : PHeap) , PHeap.le a4 aZ ∧ St w0 aZ (Res.box c 28 [i, j, l, m, n] :: Res.bmap Tryz.prog 3 4 am ([] : BMap) :: H) w' ∧ f' 2 = Value.pointer (some ⟨c, 0, none⟩) ∧ f' 7 = Value.map (some am) ∧ f' 65 = y ∧ f' 66 = Vi ((a.Assigns.length : Int))) s') ?_ ?_
 ·refine W_block (W_forC (fun k' s' f' w' => (fun (_ : Unit) => ∃ (ba : PHeap) , PHeap.le a4 ba ∧ St w0 ba (Res.box c 28 [i, j, l, m, n] :: Res.bmap Tryz.prog 3 4 am ([] : BMap) :: H) w' ∧ f' 2 = Value.pointer (some ⟨c, 0, none⟩) ∧ f' 7 = Value.map (some am) ∧ f' 65 = y ∧ f' 66 = Vi ((a.Assigns.length : Int)) ∧ f' 67 = Vi (k' : Int)) s') bk ?_ ?_ ?_)
  ·have b2 := ((aH).f2).drop
   exact ⟨a4, (Zv _), (b2).f1, bT, rfl, rfl, rfl, rfl⟩
  ·intro cO dd cz cF dx cJ bn az cN
   obtain ⟨cZ, bH, aI, cT, cU, bV, bW, bc⟩ := bn
   refine Zc (Zd (Za rfl rfl (Zq rfl bc bW (Zb (Ze (Zc (W_true (Zx (decide_eq_true (by omega))) (W_skip (Ze (Zc (W_block (Zc (Zd ?_)))))))))))))
   obtain ⟨ak, cf, az⟩ := Zg az
   refine Za rfl rfl (Exec.index_rep S61 rfl bV bc (aC.mono (Zt (Zt d a0) bH)) cf ?_)
   intro cx cQ bh
   refine Za rfl rfl (Zw (E := encGAssign) aI A109 rfl rfl rfl bh ?_)
   intro dh cg
   obtain ⟨bb, rfl, ch⟩ := encGAssign_val.1 cg
   refine Za rfl rfl (Exec.alloc (cs := [Vi (0), Value.string (⟨#[]⟩), Vi (0), Value.slice none 0 0]) aI Z109 rfl rfl ?_)
   intro cy dy b3
   refine Za rfl rfl (Exec.store_box (ds := [Vi (ak.Fluent), Value.string (ak.Value.Op), Vi (ak.Value.N), bb]) (es := [Vi (ak.Fluent), Value.string (ak.Value.Op), Vi (ak.Value.N), bb]) b3 A109 rfl rfl rfl rfl (Zj rfl (Zj rfl (Zj rfl (Zj (ch).one one_nil)))) (Nat.le_of_ble_eq_true rfl) rfl ?_)
   intro dz cI
   refine Zb (Ze (Zc (Zc ?_)))
   cases az
  intro de cG d0 bo bC
  obtain ⟨cn, bI, b4, bX, bY, bZ, aQ, cq⟩ := bo
  refine Zc (Zd (Za rfl rfl (Zq rfl cq aQ (Zb (Ze (Zc (W_false (Zx (decide_eq_false (by omega))) (W_exit (at_exit (at_exit (ib_here (Ze ?_))))))))))))
  refine ⟨_, .inl bC, ?_⟩; exact ⟨cn, bI, ((b4).f1).f1, bX, bY, bZ, aQ⟩
 rintro cH d1 ⟨df, aK, bs⟩
 have hm := aK.elim (bA _) (b7 _)
 clear aK
 obtain ⟨co, bJ, b5, cV, cW, cX, cY⟩ := bs
 refine (Ze (Zc (Zd (Za rfl rfl (Zo (v := Value.bool (true)) rfl rfl (Zb (Ze (W_ret ?_))))))))
 have c9 := Zu hm
 subst r
 refine ⟨_, ret1 rfl, ?_⟩
 exact ⟨co, (Zt (Zt d a0) bJ), ((b5).drop).drop, rfl⟩
theorem N38 : (Tryz.f38.name == "runtime.NumGoroutine") = false := by kernel_rfl
theorem ground_Valid_c3_sim {w0 w : World} {s : PHeap} {H : List Res} {a : GOp} {j : Ground} {b : Value} {c : Value} {d : Value} {f : Value} {g : Value} {i k : Nat} {r : Bool} (hm : ground_Valid_c3_p a j = some r) (hS : St w0 s (H) w) (m : SliceRep (encInt .i64) s b a.Pre.Pos) (n : SliceRep (encInt .i64) s c a.Pre.Neg) (o : SliceRep encGTest s d a.Pre.Tests) (p : SliceRep encGChange s f a.Changes) (q : SliceRep encGAssign s g a.Assigns) (t : At s i k encGround j) :
  Calls Tryz.prog 38 #[Value.agg #[Value.string (a.Name), Vi (a.Cost), b, c, d, f, g], Value.pointer (some ⟨i, k, none⟩)] w fun e w' => ∃ v, e = .returned v ∧ ((fun (ag : Bool) => ∃ (l : PHeap) , PHeap.le s l ∧ St w0 l (H) w' ∧ v = Value.bool (ag)) r) := by
 unfold ground_Valid_c3_p at hm
 refine calls_of_W Tryz.func38 rfl rfl (Zc (Zd (Za rfl rfl (Exec.box (cs := [Value.string (a.Name), Vi (a.Cost), b, c, d, f, g]) hS rfl rfl rfl ?_))))
 intro ai aq h
 refine Za rfl rfl (Zo (v := Value.bool (false)) rfl rfl (Zb (Ze (Zc (Zd (Za rfl rfl (Zw (E := encGround) h A28 rfl rfl rfl t ?_)))))))
 intro ap y
 obtain ⟨ak, al, am, an, ao, rfl, aa, ab, ac, ad, ae⟩ := encGround_val.1 y
 refine Za rfl rfl (Exec.load_box_agg (ds := [Value.string (a.Name), Vi (a.Cost), b, c, d, f, g]) (h) A63 rfl rfl rfl ?_)
 obtain ⟨ah, z, hm⟩ := Zg hm
 refine Za rfl rfl (Tc rfl rfl rfl (Zi rfl (Zi rfl args_nil)) (ground_operator_sim z h aa ab ac ad ae m n o p q).r ?_)
 rintro _ ar ⟨af, x, u, rfl⟩
 refine Za rfl rfl (Exec.not rfl rfl (Za rfl rfl (Zo (v := Value.bool (!ah)) rfl rfl (Zb (Ze (W_ret ?_))))))
 have aj := Zu hm
 subst r
 refine ⟨_, ret1 rfl, ?_⟩
 exact ⟨af, x, (u).drop, rfl⟩
theorem slices_IndexFunc_apiGOp_Valid_c3_sim {w0 w : World} {s : PHeap} {H : List Res} {l : (List GOp)} {o : Ground} {c : Value} {d i : Nat} {r : Int} (hm : slices_IndexFunc_apiGOp_Valid_c3_p l o = some r) (hS : St w0 s (H) w) (m : SliceRep encGOp s c l) (ah : At s d i encGround o) :
  Calls Tryz.prog 59 #[c, Value.func (.func 38) #[] #[Value.pointer (some ⟨d, i, none⟩)]] w fun e w' => ∃ v, e = .returned v ∧ ((fun (aD : Int) => ∃ (ad : PHeap) , PHeap.le s ad ∧ St w0 ad (H) w' ∧ v = Vi (aD)) r) := by
 unfold slices_IndexFunc_apiGOp_Valid_c3_p at hm
 refine calls_of_W Tryz.func59 rfl rfl (Zc (Zd (Za rfl rfl (Zo (v := Vi (0)) rfl rfl (Zb (Ze (Zc (Zc (Zd (Za rfl rfl (Zm (v := c) rfl rfl (Za rfl rfl (Zr S26 rfl rfl m (Za rfl rfl (Zm (v := Vi (0)) rfl rfl (Zb (Ze ?_)))))))))))))))))
 obtain ⟨p, aj, av, ar, ap⟩ := ctl_some hm
 refine W_mid (M := fun f' w' => ∃ s', (p = .next s' ∨ p = .brk s') ∧ (fun (_ : Unit) => ∃ (ae : PHeap) , PHeap.le s ae ∧ St w0 ae (H) w' ∧ f' 0 = c ∧ f' 1 = Value.func (.func 38) #[] #[Value.pointer (some ⟨d, i, none⟩)] ∧ f' 7 = Vi ((l.length : Int))) s') ?_ ?_
 ·refine W_block (W_forC (fun k' s' f' w' => (fun (_ : Unit) => ∃ (af : PHeap) , PHeap.le s af ∧ St w0 af (H) w' ∧ f' 0 = c ∧ f' 1 = Value.func (.func 38) #[] #[Value.pointer (some ⟨d, i, none⟩)] ∧ f' 7 = Vi ((l.length : Int)) ∧ f' 8 = Vi (k' : Int)) s') aj ?_ ?_ ?_)
  ·exact ⟨s, (Zv _), hS, rfl, rfl, rfl, rfl⟩
  ·intro b aR q aJ ba aq ak a aw
   obtain ⟨aQ, j, t, z, aa, ab, n⟩ := ak
   refine Zc (Zd (Za rfl rfl (Zq rfl n ab (Zb (Ze (Zc (W_true (Zx (decide_eq_true (by omega))) (W_skip (Ze (Zc (W_block (Zc (Zd (Za rfl rfl (Zm (v := Vi ((b : Int))) rfl n (Za rfl rfl (Zo (v := Vi ((b : Int))) rfl rfl (Zb (Ze (Zc (Zd (Za rfl rfl (Zm (v := Value.func (.func 38) #[] #[Value.pointer (some ⟨d, i, none⟩)]) rfl aa (Za rfl rfl (Zm (v := c) rfl z (Za rfl rfl (Zm (v := Vi ((b : Int))) rfl rfl ?_)))))))))))))))))))))))))))
   obtain ⟨be, a2, a⟩ := Zg a
   refine Za rfl rfl (Exec.index_rep S26 rfl rfl rfl (m.mono j) a2 ?_)
   intro aE aM ai
   refine Za rfl rfl (Zw (E := encGOp) t A63 rfl rfl rfl ai ?_)
   intro aZ a3
   obtain ⟨aU, aV, aW, aX, aY, rfl, a5, a6, a7, a8, a9⟩ := encGOp_val.1 a3
   obtain ⟨bf, a4, a⟩ := Zg a
   refine Za rfl rfl (Exec.callc rfl rfl Tryz.func38 rfl N38 (Zi rfl args_nil) rfl ((ground_Valid_c3_sim a4 t a5 a6 a7 a8 a9 (ah.mono j)).mono ?_))
   rintro _ bb ⟨_, rfl, ⟨ag, y, u, rfl⟩⟩
   refine ⟨_, rfl, ?_⟩
   refine Zb (Ze ?_)
   rcases ite_some a with ⟨g, a⟩ | ⟨g, a⟩
   ·refine W_cond_t rfl g (Zc (Zd (Za rfl rfl (Zm (v := Vi ((b : Int))) rfl rfl (Za rfl rfl (Zo (v := Vi ((b : Int))) rfl rfl (Zb (Ze (W_ret (ib_ret (at_ret (at_ret (ib_ret (at_ret (at_ret ?_)))))))))))))))
    have aF := Zu a
    subst q
    have au := av _ (aw (by intro _ h; cases h))
    have aG := Zu au
    subst r
    refine ⟨_, ret1 rfl, ?_⟩
    exact ⟨ag, (Zt j y), u, rfl⟩
   refine W_cond_f rfl g ?_
   replace g := Zk g
   refine W_skip (ib_normal (Ze (Zd (Za rfl rfl (Exec.add rfl n rfl (Za rfl rfl (Zm (v := Vi (IntKind.i64.wrap ((b : Int) + 1))) rfl rfl (Zb (Ze ?_)))))))))
   have aH := Zu a
   subst q
   refine ⟨_, rfl, ?_⟩; exact ⟨ag, (Zt j y), u, z, aa, ab, (Eq.trans rfl (wrap_up aq (SliceRep.le m)))⟩
  intro aS aK bc al ax
  obtain ⟨aA, ay, an, a0, a1, ac, aC⟩ := al
  refine Zc (Zd (Za rfl rfl (Zq rfl aC ac (Zb (Ze (Zc (W_false (Zx (decide_eq_false (by omega))) (W_exit (at_exit (at_exit (ib_here (Ze ?_))))))))))))
  refine ⟨_, .inl ax, ?_⟩; exact ⟨aA, ay, an, a0, a1, ac⟩
 rintro aL bd ⟨aT, x, am⟩
 have hm := x.elim (ar _) (ap _)
 clear x
 obtain ⟨aB, az, ao, aN, aO, aP⟩ := am
 refine (Ze (Zc (Zd (Za rfl rfl (Zo (v := Vi ((-1))) rfl rfl (Zb (Ze (W_ret ?_))))))))
 have aI := Zu hm
 subst r
 refine ⟨_, ret1 rfl, ?_⟩
 exact ⟨aB, az, ao, rfl⟩
theorem slices_ContainsFunc_apiGOp_Valid_c3_sim {w0 w : World} {s : PHeap} {H : List Res} {g : (List GOp)} {d : Ground} {c : Value} {a b : Nat} {r : Bool} (hm : slices_ContainsFunc_apiGOp_Valid_c3_p g d = some r) (hS : St w0 s (H) w) (h : SliceRep encGOp s c g) (i : At s a b encGround d) :
  Calls Tryz.prog 37 #[c, Value.func (.func 38) #[] #[Value.pointer (some ⟨a, b, none⟩)]] w fun e w' => ∃ v, e = .returned v ∧ ((fun (n : Bool) => ∃ (f : PHeap) , PHeap.le s f ∧ St w0 f (H) w' ∧ v = Value.bool (n)) r) := by
 unfold slices_ContainsFunc_apiGOp_Valid_c3_p at hm
 refine calls_of_W Tryz.func37 rfl rfl (Zc (Zd (Za rfl rfl (Zo (v := Value.bool (false)) rfl rfl (Zb (Ze (Zc (Zd (Za rfl rfl (Zm (v := c) rfl rfl (Za rfl rfl (Zm (v := Value.func (.func 38) #[] #[Value.pointer (some ⟨a, b, none⟩)]) rfl rfl ?_))))))))))))
 obtain ⟨o, l, hm⟩ := Zg hm
 refine Za rfl rfl (Tc rfl rfl rfl (Zi rfl (Zi rfl args_nil)) (slices_IndexFunc_apiGOp_Valid_c3_sim l hS h i).r ?_)
 rintro _ q ⟨m, k, j, rfl⟩
 refine Za rfl rfl (Exec.geq rfl rfl rfl (Za rfl rfl (Zo (v := Value.bool (decide (0 ≤ o))) rfl rfl (Zb (Ze (W_ret ?_))))))
 have p := Zu hm
 subst r
 refine ⟨_, ret1 rfl, ?_⟩
 exact ⟨m, k, j, rfl⟩
theorem ground_Valid_sim {w0 w : World} {s : PHeap} {H : List Res} {b : Ground} {aa : Value} {x : Value} {t : Value} {o : Value} {p : Value} {r : Bool} (hm : ground_Valid_p b = some r) (hS : St w0 s (H) w) (ad : SliceRep encAtom s aa b.Atoms) (ae : SliceRep encGFluent s x b.Fluents) (ak : SliceRep (encInt .i64) s t b.Init) (af : SliceRep encCond s o b.Goal) (al : SliceRep encGOp s p b.Ops) :
  Calls Tryz.prog 17 #[Value.agg #[aa, x, t, o, p]] w fun e w' => ∃ v, e = .returned v ∧ ((fun (aE : Bool) => ∃ (ap : PHeap) , PHeap.le s ap ∧ St w0 ap (H) w' ∧ v = Value.bool (aE)) r) := by
 unfold ground_Valid_p at hm
 refine calls_of_W Tryz.func17 rfl rfl (Zc (Zd (Za rfl rfl (Exec.box (cs := [aa, x, t, o, p]) hS rfl rfl rfl ?_))))
 intro am aP n
 refine Za rfl rfl (Zo (v := Value.bool (false)) rfl rfl (Zb (Ze (Zc (Zc (W_mid (M := fun f' w' => ∃ (aq : PHeap) , PHeap.le s aq ∧ St w0 aq (Res.box am 28 [aa, x, t, o, p] :: H) w' ∧ f' 1 = Value.pointer (some ⟨am, 0, none⟩) ∧ f' 24 = Value.bool (((decide (4096 < (b.Atoms.length : Int))) || ((decide (4096 < (b.Fluents.length : Int))) || ((decide (4096 < (b.Ops.length : Int))) || decide (64 < (b.Goal.length : Int))))))) ?_ ?_))))))
 ·refine Zd (Za rfl rfl (Zp F28_0 rfl rfl rfl (Za rfl rfl (Zn (n) A22 rfl rfl rfl (Za rfl rfl (Zr S22 rfl rfl ad (Za rfl rfl (Exec.gtr rfl rfl rfl (Za rfl rfl (Zm (v := Value.bool (decide (4096 < (b.Atoms.length : Int)))) rfl rfl ?_))))))))))
  by_cases c : (decide (4096 < (b.Atoms.length : Int))) = true
  ·refine WL_passes 17 (by rw [c]; rfl) ?_
   refine Zb (Ze ?_)
   exact ⟨s, (Zv _), n, rfl, (Zx (or_t c)).symm⟩
  replace c := Zk c
  refine WL_run rfl (Zf rfl (Zx c)) rfl (Zp F28_1 rfl rfl rfl (WL_run rfl (Zf rfl (Zx c)) rfl (Zn (n) A23 rfl rfl rfl (WL_run rfl (Zf rfl (Zx c)) rfl (Zr S23 rfl rfl ae (WL_run rfl (Zf rfl (Zx c)) rfl (Exec.gtr rfl rfl rfl ?_)))))))
  refine WL_passes 2 (by rw [c]; rfl) ?_
  by_cases g : (decide (4096 < (b.Fluents.length : Int))) = true
  ·refine WL_passes 11 (by rw [g]; rfl) ?_
   refine Zb (Ze ?_)
   exact ⟨s, (Zv _), n, rfl, (Zx (Eq.trans (or_f c) (or_t g))).symm⟩
  replace g := Zk g
  refine WL_run rfl (Zf rfl (Zx g)) rfl (Zp F28_4 rfl rfl rfl (WL_run rfl (Zf rfl (Zx g)) rfl (Zn (n) A26 rfl rfl rfl (WL_run rfl (Zf rfl (Zx g)) rfl (Zr S26 rfl rfl al (WL_run rfl (Zf rfl (Zx g)) rfl (Exec.gtr rfl rfl rfl ?_)))))))
  refine WL_passes 2 (by rw [g]; rfl) ?_
  by_cases i : (decide (4096 < (b.Ops.length : Int))) = true
  ·refine WL_passes 5 (by rw [i]; rfl) ?_
   refine Zb (Ze ?_)
   exact ⟨s, (Zv _), n, rfl, (Zx (Eq.trans (or_f c) (Eq.trans (or_f g) (or_t i)))).symm⟩
  replace i := Zk i
  refine WL_run rfl (Zf rfl (Zx i)) rfl (Zp F28_3 rfl rfl rfl (WL_run rfl (Zf rfl (Zx i)) rfl (Zn (n) A25 rfl rfl rfl (WL_run rfl (Zf rfl (Zx i)) rfl (Zr S25 rfl rfl af (WL_run rfl (Zf rfl (Zx i)) rfl (Exec.gtr rfl rfl rfl (Za rfl rfl (Exec.pick_f (v := Value.bool (decide (64 < (b.Goal.length : Int)))) rfl (Zx i) rfl (Zb (Ze ?_)))))))))))
  exact ⟨s, (Zv _), n, rfl, (Zx (Eq.trans (or_f c) (Eq.trans (or_f g) (or_f i)))).symm⟩
 intro aL aQ au
 obtain ⟨a8, l, an, q, ao⟩ := au
 refine (Ze ?_)
 rcases ite_some hm with ⟨z, hm⟩ | ⟨z, hm⟩
 ·refine W_cond_t ao z (Zc ?_)
  cases hm
 refine W_cond_f ao z ?_
 replace z := Zk z
 refine W_skip (Ze (Zc ?_))
 obtain ⟨u, a, hm⟩ := Zg hm
 refine W_mid (M := fun f' w' => (fun (u : Bool) => ∃ (ar : PHeap) , PHeap.le a8 ar ∧ St w0 ar (H) w' ∧ f' 2 = Value.bool (u)) u) ?_ ?_
 ·refine Zd (Za rfl rfl (Zp F28_1 rfl q rfl (Za rfl rfl (Zn (an) A23 rfl rfl rfl ?_))))
  obtain ⟨aF, a2, a⟩ := Zg a
  refine Za rfl rfl (Tc rfl rfl rfl (Zi rfl (Zi rfl args_nil)) (slices_ContainsFunc_apiGFluent_Valid_c1_sim a2 an (ae.mono l)).r ?_)
  rintro _ aR ⟨a9, d, ab, rfl⟩
  refine Za rfl rfl (Exec.not rfl rfl (Za rfl rfl (Zm (v := Value.bool (!aF)) rfl rfl ?_)))
  rcases ite_some a with ⟨h, a⟩ | ⟨h, a⟩
  ·refine WL_run rfl (Zf rfl (Zx h)) rfl (Zp F28_2 rfl q rfl (WL_run rfl (Zf rfl (Zx h)) rfl (Zn (ab) A24 rfl rfl rfl (WL_run rfl (Zf rfl (Zx h)) rfl (Zp F28_0 rfl q rfl (WL_run rfl (Zf rfl (Zx h)) rfl (Zn (ab) A22 rfl rfl rfl (WL_run rfl (Zf rfl (Zx h)) rfl (Zr S22 rfl rfl (ad.mono (Zt l d)) ?_)))))))))
   obtain ⟨aW, a3, a⟩ := Zg a
   refine WL_run rfl (Zf rfl (Zx h)) rfl (Tc rfl rfl rfl (Zi rfl (Zi rfl args_nil)) (ground_indices_sim a3 ab (ak.mono (Zt l d))).r ?_)
   rintro _ aS ⟨aA, m, ag, rfl⟩
   refine WL_passes 2 (by rw [h]; rfl) ?_
   rcases ite_some a with ⟨j, a⟩ | ⟨j, a⟩
   ·refine WL_run rfl (Zf rfl (Zx j)) rfl (Zp F28_3 rfl q rfl (WL_run rfl (Zf rfl (Zx j)) rfl (Zn (ag) A25 rfl rfl rfl ?_)))
    obtain ⟨aN, ai, aw, aj⟩ := St.freezeVar (E := encGround) (y := b) ag ⟨[aa], [x, t, o, p], rfl, ⟨_, rfl, (ad.mono (Zt (Zt l d) m))⟩, ⟨[x], [t, o, p], rfl, ⟨_, rfl, (ae.mono (Zt (Zt l d) m))⟩, ⟨[t], [o, p], rfl, ⟨_, rfl, (ak.mono (Zt (Zt l d) m))⟩, ⟨[o], [p], rfl, ⟨_, rfl, (af.mono (Zt (Zt l d) m))⟩, ⟨_, rfl, (al.mono (Zt (Zt l d) m))⟩⟩⟩⟩⟩
    refine WL_run rfl (Zf rfl (Zx j)) rfl (Exec.makeFunc rfl (Zi q args_nil) ?_)
    obtain ⟨aX, a4, a⟩ := Zg a
    refine WL_run rfl (Zf rfl (Zx j)) rfl (Tc rfl rfl rfl (Zi rfl (Zi rfl args_nil)) (slices_ContainsFunc_apiCond_Valid_c2_sim a4 aw (af.mono (Zt (Zt (Zt l d) m) ai)) aj).r ?_)
    rintro _ aT ⟨aB, ac, ah, rfl⟩
    refine WL_run rfl (Zf rfl (Zx j)) rfl (Exec.not rfl rfl ?_)
    refine WL_passes 2 (by rw [j]; rfl) ?_
    rcases ite_some a with ⟨k, a⟩ | ⟨k, a⟩
    ·refine WL_run rfl (Zf rfl (Zx k)) rfl (Zp F28_4 rfl q rfl (WL_run rfl (Zf rfl (Zx k)) rfl (Zw (E := (encSlice encGOp)) ah A26 rfl rfl rfl ((aj.sub (Sub.iso (Sub.snd (Sub.snd (Sub.snd (Sub.snd (Sub.refl _) rfl) rfl) rfl) rfl)) rfl).mono ac) ?_)))
     intro aO a5
     have a7 : SliceRep _ _ _ (b.Ops) := encSlice_val.1 a5
     refine WL_run rfl (Zf rfl (Zx k)) rfl (Exec.makeFunc rfl (Zi q args_nil) ?_)
     obtain ⟨aY, a6, a⟩ := Zg a
     refine WL_run rfl (Zf rfl (Zx k)) rfl (Tc rfl rfl rfl (Zi rfl (Zi rfl args_nil)) (slices_ContainsFunc_apiGOp_Valid_c3_sim a6 ah a7 (aj.mono ac)).r ?_)
     rintro _ aU ⟨aC, az, ax, rfl⟩
     refine WL_run rfl (Zf rfl (Zx k)) rfl (Exec.not rfl rfl ?_)
     refine WL_passes 2 (by rw [k]; rfl) ?_
     refine Zb (Ze ?_)
     have aG := Zu a
     subst u
     exact ⟨aC, (Zt (Zt (Zt (Zt d m) ai) ac) az), ax, rfl⟩
    replace k := Zk k
    refine WL_passes 7 (by rw [k]; rfl) ?_
    refine Zb (Ze ?_)
    have aH := Zu a
    subst u
    exact ⟨aB, (Zt (Zt (Zt d m) ai) ac), ah, rfl⟩
   replace j := Zk j
   refine WL_passes 14 (by rw [j]; rfl) ?_
   refine Zb (Ze ?_)
   have aI := Zu a
   subst u
   exact ⟨aA, (Zt d m), (ag).drop, rfl⟩
  replace h := Zk h
  refine WL_passes 22 (by rw [h]; rfl) ?_
  refine Zb (Ze ?_)
  have aJ := Zu a
  subst u
  exact ⟨a9, d, (ab).drop, rfl⟩
 intro aM aV av
 obtain ⟨aD, a0, ay, a1⟩ := av
 refine (Ze (W_ret ?_))
 have aK := Zu hm
 subst r
 refine ⟨_, ret1 rfl, ?_⟩
 exact ⟨aD, (Zt l a0), ay, a1⟩
theorem A56 : tyAgg Tryz.prog 56 = some (true, 2) := by kernel_rfl
theorem F56_1 : tyField Tryz.prog 56 1 = some 1 := by kernel_rfl
theorem A54 : tyAgg Tryz.prog 54 = some (false, 1) := by kernel_rfl
theorem Z9 : tyZero Tryz.prog 9 = some (Value.string ⟨#[]⟩) := by kernel_rfl
theorem slices_Clone_string_sim {w0 w : World} {s : PHeap} {H : List Res} {b : (List ByteArray)} {c : Value} {r : (List ByteArray)} (hm : slices_Clone_string_p b = some r) (hS : St w0 s (H) w) (d : SliceRep encStr s c b) :
  Calls Tryz.prog 74 #[c] w fun e w' => ∃ v, e = .returned v ∧ ((fun (u : (List ByteArray)) => ∃ (g : PHeap) (h : Value), PHeap.le s g ∧ St w0 g (Res.arr encStr 9 h u :: H) w' ∧ v = h) r) := by
 unfold slices_Clone_string_p at hm
 refine calls_of_W Tryz.func74 rfl rfl (Zc (Zd (Za rfl rfl (Zo (v := Value.slice none 0 0) rfl rfl (Zb (Ze (Zc (Zc (Zd (Za rfl rfl (Zm (v := c) rfl rfl ?_)))))))))))
 obtain ⟨j, ab, y, k, p⟩ := (d).nilShape
 refine Za rfl rfl (Exec.slice_eql_nil Tryz.underlying54 rfl k rfl (Zb (Ze ?_)))
 by_cases a : j.isNone = true
 ·have q := p a
  replace hm := (show (some []) = ((app 16 [] b).bind fun f => some f) from by simp [q, app]).trans hm
  refine W_true ((Zx a)) (Zc (Zd (Za rfl rfl (Zo (v := Value.slice none 0 0) rfl rfl (Zb (Ze (W_ret (at_ret ?_))))))))
  have z := Zu hm
  subst r
  refine ⟨_, ret1 rfl, ?_⟩
  have l := hS.nilArr encStr 9
  exact ⟨s, (Value.slice none 0 0), (Zv _), l, rfl⟩
 replace a := Zk a
 refine W_false ((Zx a)) (W_skip (Ze (Zc (Zd (Za rfl rfl (Exec.buildSlice (Te := 9) (cs := []) hS rfl parts_nil (fun _ => by kernel_rfl) ?_))))))
 intro x ac m
 refine Za rfl rfl (Zm (v := c) rfl rfl ?_)
 have n := St.boxArr (E := encStr) (xs := []) m rfl (by simp [maxLen])
 obtain ⟨f, t, hm⟩ := Zg hm
 refine Za rfl rfl (Exec.append_rep (E := encStr) (ys := b) n S54 Z9 rfl (by decide) rfl rfl rfl d t ?_)
 intro i ad o
 refine Za rfl rfl (Zo (v := i) rfl rfl (Zb (Ze (W_ret ?_))))
 have aa := Zu hm
 subst r
 refine ⟨_, ret1 rfl, ?_⟩
 exact ⟨s, i, (Zv _), o, rfl⟩
end Go.Pw
