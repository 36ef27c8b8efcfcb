/-
  The walks (printed by my generator).
-/
import Derived.Test.YtcabhickgjhkhaaGreatDoorL33
import Derived.Test.YtcabhickgjhkhaaGreatDoorL27
import Derived.Test.YtcabhickgjhkhaaGreatDoorIsP
import Derived.Test.YtcabhickgjhkhaaGreatDoorL8
import Derived.Test.YtcabhickgjhkhaaGreatDoorL9
import Derived.Test.YtcabhickgjhkhaaGreatDoorL12
import Derived.Test.YtcabhickgjhkhaaGreatDoorLC
import Derived.Test.YtcabhickgjhkhaaGreatDoorL21
import Derived.Test.YtcabhickgjhkhaaGreatDoorLH
import Derived.Test.YtcabhickgjhkhaaGreatDoorL30
import Derived.Test.YtcabhickgjhkhaaGreatDoorLD
import Derived.Test.YtcabhickgjhkhaaGreatDoorLI
import Derived.Test.YtcabhickgjhkhaaGreatDoorLE
import Derived.Test.YtcabhickgjhkhaaGreatDoorL48
import Derived.Test.YtcabhickgjhkhaaGreatDoorProg
import Derived.KernelRfl
set_option maxRecDepth 100000
set_option maxHeartbeats 4000000
set_option linter.unusedVariables false
namespace Go.Pw
open Go.Proofs
theorem okAll : okCallees Tryz.prog 175 [0, 1, 124, 144, 145, 146, 147, 148, 149, 150, 151, 152, 153, 154, 155, 156, 157, 158, 159, 160, 161, 162, 163, 164, 165, 166, 167, 168, 169, 170, 171, 172, 173] = true := by kernel_rfl
theorem Tc {ρ : Operand → Value} {o : Oper} {w : World} {K : Value → World → Prop} {Q : Value → World → Prop} {f : FuncId} {args : List Operand} {ts : Array TypeId} {vs : List Value} (ho : o.op = .call { callee := .value (.func f), args := args.toArray, argTypes := ts }) (hc : ρ (.func f) = .func (.func f) #[] #[]) (hlt : okAt 175 [0, 1, 124, 144, 145, 146, 147, 148, 149, 150, 151, 152, 153, 154, 155, 156, 157, 158, 159, 160, 161, 162, 163, 164, 165, 166, 167, 168, 169, 170, 171, 172, 173] f = true) (hargs : List.map ρ args = vs) (h : Calls Tryz.prog f vs.toArray w fun e w' => ∃ v, e = .returned v ∧ Q v w') (hk : ∀ v w', Q v w' → K v w') : Exec Tryz.prog ρ o w K := Exec.callR okAll ho hc hlt hargs h hk
theorem Z28 : tyZero Tryz.prog 28 = some (Value.agg #[Value.slice none 0 0, Value.slice none 0 0, Value.slice none 0 0, Value.slice none 0 0, Value.slice none 0 0]) := by kernel_rfl
theorem S54 : tySlice Tryz.prog 54 = some (9, 1, 16) := by kernel_rfl
theorem A9 : tyAgg Tryz.prog 9 = some (false, 1) := by kernel_rfl
theorem S22 : tySlice Tryz.prog 22 = some (56, 2, 40) := by kernel_rfl
theorem Z56 : tyZero Tryz.prog 56 = some (Value.agg #[Value.string ⟨#[]⟩, Value.slice none 0 0]) := by kernel_rfl
theorem Z63 : tyZero Tryz.prog 63 = some (Value.agg #[Value.string ⟨#[]⟩, Vi (0), Value.slice none 0 0, Value.slice none 0 0, Value.slice none 0 0, Value.slice none 0 0, Value.slice none 0 0]) := by kernel_rfl
theorem A63 : tyAgg Tryz.prog 63 = some (true, 7) := by kernel_rfl
theorem law20_move_sim {w0 w : World} {s : PHeap} {H : List Res} {a : Int} {b : Int}  {r : GOp} (hm : law20_move_p a b = some r) (hS : St w0 s (H) w)  :
  Calls Tryz.prog 44 #[Vi (a), Vi (b)] w fun e w' => ∃ v, e = .returned v ∧ ((fun (g : GOp) => ∃ (f : PHeap) (l : Value) (m : Value) (n : Value) (o : Value) (p : Value), PHeap.le s f ∧ St w0 f (H) w' ∧ v = Value.agg #[Value.string (g.Name), Vi (g.Cost), l, m, n, o, p] ∧ SliceRep (encInt .i64) f l g.Pre.Pos ∧ SliceRep (encInt .i64) f m g.Pre.Neg ∧ SliceRep encGTest f n g.Pre.Tests ∧ SliceRep encGChange f o g.Changes ∧ SliceRep encGAssign f p g.Assigns) r) := by
 unfold law20_move_p at hm
 refine calls_of_W Tryz.func44 rfl rfl (Zc (Zd (Za rfl rfl (Exec.alloc (cs := [Value.string (⟨#[]⟩), Vi (0), Value.slice none 0 0, Value.slice none 0 0, Value.slice none 0 0, Value.slice none 0 0, Value.slice none 0 0]) hS Z63 rfl rfl ?_))))
 intro ae ah q
 refine Zb (Ze (Zc (Zd (Za rfl rfl (Zm (v := Vi (a)) rfl rfl (Za rfl rfl (Exec.buildSlice (Te := 3) (cs := [Vi (a)]) q rfl (parts_cons (c := [Vi (a)]) (cells_of rfl rfl) parts_nil) (fun _ => by kernel_rfl) ?_)))))))
 intro d ai t
 refine Za rfl rfl (Exec.build rfl (parts_cons (c := [Value.slice (some ⟨d, 0, none⟩) 1 1]) (cells_of rfl rfl) parts_nil) (v := Value.agg #[Value.slice (some ⟨d, 0, none⟩) 1 1, Value.slice none 0 0, Value.slice none 0 0]) (fun _ => by kernel_rfl) (Za rfl rfl (Zm (v := Vi (a)) rfl rfl (Za rfl rfl (Exec.build rfl (parts_cons (c := [Vi (a)]) (cells_of rfl rfl) parts_nil) (v := Value.agg #[Value.slice none 0 0, Value.slice none 0 0, Value.slice none 0 0, Vi (a), Value.bool (false)]) (fun _ => by kernel_rfl) (Za rfl rfl (Zm (v := Vi (b)) rfl rfl (Za rfl rfl (Exec.build rfl (parts_cons (c := [Vi (b)]) (cells_of rfl rfl) (parts_cons (c := [Value.bool (true)]) (cells_of rfl rfl) parts_nil)) (v := Value.agg #[Value.slice none 0 0, Value.slice none 0 0, Value.slice none 0 0, Vi (b), Value.bool (true)]) (fun _ => by kernel_rfl) (Za rfl rfl (Exec.buildSlice (Te := 81) (cs := [Value.slice none 0 0, Value.slice none 0 0, Value.slice none 0 0, Vi (a), Value.bool (false), Value.slice none 0 0, Value.slice none 0 0, Value.slice none 0 0, Vi (b), Value.bool (true)]) t rfl (parts_cons (c := [Value.slice none 0 0, Value.slice none 0 0, Value.slice none 0 0, Vi (a), Value.bool (false)]) (cells_of rfl rfl) (parts_cons (c := [Value.slice none 0 0, Value.slice none 0 0, Value.slice none 0 0, Vi (b), Value.bool (true)]) (cells_of rfl rfl) parts_nil)) (fun _ => by kernel_rfl) ?_)))))))))))
 intro h aj u
 refine Za rfl rfl (Exec.build rfl (parts_cons (c := [Value.string (⟨#[40, 109, 111, 118, 101, 41]⟩)]) (cells_of rfl rfl) (parts_cons (c := [Value.slice (some ⟨d, 0, none⟩) 1 1, Value.slice none 0 0, Value.slice none 0 0]) (cells_of rfl rfl) (parts_cons (c := [Value.slice (some ⟨h, 0, none⟩) 2 2]) (cells_of rfl rfl) parts_nil))) (v := Value.agg #[Value.string (⟨#[40, 109, 111, 118, 101, 41]⟩), Vi (0), Value.slice (some ⟨d, 0, none⟩) 1 1, Value.slice none 0 0, Value.slice none 0 0, Value.slice (some ⟨h, 0, none⟩) 2 2, Value.slice none 0 0]) (fun _ => by kernel_rfl) (Za rfl rfl (Exec.store_box (ds := [Value.string (⟨#[40, 109, 111, 118, 101, 41]⟩), Vi (0), Value.slice (some ⟨d, 0, none⟩) 1 1, Value.slice none 0 0, Value.slice none 0 0, Value.slice (some ⟨h, 0, none⟩) 2 2, Value.slice none 0 0]) (es := [Value.string (⟨#[40, 109, 111, 118, 101, 41]⟩), Vi (0), Value.slice (some ⟨d, 0, none⟩) 1 1, Value.slice none 0 0, Value.slice none 0 0, Value.slice (some ⟨h, 0, none⟩) 2 2, Value.slice none 0 0]) (u).f2 A63 rfl rfl rfl rfl (Zj rfl (Zj rfl (Zj rfl (Zj rfl (Zj rfl (Zj rfl (Zj rfl one_nil))))))) (Nat.le_of_ble_eq_true rfl) rfl ?_)))
 intro ak i
 refine Zb (Ze (W_ret ?_))
 have af := Zu hm
 subst r
 refine ⟨_, retG1 rfl ⟨_, _, rfl, cellRes (i) A63⟩, ?_⟩
 have x := St.boxArr (E := (encInt .i64)) (xs := [a]) (i).f2 ⟨[Vi (a)], [], rfl, rfl, rfl⟩ (by simp [maxLen])
 obtain ⟨ag, j, y, ab⟩ := x.freezeArr
 have z := St.boxArr (E := encGChange) (xs := [(⟨(⟨[], [], []⟩ : Cond), a, false⟩ : GChange), (⟨(⟨[], [], []⟩ : Cond), b, true⟩ : GChange)]) (y).f1 (reps.mono j ⟨[Value.slice none 0 0, Value.slice none 0 0, Value.slice none 0 0, Vi (a), Value.bool (false)], [Value.slice none 0 0, Value.slice none 0 0, Value.slice none 0 0, Vi (b), Value.bool (true)], rfl, ⟨[Value.slice none 0 0, Value.slice none 0 0, Value.slice none 0 0], [Vi (a), Value.bool (false)], rfl, ⟨[Value.slice none 0 0], [Value.slice none 0 0, Value.slice none 0 0], rfl, ⟨_, rfl, (SliceRep.nil _ _)⟩, ⟨[Value.slice none 0 0], [Value.slice none 0 0], rfl, ⟨_, rfl, (SliceRep.nil _ _)⟩, ⟨_, rfl, (SliceRep.nil _ _)⟩⟩⟩, ⟨[Vi (a)], [Value.bool (false)], rfl, rfl, rfl⟩⟩, ⟨[Value.slice none 0 0, Value.slice none 0 0, Value.slice none 0 0, Vi (b), Value.bool (true)], [], rfl, ⟨[Value.slice none 0 0, Value.slice none 0 0, Value.slice none 0 0], [Vi (b), Value.bool (true)], rfl, ⟨[Value.slice none 0 0], [Value.slice none 0 0, Value.slice none 0 0], rfl, ⟨_, rfl, (SliceRep.nil _ _)⟩, ⟨[Value.slice none 0 0], [Value.slice none 0 0], rfl, ⟨_, rfl, (SliceRep.nil _ _)⟩, ⟨_, rfl, (SliceRep.nil _ _)⟩⟩⟩, ⟨[Vi (b)], [Value.bool (true)], rfl, rfl, rfl⟩⟩, rfl⟩⟩) (by simp [maxLen])
 obtain ⟨ad, k, aa, ac⟩ := z.freezeArr
 exact ⟨ad, (Value.slice (some ⟨d, 0, none⟩) 1 1), (Value.slice none 0 0), (Value.slice none 0 0), (Value.slice (some ⟨h, 0, none⟩) 2 2), (Value.slice none 0 0), (Zt j k), (aa).drop, rfl, (ab.mono k), (SliceRep.nil _ _), (SliceRep.nil _ _), ac, (SliceRep.nil _ _)⟩
theorem A28 : tyAgg Tryz.prog 28 = some (true, 5) := by kernel_rfl
theorem law20_example_sim {w0 w : World} {s : PHeap} {H : List Res}   {r : Ground} (hm : law20_example_p  = some r) (hS : St w0 s (H) w)  :
  Calls Tryz.prog 21 #[] w fun e w' => ∃ v, e = .returned v ∧ ((fun (y26 : Ground) => ∃ (af : PHeap) (aA : Value) (aB : Value) (aC : Value) (aD : Value) (aE : Value), PHeap.le s af ∧ St w0 af (H) w' ∧ v = Value.agg #[aA, aB, aC, aD, aE] ∧ SliceRep encAtom af aA y26.Atoms ∧ SliceRep encGFluent af aB y26.Fluents ∧ SliceRep (encInt .i64) af aC y26.Init ∧ SliceRep encCond af aD y26.Goal ∧ SliceRep encGOp af aE y26.Ops) r) := by
 unfold law20_example_p at hm
 refine calls_of_W Tryz.func21 rfl rfl (Zc (Zd (Za rfl rfl (Exec.alloc (cs := [Value.slice none 0 0, Value.slice none 0 0, Value.slice none 0 0, Value.slice none 0 0, Value.slice none 0 0]) hS Z28 rfl rfl ?_))))
 intro az cu aL
 refine Zb (Ze (Zc (Zd (Za rfl rfl (Zo (v := Value.slice none 0 0) rfl rfl (Zb (Ze (Zc (Zc (Zd (Za rfl rfl (Exec.buildSlice (Te := 9) (cs := [Value.string (⟨#[97]⟩), Value.string (⟨#[98]⟩)]) aL rfl (parts_cons (c := [Value.string (⟨#[97]⟩)]) (cells_of rfl rfl) (parts_cons (c := [Value.string (⟨#[98]⟩)]) (cells_of rfl rfl) parts_nil)) (fun _ => by kernel_rfl) ?_))))))))))))
 intro aH cv aM
 have aN := St.boxArr (E := encStr) (xs := ([⟨#[97]⟩, ⟨#[98]⟩] : List ByteArray)) aM ⟨[Value.string (⟨#[97]⟩)], [Value.string (⟨#[98]⟩)], rfl, rfl, ⟨[Value.string (⟨#[98]⟩)], [], rfl, rfl, rfl⟩⟩ (by simp [maxLen])
 obtain ⟨a8, br, aO, ax⟩ := aN.freezeArr
 refine Za rfl rfl (Zr S54 rfl rfl ax (Za rfl rfl (Zm (v := Vi (0)) rfl rfl (Zb (Ze ?_)))))
 obtain ⟨av, aI, hm⟩ := Zg hm
 refine W_block (W_forS (fun k' s' f' w' => (fun (av : (List Atom)) => ∃ (a9 : PHeap) (g : Value), PHeap.le a8 a9 ∧ St w0 a9 (Res.box az 28 [Value.slice none 0 0, Value.slice none 0 0, Value.slice none 0 0, Value.slice none 0 0, Value.slice none 0 0] :: Res.arr encAtom 56 g av :: H) w' ∧ f' 0 = Value.pointer (some ⟨az, 0, none⟩) ∧ f' 1 = g ∧ f' 4 = Value.slice (some ⟨aH, 0, none⟩) 2 2 ∧ f' 5 = Vi ((([⟨#[97]⟩, ⟨#[98]⟩] : List ByteArray).length : Int)) ∧ f' 6 = Vi (k' : Int)) s') aI ?_ ?_ ?_)
 ·have aP := aO.nilArr encAtom 56
  exact ⟨a8, (Value.slice none 0 0), (Zv _), (aP).f1, rfl, rfl, rfl, rfl, rfl⟩
 ·intro bq av bU cd cw bp aJ ao
  obtain ⟨ci, g, a2, a0, bv, bw, a5, a6, ay⟩ := aJ
  refine Zc (Zd (Za rfl rfl (Zq rfl ay a6 (Zb (Ze (Zc (W_true (Zx (decide_eq_true (by omega))) (W_skip (Ze (Zc (W_block (Zc (Zd ?_)))))))))))))
  obtain ⟨b, b0, ao⟩ := Zg ao
  refine Za rfl rfl (Exec.index_rep S54 rfl a5 ay (ax.mono a2) b0 ?_)
  intro bZ cg aG
  refine Za rfl rfl (Zw (E := encStr) a0 A9 rfl rfl rfl aG ?_)
  intro bX b1
  obtain rfl : bX = Value.string (b) := encStr_val.1 b1
  refine Za rfl rfl (Zo (v := Value.string (b)) rfl rfl (Zb (Ze (Zd (Za rfl rfl (Zm (v := g) rfl bw (Za rfl rfl (Zm (v := Value.string (b)) rfl rfl (Za rfl rfl (Exec.buildSlice (Te := 9) (cs := [Value.string (b), Value.string (⟨#[112]⟩)]) a0 rfl (parts_cons (c := [Value.string (b)]) (cells_of rfl rfl) (parts_cons (c := [Value.string (⟨#[112]⟩)]) (cells_of rfl rfl) parts_nil)) (fun _ => by kernel_rfl) ?_))))))))))
  intro aj cx aQ
  refine Za rfl rfl (Exec.build rfl (parts_cons (c := [Value.string (⟨#[97, 116]⟩)]) (cells_of rfl rfl) (parts_cons (c := [Value.slice (some ⟨aj, 0, none⟩) 2 2]) (cells_of rfl rfl) parts_nil)) (v := Value.agg #[Value.string (⟨#[97, 116]⟩), Value.slice (some ⟨aj, 0, none⟩) 2 2]) (fun _ => by kernel_rfl) (Za rfl rfl (Zm (v := Value.string (b)) rfl rfl (Za rfl rfl (Exec.buildSlice (Te := 9) (cs := [Value.string (b), Value.string (⟨#[113]⟩)]) aQ rfl (parts_cons (c := [Value.string (b)]) (cells_of rfl rfl) (parts_cons (c := [Value.string (⟨#[113]⟩)]) (cells_of rfl rfl) parts_nil)) (fun _ => by kernel_rfl) ?_)))))
  intro ad cy aR
  refine Za rfl rfl (Exec.build rfl (parts_cons (c := [Value.string (⟨#[97, 116]⟩)]) (cells_of rfl rfl) (parts_cons (c := [Value.slice (some ⟨ad, 0, none⟩) 2 2]) (cells_of rfl rfl) parts_nil)) (v := Value.agg #[Value.string (⟨#[97, 116]⟩), Value.slice (some ⟨ad, 0, none⟩) 2 2]) (fun _ => by kernel_rfl) ?_)
  have aS := St.boxArr (E := encStr) (xs := ([b, ⟨#[112]⟩] : List ByteArray)) (aR).f1 ⟨[Value.string (b)], [Value.string (⟨#[112]⟩)], rfl, rfl, ⟨[Value.string (⟨#[112]⟩)], [], rfl, rfl, rfl⟩⟩ (by simp [maxLen])
  obtain ⟨cj, bs, aT, b3⟩ := aS.freezeArr
  have aU := St.boxArr (E := encStr) (xs := ([b, ⟨#[113]⟩] : List ByteArray)) aT ⟨[Value.string (b)], [Value.string (⟨#[113]⟩)], rfl, rfl, ⟨[Value.string (⟨#[113]⟩)], [], rfl, rfl, rfl⟩⟩ (by simp [maxLen])
  obtain ⟨bV, a3, aV, b4⟩ := aU.freezeArr
  refine Za rfl rfl (Exec.buildSlice (Te := 56) (cs := [Value.string (⟨#[97, 116]⟩), Value.slice (some ⟨aj, 0, none⟩) 2 2, Value.string (⟨#[97, 116]⟩), Value.slice (some ⟨ad, 0, none⟩) 2 2]) aV rfl (parts_cons (c := [Value.string (⟨#[97, 116]⟩), Value.slice (some ⟨aj, 0, none⟩) 2 2]) (cells_of rfl rfl) (parts_cons (c := [Value.string (⟨#[97, 116]⟩), Value.slice (some ⟨ad, 0, none⟩) 2 2]) (cells_of rfl rfl) parts_nil)) (fun _ => by kernel_rfl) ?_)
  intro ca cz aW
  obtain ⟨cf, b2, ao⟩ := Zg ao
  refine Za rfl rfl (Exec.append_box (E := encAtom) (ys := [(⟨⟨#[97, 116]⟩, ([b, ⟨#[112]⟩] : List ByteArray)⟩ : Atom), (⟨⟨#[97, 116]⟩, ([b, ⟨#[113]⟩] : List ByteArray)⟩ : Atom)]) (aW).f2 S22 Z56 rfl (by decide) rfl rfl rfl rfl ⟨[Value.string (⟨#[97, 116]⟩), Value.slice (some ⟨aj, 0, none⟩) 2 2], [Value.string (⟨#[97, 116]⟩), Value.slice (some ⟨ad, 0, none⟩) 2 2], rfl, ⟨[Value.string (⟨#[97, 116]⟩)], [Value.slice (some ⟨aj, 0, none⟩) 2 2], rfl, rfl, ⟨_, rfl, (b3.mono a3)⟩⟩, ⟨[Value.string (⟨#[97, 116]⟩), Value.slice (some ⟨ad, 0, none⟩) 2 2], [], rfl, ⟨[Value.string (⟨#[97, 116]⟩)], [Value.slice (some ⟨ad, 0, none⟩) 2 2], rfl, rfl, ⟨_, rfl, b4⟩⟩, rfl⟩⟩ rfl b2 ?_)
  intro aF c0 aX
  refine Za rfl rfl (Zo (v := aF) rfl rfl (Zb (ib_normal (Ze (Zd (Za rfl rfl (Exec.add rfl ay rfl (Za rfl rfl (Zm (v := Vi (IntKind.i64.wrap ((bq : Int) + 1))) rfl rfl (Zb (Ze ?_)))))))))))
  have cb := Zu ao
  subst bU
  exact ⟨bV, aF, (Zt (Zt a2 bs) a3), (aX).f1, bv, rfl, a5, a6, (Eq.trans rfl (wrap_up bp (SliceRep.le ax)))⟩
 intro ce c1 aK
 obtain ⟨ck, g, bt, aY, a7, bx, ch, bz, bY⟩ := aK
 refine Zc (Zd (Za rfl rfl (Zq rfl bY bz (Zb (Ze (Zc (W_false (Zx (decide_eq_false (by omega))) (W_exit (at_exit (at_exit (ib_here (Ze (Zc (Zd (Za rfl rfl (Zm (v := g) rfl bx (Za rfl rfl (Exec.buildSlice (Te := 3) (cs := [Vi (0), Vi (2)]) aY rfl (parts_cons (c := [Vi (0)]) (cells_of rfl rfl) (parts_cons (c := [Vi (2)]) (cells_of rfl rfl) parts_nil)) (fun _ => by kernel_rfl) ?_))))))))))))))))))
 intro al c2 aZ
 refine Za rfl rfl (Exec.buildSlice (Te := 3) (cs := [Vi (1)]) aZ rfl (parts_cons (c := [Vi (1)]) (cells_of rfl rfl) parts_nil) (fun _ => by kernel_rfl) ?_)
 intro ak c3 ba
 refine Za rfl rfl (Exec.build rfl (parts_cons (c := [Value.slice (some ⟨ak, 0, none⟩) 1 1]) (cells_of rfl rfl) parts_nil) (v := Value.agg #[Value.slice (some ⟨ak, 0, none⟩) 1 1, Value.slice none 0 0, Value.slice none 0 0]) (fun _ => by kernel_rfl) ?_)
 have bb := St.boxArr (E := (encInt .i64)) (xs := [1]) ba ⟨[Vi (1)], [], rfl, rfl, rfl⟩ (by simp [maxLen])
 obtain ⟨cl, bu, bc, b5⟩ := bb.freezeArr
 refine Za rfl rfl (Exec.buildSlice (Te := 59) (cs := [Value.slice (some ⟨ak, 0, none⟩) 1 1, Value.slice none 0 0, Value.slice none 0 0]) bc rfl (parts_cons (c := [Value.slice (some ⟨ak, 0, none⟩) 1 1, Value.slice none 0 0, Value.slice none 0 0]) (cells_of rfl rfl) parts_nil) (fun _ => by kernel_rfl) ?_)
 intro am c4 bd
 refine Za rfl rfl (Tc rfl rfl rfl (Zi rfl (Zi rfl args_nil)) (law20_move_sim (law20_move_tot 0 1) bd ).r ?_)
 rintro _ c5 ⟨cm, ag, y, z, ah, ai, a4, be, rfl, b6, b7, b8, b9, bA⟩
 refine Za rfl rfl (Tc rfl rfl rfl (Zi rfl (Zi rfl args_nil)) (law20_move_sim (law20_move_tot 1 0) be ).r ?_)
 rintro _ c6 ⟨cn, aa, p, q, ab, ac, ae, bf, rfl, bB, bC, bD, bE, bF⟩
 refine Za rfl rfl (Tc rfl rfl rfl (Zi rfl (Zi rfl args_nil)) (law20_move_sim (law20_move_tot 2 3) bf ).r ?_)
 rintro _ c7 ⟨co, t, j, l, u, x, d, bg, rfl, bG, bH, bI, bJ, bK⟩
 refine Za rfl rfl (Tc rfl rfl rfl (Zi rfl (Zi rfl args_nil)) (law20_move_sim (law20_move_tot 3 2) bg ).r ?_)
 rintro _ c8 ⟨cp, m, h, i, n, o, a, bh, rfl, bL, bM, bN, bO, bP⟩
 refine Za rfl rfl (Exec.buildSlice (Te := 63) (cs := [Value.string ((law20_move_t 0 1).Name), Vi ((law20_move_t 0 1).Cost), ag, y, z, ah, ai, Value.string ((law20_move_t 1 0).Name), Vi ((law20_move_t 1 0).Cost), aa, p, q, ab, ac, Value.string ((law20_move_t 2 3).Name), Vi ((law20_move_t 2 3).Cost), t, j, l, u, x, Value.string ((law20_move_t 3 2).Name), Vi ((law20_move_t 3 2).Cost), m, h, i, n, o]) bh rfl (parts_cons (c := [Value.string ((law20_move_t 0 1).Name), Vi ((law20_move_t 0 1).Cost), ag, y, z, ah, ai]) (cells_of rfl rfl) (parts_cons (c := [Value.string ((law20_move_t 1 0).Name), Vi ((law20_move_t 1 0).Cost), aa, p, q, ab, ac]) (cells_of rfl rfl) (parts_cons (c := [Value.string ((law20_move_t 2 3).Name), Vi ((law20_move_t 2 3).Cost), t, j, l, u, x]) (cells_of rfl rfl) (parts_cons (c := [Value.string ((law20_move_t 3 2).Name), Vi ((law20_move_t 3 2).Cost), m, h, i, n, o]) (cells_of rfl rfl) parts_nil)))) (fun _ => by kernel_rfl) ?_)
 intro an c9 au
 refine Za rfl rfl (Exec.build rfl (parts_cons (c := [g]) (cells_of rfl (cells_one ((au).f4).arr_one)) (parts_cons (c := [Value.slice (some ⟨al, 0, none⟩) 2 2]) (cells_of rfl rfl) (parts_cons (c := [Value.slice (some ⟨am, 0, none⟩) 1 1]) (cells_of rfl rfl) (parts_cons (c := [Value.slice (some ⟨an, 0, none⟩) 4 4]) (cells_of rfl rfl) parts_nil)))) (v := Value.agg #[g, Value.slice none 0 0, Value.slice (some ⟨al, 0, none⟩) 2 2, Value.slice (some ⟨am, 0, none⟩) 1 1, Value.slice (some ⟨an, 0, none⟩) 4 4]) (fun _ => by kernel_rfl) (Za rfl rfl (Exec.store_box (ds := [g, Value.slice none 0 0, Value.slice (some ⟨al, 0, none⟩) 2 2, Value.slice (some ⟨am, 0, none⟩) 1 1, Value.slice (some ⟨an, 0, none⟩) 4 4]) (es := [g, Value.slice none 0 0, Value.slice (some ⟨al, 0, none⟩) 2 2, Value.slice (some ⟨am, 0, none⟩) 1 1, Value.slice (some ⟨an, 0, none⟩) 4 4]) (au).f3 A28 rfl a7 rfl rfl (Zj (((au).f3).f4).arr_one (Zj rfl (Zj rfl (Zj rfl (Zj rfl one_nil))))) (Nat.le_of_ble_eq_true rfl) rfl ?_)))
 intro cA a1
 refine Zb (Ze (W_ret ?_))
 have cc := Zu hm
 subst r
 refine ⟨_, retG1 rfl ⟨_, _, a7, cellRes (a1) A28⟩, ?_⟩
 obtain ⟨cq, aw, bi, bQ⟩ := (a1).f4.freezeArr
 have bj := St.boxArr (E := (encInt .i64)) (xs := [0, 2]) (bi).f3 ⟨[Vi (0)], [Vi (2)], rfl, rfl, ⟨[Vi (2)], [], rfl, rfl, rfl⟩⟩ (by simp [maxLen])
 obtain ⟨cr, ap, bk, bR⟩ := bj.freezeArr
 have bl := St.boxArr (E := encCond) (xs := [(⟨[1], [], []⟩ : Cond)]) (bk).f2 (reps.mono (Zt (Zt (Zt (Zt (Zt a4 ae) d) a) aw) ap) ⟨[Value.slice (some ⟨ak, 0, none⟩) 1 1, Value.slice none 0 0, Value.slice none 0 0], [], rfl, ⟨[Value.slice (some ⟨ak, 0, none⟩) 1 1], [Value.slice none 0 0, Value.slice none 0 0], rfl, ⟨_, rfl, b5⟩, ⟨[Value.slice none 0 0], [Value.slice none 0 0], rfl, ⟨_, rfl, (SliceRep.nil _ _)⟩, ⟨_, rfl, (SliceRep.nil _ _)⟩⟩⟩, rfl⟩) (by simp [maxLen])
 obtain ⟨ct, aq, bm, bS⟩ := bl.freezeArr
 have bn := St.boxArr (E := encGOp) (xs := [(law20_move_t 0 1), (law20_move_t 1 0), (law20_move_t 2 3), (law20_move_t 3 2)]) (bm).f1 (reps.mono (Zt (Zt aw ap) aq) ⟨[Value.string ((law20_move_t 0 1).Name), Vi ((law20_move_t 0 1).Cost), ag, y, z, ah, ai], [Value.string ((law20_move_t 1 0).Name), Vi ((law20_move_t 1 0).Cost), aa, p, q, ab, ac, Value.string ((law20_move_t 2 3).Name), Vi ((law20_move_t 2 3).Cost), t, j, l, u, x, Value.string ((law20_move_t 3 2).Name), Vi ((law20_move_t 3 2).Cost), m, h, i, n, o], rfl, ⟨[Value.string ((law20_move_t 0 1).Name)], [Vi ((law20_move_t 0 1).Cost), ag, y, z, ah, ai], rfl, rfl, ⟨[Vi ((law20_move_t 0 1).Cost)], [ag, y, z, ah, ai], rfl, rfl, ⟨[ag, y, z], [ah, ai], rfl, ⟨[ag], [y, z], rfl, ⟨_, rfl, (b6.mono (Zt (Zt ae d) a))⟩, ⟨[y], [z], rfl, ⟨_, rfl, (b7.mono (Zt (Zt ae d) a))⟩, ⟨_, rfl, (b8.mono (Zt (Zt ae d) a))⟩⟩⟩, ⟨[ah], [ai], rfl, ⟨_, rfl, (b9.mono (Zt (Zt ae d) a))⟩, ⟨_, rfl, (bA.mono (Zt (Zt ae d) a))⟩⟩⟩⟩⟩, ⟨[Value.string ((law20_move_t 1 0).Name), Vi ((law20_move_t 1 0).Cost), aa, p, q, ab, ac], [Value.string ((law20_move_t 2 3).Name), Vi ((law20_move_t 2 3).Cost), t, j, l, u, x, Value.string ((law20_move_t 3 2).Name), Vi ((law20_move_t 3 2).Cost), m, h, i, n, o], rfl, ⟨[Value.string ((law20_move_t 1 0).Name)], [Vi ((law20_move_t 1 0).Cost), aa, p, q, ab, ac], rfl, rfl, ⟨[Vi ((law20_move_t 1 0).Cost)], [aa, p, q, ab, ac], rfl, rfl, ⟨[aa, p, q], [ab, ac], rfl, ⟨[aa], [p, q], rfl, ⟨_, rfl, (bB.mono (Zt d a))⟩, ⟨[p], [q], rfl, ⟨_, rfl, (bC.mono (Zt d a))⟩, ⟨_, rfl, (bD.mono (Zt d a))⟩⟩⟩, ⟨[ab], [ac], rfl, ⟨_, rfl, (bE.mono (Zt d a))⟩, ⟨_, rfl, (bF.mono (Zt d a))⟩⟩⟩⟩⟩, ⟨[Value.string ((law20_move_t 2 3).Name), Vi ((law20_move_t 2 3).Cost), t, j, l, u, x], [Value.string ((law20_move_t 3 2).Name), Vi ((law20_move_t 3 2).Cost), m, h, i, n, o], rfl, ⟨[Value.string ((law20_move_t 2 3).Name)], [Vi ((law20_move_t 2 3).Cost), t, j, l, u, x], rfl, rfl, ⟨[Vi ((law20_move_t 2 3).Cost)], [t, j, l, u, x], rfl, rfl, ⟨[t, j, l], [u, x], rfl, ⟨[t], [j, l], rfl, ⟨_, rfl, (bG.mono a)⟩, ⟨[j], [l], rfl, ⟨_, rfl, (bH.mono a)⟩, ⟨_, rfl, (bI.mono a)⟩⟩⟩, ⟨[u], [x], rfl, ⟨_, rfl, (bJ.mono a)⟩, ⟨_, rfl, (bK.mono a)⟩⟩⟩⟩⟩, ⟨[Value.string ((law20_move_t 3 2).Name), Vi ((law20_move_t 3 2).Cost), m, h, i, n, o], [], rfl, ⟨[Value.string ((law20_move_t 3 2).Name)], [Vi ((law20_move_t 3 2).Cost), m, h, i, n, o], rfl, rfl, ⟨[Vi ((law20_move_t 3 2).Cost)], [m, h, i, n, o], rfl, rfl, ⟨[m, h, i], [n, o], rfl, ⟨[m], [h, i], rfl, ⟨_, rfl, bL⟩, ⟨[h], [i], rfl, ⟨_, rfl, bM⟩, ⟨_, rfl, bN⟩⟩⟩, ⟨[n], [o], rfl, ⟨_, rfl, bO⟩, ⟨_, rfl, bP⟩⟩⟩⟩⟩, rfl⟩⟩⟩⟩) (by simp [maxLen])
 obtain ⟨bW, ar, bo, bT⟩ := bn.freezeArr
 exact ⟨bW, g, (Value.slice none 0 0), (Value.slice (some ⟨al, 0, none⟩) 2 2), (Value.slice (some ⟨am, 0, none⟩) 1 1), (Value.slice (some ⟨an, 0, none⟩) 4 4), (Zt (Zt (Zt (Zt (Zt (Zt (Zt (Zt (Zt (Zt br bt) bu) a4) ae) d) a) aw) ap) aq) ar), (bo).drop, rfl, (bQ.mono (Zt (Zt ap aq) ar)), (SliceRep.nil _ _), (bR.mono (Zt aq ar)), (bS.mono ar), bT⟩
theorem F28_0 : tyField Tryz.prog 28 0 = some 0 := by kernel_rfl
theorem A22 : tyAgg Tryz.prog 22 = some (false, 1) := by kernel_rfl
theorem F28_1 : tyField Tryz.prog 28 1 = some 1 := by kernel_rfl
theorem A23 : tyAgg Tryz.prog 23 = some (false, 1) := by kernel_rfl
theorem S23 : tySlice Tryz.prog 23 = some (69, 5, 64) := by kernel_rfl
theorem F28_4 : tyField Tryz.prog 28 4 = some 4 := by kernel_rfl
theorem A26 : tyAgg Tryz.prog 26 = some (false, 1) := by kernel_rfl
theorem S26 : tySlice Tryz.prog 26 = some (63, 7, 144) := by kernel_rfl
theorem F28_3 : tyField Tryz.prog 28 3 = some 3 := by kernel_rfl
theorem A25 : tyAgg Tryz.prog 25 = some (false, 1) := by kernel_rfl
theorem S25 : tySlice Tryz.prog 25 = some (59, 3, 72) := by kernel_rfl
theorem A69 : tyAgg Tryz.prog 69 = some (true, 5) := by kernel_rfl
theorem F69_1 : tyField Tryz.prog 69 1 = some 2 := by kernel_rfl
theorem A3 : tyAgg Tryz.prog 3 = some (false, 1) := by kernel_rfl
theorem F69_3 : tyField Tryz.prog 69 3 = some 4 := by kernel_rfl
theorem F69_2 : tyField Tryz.prog 69 2 = some 3 := by kernel_rfl
theorem ground_fluent_sim {w0 w : World} {s : PHeap} {H : List Res} {a : GFluent} {i : Value} {r : Bool} (hm : ground_fluent_p a = some r) (hS : St w0 s (H) w) (t : SliceRep encStr s i a.Fluent.Args) :
  Calls Tryz.prog 32 #[Value.agg #[Value.string (a.Fluent.Name), i, Vi (a.Lo), Vi (a.Hi), Vi (a.Init)]] w fun e w' => ∃ v, e = .returned v ∧ ((fun (q : Bool) => ∃ (j : PHeap) , PHeap.le s j ∧ St w0 j (H) w' ∧ v = Value.bool (q)) r) := by
 unfold ground_fluent_p at hm
 refine calls_of_W Tryz.func32 rfl rfl (Zc (Zd (Za rfl rfl (Exec.box (cs := [Value.string (a.Fluent.Name), i, Vi (a.Lo), Vi (a.Hi), Vi (a.Init)]) hS rfl rfl rfl ?_))))
 intro u z c
 refine Za rfl rfl (Zo (v := Value.bool (false)) rfl rfl (Zb (Ze (Zc (W_mid (M := fun f' w' => ∃ (k : PHeap) , PHeap.le s k ∧ St w0 k (H) w' ∧ f' 2 = Value.bool (((decide ((-1099511627776) ≤ a.Lo)) && ((decide (a.Lo ≤ a.Init)) && ((decide (a.Init ≤ a.Hi)) && ((decide (a.Hi ≤ 1099511627776)) && decide ((IntKind.i64.wrap (a.Hi - a.Lo)) < 64))))))) ?_ ?_)))))
 ·refine Zd (Za rfl rfl (Zp F69_1 rfl rfl rfl (Za rfl rfl (Zn (c) A3 rfl rfl rfl (Za rfl rfl (Exec.leq rfl rfl rfl (Za rfl rfl (Zm (v := Value.bool (decide ((-1099511627776) ≤ a.Lo))) rfl rfl ?_))))))))
  by_cases b : (decide ((-1099511627776) ≤ a.Lo)) = true
  ·refine WL_run rfl (Zf rfl (Zx b)) rfl (Zp F69_1 rfl rfl rfl (WL_run rfl (Zf rfl (Zx b)) rfl (Zn (c) A3 rfl rfl rfl (WL_run rfl (Zf rfl (Zx b)) rfl (Zp F69_3 rfl rfl rfl (WL_run rfl (Zf rfl (Zx b)) rfl (Zn (c) A3 rfl rfl rfl (WL_run rfl (Zf rfl (Zx b)) rfl (Exec.leq rfl rfl rfl ?_)))))))))
   refine WL_passes 2 (by rw [b]; rfl) ?_
   by_cases d : (decide (a.Lo ≤ a.Init)) = true
   ·refine WL_run rfl (Zf rfl (Zx d)) rfl (Zp F69_3 rfl rfl rfl (WL_run rfl (Zf rfl (Zx d)) rfl (Zn (c) A3 rfl rfl rfl (WL_run rfl (Zf rfl (Zx d)) rfl (Zp F69_2 rfl rfl rfl (WL_run rfl (Zf rfl (Zx d)) rfl (Zn (c) A3 rfl rfl rfl (WL_run rfl (Zf rfl (Zx d)) rfl (Exec.leq rfl rfl rfl ?_)))))))))
    refine WL_passes 2 (by rw [d]; rfl) ?_
    by_cases h : (decide (a.Init ≤ a.Hi)) = true
    ·refine WL_run rfl (Zf rfl (Zx h)) rfl (Zp F69_2 rfl rfl rfl (WL_run rfl (Zf rfl (Zx h)) rfl (Zn (c) A3 rfl rfl rfl (WL_run rfl (Zf rfl (Zx h)) rfl (Exec.leq rfl rfl rfl ?_)))))
     refine WL_passes 2 (by rw [h]; rfl) ?_
     by_cases g : (decide (a.Hi ≤ 1099511627776)) = true
     ·refine WL_run rfl (Zf rfl (Zx g)) rfl (Zp F69_2 rfl rfl rfl (WL_run rfl (Zf rfl (Zx g)) rfl (Zn (c) A3 rfl rfl rfl (WL_run rfl (Zf rfl (Zx g)) rfl (Zp F69_1 rfl rfl rfl (WL_run rfl (Zf rfl (Zx g)) rfl (Zn (c) A3 rfl rfl rfl (WL_run rfl (Zf rfl (Zx g)) rfl (Exec.sub rfl rfl rfl (WL_run rfl (Zf rfl (Zx g)) rfl (Zq rfl rfl rfl ?_)))))))))))
      refine WL_passes 2 (by rw [g]; rfl) ?_
      refine Zb (Ze ?_)
      exact ⟨s, (Zv _), (c).drop, (Zx (Eq.trans (and_t b) (Eq.trans (and_t d) (Eq.trans (and_t h) (and_t g))))).symm⟩
     replace g := Zk g
     refine WL_passes 8 (by rw [g]; rfl) ?_
     refine Zb (Ze ?_)
     exact ⟨s, (Zv _), (c).drop, (Zx (Eq.trans (and_t b) (Eq.trans (and_t d) (Eq.trans (and_t h) (and_f g))))).symm⟩
    replace h := Zk h
    refine WL_passes 13 (by rw [h]; rfl) ?_
    refine Zb (Ze ?_)
    exact ⟨s, (Zv _), (c).drop, (Zx (Eq.trans (and_t b) (Eq.trans (and_t d) (and_f h)))).symm⟩
   replace d := Zk d
   refine WL_passes 20 (by rw [d]; rfl) ?_
   refine Zb (Ze ?_)
   exact ⟨s, (Zv _), (c).drop, (Zx (Eq.trans (and_t b) (and_f d))).symm⟩
  replace b := Zk b
  refine WL_passes 27 (by rw [b]; rfl) ?_
  refine Zb (Ze ?_)
  exact ⟨s, (Zv _), (c).drop, (Zx (and_f b)).symm⟩
 intro y aa l
 obtain ⟨p, n, m, o⟩ := l
 refine (Ze (W_ret ?_))
 have x := Zu hm
 subst r
 refine ⟨_, ret1 rfl, ?_⟩
 exact ⟨p, n, m, o⟩
theorem N31 : (Tryz.f31.name == "runtime.NumGoroutine") = false := by kernel_rfl
theorem ground_Valid_c1_sim {w0 w : World} {s : PHeap} {H : List Res} {a : GFluent} {b : Value} {r : Bool} (hm : ground_Valid_c1_p a = some r) (hS : St w0 s (H) w) (f : SliceRep encStr s b a.Fluent.Args) :
  Calls Tryz.prog 31 #[Value.agg #[Value.string (a.Fluent.Name), b, Vi (a.Lo), Vi (a.Hi), Vi (a.Init)]] w fun e w' => ∃ v, e = .returned v ∧ ((fun (j : Bool) => ∃ (d : PHeap) , PHeap.le s d ∧ St w0 d (H) w' ∧ v = Value.bool (j)) r) := by
 unfold ground_Valid_c1_p at hm
 refine calls_of_W Tryz.func31 rfl rfl (Zc (Zd (Za rfl rfl (Exec.box (cs := [Value.string (a.Fluent.Name), b, Vi (a.Lo), Vi (a.Hi), Vi (a.Init)]) hS rfl rfl rfl ?_))))
 intro k m c
 refine Za rfl rfl (Zo (v := Value.bool (false)) rfl rfl (Zb (Ze (Zc (Zd (Za rfl rfl (Exec.load_box_agg (ds := [Value.string (a.Fluent.Name), b, Vi (a.Lo), Vi (a.Hi), Vi (a.Init)]) (c) A69 rfl rfl rfl (Za rfl rfl (Tc rfl rfl rfl (Zi rfl args_nil) (ground_fluent_sim (ground_fluent_tot a) c f).r ?_)))))))))
 rintro _ n ⟨i, h, g, rfl⟩
 refine Za rfl rfl (Exec.not rfl rfl (Za rfl rfl (Zo (v := Value.bool (!(ground_fluent_t a))) rfl rfl (Zb (Ze (W_ret ?_))))))
 have l := Zu hm
 subst r
 refine ⟨_, ret1 rfl, ?_⟩
 exact ⟨i, h, (g).drop, rfl⟩
theorem slices_IndexFunc_apiGFluent_Valid_c1_sim {w0 w : World} {s : PHeap} {H : List Res} {g : (List GFluent)} {c : Value} {r : Int} (hm : slices_IndexFunc_apiGFluent_Valid_c1_p g = some r) (hS : St w0 s (H) w) (i : SliceRep encGFluent s c g) :
  Calls Tryz.prog 56 #[c, Value.func (.func 31) #[] #[]] w fun e w' => ∃ v, e = .returned v ∧ ((fun (a5 : Int) => ∃ (aa : PHeap) , PHeap.le s aa ∧ St w0 aa (H) w' ∧ v = Vi (a5)) r) := by
 unfold slices_IndexFunc_apiGFluent_Valid_c1_p at hm
 refine calls_of_W Tryz.func56 rfl rfl (Zc (Zd (Za rfl rfl (Zo (v := Vi (0)) rfl rfl (Zb (Ze (Zc (Zc (Zd (Za rfl rfl (Zm (v := c) rfl rfl (Za rfl rfl (Zr S23 rfl rfl i (Za rfl rfl (Zm (v := Vi (0)) rfl rfl (Zb (Ze ?_)))))))))))))))))
 obtain ⟨m, af, ap, an, al⟩ := ctl_some hm
 refine W_mid (M := fun f' w' => ∃ s', (m = .next s' ∨ m = .brk s') ∧ (fun (_ : Unit) => ∃ (ab : PHeap) , PHeap.le s ab ∧ St w0 ab (H) w' ∧ f' 0 = c ∧ f' 1 = Value.func (.func 31) #[] #[] ∧ f' 7 = Vi ((g.length : Int))) s') ?_ ?_
 ·refine W_block (W_forC (fun k' s' f' w' => (fun (_ : Unit) => ∃ (ac : PHeap) , PHeap.le s ac ∧ St w0 ac (H) w' ∧ f' 0 = c ∧ f' 1 = Value.func (.func 31) #[] #[] ∧ f' 7 = Vi ((g.length : Int)) ∧ f' 8 = Vi (k' : Int)) s') af ?_ ?_ ?_)
  ·exact ⟨s, (Zv _), hS, rfl, rfl, rfl, rfl⟩
  ·intro b aJ n aB aO am ag a aq
   obtain ⟨aI, j, o, u, x, y, l⟩ := ag
   refine Zc (Zd (Za rfl rfl (Zq rfl l y (Zb (Ze (Zc (W_true (Zx (decide_eq_true (by omega))) (W_skip (Ze (Zc (W_block (Zc (Zd (Za rfl rfl (Zm (v := Vi ((b : Int))) rfl l (Za rfl rfl (Zo (v := Vi ((b : Int))) rfl rfl (Zb (Ze (Zc (Zd (Za rfl rfl (Zm (v := Value.func (.func 31) #[] #[]) rfl x (Za rfl rfl (Zm (v := c) rfl u (Za rfl rfl (Zm (v := Vi ((b : Int))) rfl rfl ?_)))))))))))))))))))))))))))
   obtain ⟨a3, ay, a⟩ := Zg a
   refine Za rfl rfl (Exec.index_rep S23 rfl rfl rfl (i.mono j) ay ?_)
   intro a6 aE ae
   refine Za rfl rfl (Zw (E := encGFluent) o A69 rfl rfl rfl ae ?_)
   intro aN az
   obtain ⟨aM, rfl, a0⟩ := encGFluent_val.1 az
   refine Za rfl rfl (Exec.callf rfl rfl Tryz.func31 rfl N31 (Zi rfl args_nil) ((ground_Valid_c1_sim (ground_Valid_c1_tot a3) o a0).mono ?_))
   rintro _ aP ⟨_, rfl, ⟨ad, t, p, rfl⟩⟩
   refine ⟨_, rfl, ?_⟩
   refine Zb (Ze ?_)
   rcases ite_some a with ⟨d, a⟩ | ⟨d, a⟩
   ·refine W_cond_t rfl d (Zc (Zd (Za rfl rfl (Zm (v := Vi ((b : Int))) rfl rfl (Za rfl rfl (Zo (v := Vi ((b : Int))) rfl rfl (Zb (Ze (W_ret (ib_ret (at_ret (at_ret (ib_ret (at_ret (at_ret ?_)))))))))))))))
    have a7 := Zu a
    subst n
    have ao := ap _ (aq (by intro _ h; cases h))
    have a8 := Zu ao
    subst r
    refine ⟨_, ret1 rfl, ?_⟩
    exact ⟨ad, (Zt j t), p, rfl⟩
   refine W_cond_f rfl d ?_
   replace d := Zk d
   refine W_skip (ib_normal (Ze (Zd (Za rfl rfl (Exec.add rfl l rfl (Za rfl rfl (Zm (v := Vi (IntKind.i64.wrap ((b : Int) + 1))) rfl rfl (Zb (Ze ?_)))))))))
   have a9 := Zu a
   subst n
   refine ⟨_, rfl, ?_⟩; exact ⟨ad, (Zt j t), p, u, x, y, (Eq.trans rfl (wrap_up am (SliceRep.le i)))⟩
  intro aK aC aQ ah ar
  obtain ⟨a1, au, aj, aw, ax, z, a4⟩ := ah
  refine Zc (Zd (Za rfl rfl (Zq rfl a4 z (Zb (Ze (Zc (W_false (Zx (decide_eq_false (by omega))) (W_exit (at_exit (at_exit (ib_here (Ze ?_))))))))))))
  refine ⟨_, .inl ar, ?_⟩; exact ⟨a1, au, aj, aw, ax, z⟩
 rintro aD aR ⟨aL, q, ai⟩
 have hm := q.elim (an _) (al _)
 clear q
 obtain ⟨a2, av, ak, aF, aG, aH⟩ := ai
 refine (Ze (Zc (Zd (Za rfl rfl (Zo (v := Vi ((-1))) rfl rfl (Zb (Ze (W_ret ?_))))))))
 have aA := Zu hm
 subst r
 refine ⟨_, ret1 rfl, ?_⟩
 exact ⟨a2, av, ak, rfl⟩
theorem slices_ContainsFunc_apiGFluent_Valid_c1_sim {w0 w : World} {s : PHeap} {H : List Res} {c : (List GFluent)} {a : Value} {r : Bool} (hm : slices_ContainsFunc_apiGFluent_Valid_c1_p c = some r) (hS : St w0 s (H) w) (d : SliceRep encGFluent s a c) :
  Calls Tryz.prog 30 #[a, Value.func (.func 31) #[] #[]] w fun e w' => ∃ v, e = .returned v ∧ ((fun (j : Bool) => ∃ (b : PHeap) , PHeap.le s b ∧ St w0 b (H) w' ∧ v = Value.bool (j)) r) := by
 unfold slices_ContainsFunc_apiGFluent_Valid_c1_p at hm
 refine calls_of_W Tryz.func30 rfl rfl (Zc (Zd (Za rfl rfl (Zo (v := Value.bool (false)) rfl rfl (Zb (Ze (Zc (Zd (Za rfl rfl (Zm (v := a) rfl rfl (Za rfl rfl (Zm (v := Value.func (.func 31) #[] #[]) rfl rfl ?_))))))))))))
 obtain ⟨k, h, hm⟩ := Zg hm
 refine Za rfl rfl (Tc rfl rfl rfl (Zi rfl (Zi rfl args_nil)) (slices_IndexFunc_apiGFluent_Valid_c1_sim h hS d).r ?_)
 rintro _ m ⟨i, g, f, rfl⟩
 refine Za rfl rfl (Exec.geq rfl rfl rfl (Za rfl rfl (Zo (v := Value.bool (decide (0 ≤ k))) rfl rfl (Zb (Ze (W_ret ?_))))))
 have l := Zu hm
 subst r
 refine ⟨_, ret1 rfl, ?_⟩
 exact ⟨i, g, f, rfl⟩
theorem F28_2 : tyField Tryz.prog 28 2 = some 2 := by kernel_rfl
theorem A24 : tyAgg Tryz.prog 24 = some (false, 1) := by kernel_rfl
theorem S24 : tySlice Tryz.prog 24 = some (3, 1, 8) := by kernel_rfl
theorem ground_indices_sim {w0 w : World} {s : PHeap} {H : List Res} {t : (List Int)} {p : Int} {d : Value} {r : Bool} (hm : ground_indices_p t p = some r) (hS : St w0 s (H) w) (ab : SliceRep (encInt .i64) s d t) :
  Calls Tryz.prog 33 #[d, Vi (p)] w fun e w' => ∃ v, e = .returned v ∧ ((fun (aP : Bool) => ∃ (ak : PHeap) , PHeap.le s ak ∧ St w0 ak (H) w' ∧ v = Value.bool (aP)) r) := by
 unfold ground_indices_p at hm
 refine calls_of_W Tryz.func33 rfl rfl (Zc (Zd (Za rfl rfl (Zo (v := Value.bool (false)) rfl rfl (Zb (Ze (Zc (Zc (Zd (Za rfl rfl (Zm (v := d) rfl rfl (Za rfl rfl (Zr S24 rfl rfl ab (Za rfl rfl (Zm (v := Vi (0)) rfl rfl (Zb (Ze ?_)))))))))))))))))
 obtain ⟨ad, au, a5, a3, a1⟩ := ctl_some hm
 refine W_mid (M := fun f' w' => ∃ s', (ad = .next s' ∨ ad = .brk s') ∧ (fun (_ : Unit) => ∃ (al : PHeap) , PHeap.le s al ∧ St w0 al (H) w' ∧ f' 0 = d ∧ f' 1 = Vi (p) ∧ f' 7 = d ∧ f' 8 = Vi ((t.length : Int))) s') ?_ ?_
 ·refine W_block (W_forC (fun k' s' f' w' => (fun (_ : Unit) => ∃ (am : PHeap) , PHeap.le s am ∧ St w0 am (H) w' ∧ f' 0 = d ∧ f' 1 = Vi (p) ∧ f' 7 = d ∧ f' 8 = Vi ((t.length : Int)) ∧ f' 9 = Vi (k' : Int)) s') au ?_ ?_ ?_)
  ·exact ⟨s, (Zv _), hS, rfl, rfl, rfl, rfl, rfl⟩
  ·intro j bk ae ba bp a2 av g a6
   obtain ⟨aa, ac, o, u, x, y, z, l⟩ := av
   refine Zc (Zd (Za rfl rfl (Zq rfl l z (Zb (Ze (Zc (W_true (Zx (decide_eq_true (by omega))) (W_skip (Ze (Zc (W_block (Zc (Zd (Za rfl rfl (Zm (v := Vi ((j : Int))) rfl l ?_)))))))))))))))
   obtain ⟨m, aI, g⟩ := Zg g
   refine Za rfl rfl (Exec.index_rep S24 rfl y l (ab.mono ac) aI ?_)
   intro aQ be aq
   refine Za rfl rfl (Zw (E := (encInt .i64)) o A3 rfl rfl rfl aq ?_)
   intro bn aJ
   obtain rfl := encInt_val.1 aJ
   refine Za rfl rfl (Zo (v := Vi ((j : Int))) rfl rfl (Za rfl rfl (Zo (v := Vi (m)) rfl rfl (Zb (Ze (Zc ?_))))))
   obtain ⟨n, a, g⟩ := Zg g
   refine W_mid (M := fun f' w' => (fun (n : Bool) => ∃ (an : PHeap) , PHeap.le aa an ∧ St w0 an (H) w' ∧ f' 0 = d ∧ f' 1 = Vi (p) ∧ f' 7 = d ∧ f' 8 = Vi ((t.length : Int)) ∧ f' 9 = Vi ((j : Int)) ∧ f' 33 = Value.bool (n)) n) ?_ ?_
   ·refine Zd (Za rfl rfl (Zm (v := Vi (m)) rfl rfl (Za rfl rfl (Zq rfl rfl rfl (Za rfl rfl (Zm (v := Value.bool (decide (m < 0))) rfl rfl ?_))))))
    rcases ite_some a with ⟨i, a⟩ | ⟨i, a⟩
    ·refine WL_passes 17 (by rw [i]; rfl) ?_
     refine Zb (Ze ?_)
     have aS := Zu a
     subst n
     exact ⟨aa, (Zv _), o, u, x, y, z, l, rfl⟩
    replace i := Zk i
    refine WL_run rfl (Zf rfl (Zx i)) rfl (Zm (v := Vi (m)) rfl rfl (WL_run rfl (Zf rfl (Zx i)) rfl (Zm (v := Vi (p)) rfl x (WL_run rfl (Zf rfl (Zx i)) rfl (Exec.geq rfl rfl rfl ?_)))))
    refine WL_passes 2 (by rw [i]; rfl) ?_
    rcases ite_some a with ⟨c, a⟩ | ⟨c, a⟩
    ·refine WL_passes 12 (by rw [c]; rfl) ?_
     refine Zb (Ze ?_)
     have aT := Zu a
     subst n
     exact ⟨aa, (Zv _), o, u, x, y, z, l, rfl⟩
    replace c := Zk c
    refine WL_run rfl (Zf rfl (Zx c)) rfl (Zm (v := Vi ((j : Int))) rfl rfl (WL_run rfl (Zf rfl (Zx c)) rfl (Exec.gtr rfl rfl rfl (WL_run rfl (Zf rfl (Zx c)) rfl (Zm (v := Value.bool (decide (0 < (j : Int)))) rfl rfl ?_)))))
    rcases ite_some a with ⟨b, a⟩ | ⟨b, a⟩
    ·refine WL_run rfl (Zf rfl (Zx b)) rfl (Zm (v := d) rfl u (WL_run rfl (Zf rfl (Zx b)) rfl (Zm (v := Vi ((j : Int))) rfl rfl (WL_run rfl (Zf rfl (Zx b)) rfl (Exec.sub rfl rfl rfl ?_)))))
     obtain ⟨ap, aK, a⟩ := Zg a
     refine WL_run rfl (Zf rfl (Zx b)) rfl (Exec.index_rep S24 rfl rfl rfl (ab.mono ac) aK ?_)
     intro aR bf ar
     refine WL_run rfl (Zf rfl (Zx b)) rfl (Zw (E := (encInt .i64)) o A3 rfl rfl rfl ar ?_)
     intro bo aL
     obtain rfl := encInt_val.1 aL
     refine WL_run rfl (Zf rfl (Zx b)) rfl (Zm (v := Vi (m)) rfl rfl (WL_run rfl (Zf rfl (Zx b)) rfl (Exec.geq rfl rfl rfl (WL_run rfl (Zf rfl (Zx c)) rfl (Zs (v := Value.bool (decide (m ≤ ap))) rfl (Zx b) rfl (Za rfl rfl (Exec.pick_f (v := Value.bool (decide (m ≤ ap))) rfl (Zx c) rfl (Zb (Ze ?_)))))))))
     have aU := Zu a
     subst n
     exact ⟨aa, (Zv _), o, u, x, y, z, l, rfl⟩
    replace b := Zk b
    refine WL_passes 7 (by rw [b]; rfl) ?_
    refine WL_run rfl (Zf rfl (Zx c)) rfl (Exec.pick_f (v := Value.bool (false)) rfl rfl rfl (Za rfl rfl (Exec.pick_f (v := Value.bool (false)) rfl (Zx c) rfl (Zb (Ze ?_)))))
    have aV := Zu a
    subst n
    exact ⟨aa, (Zv _), o, u, x, y, z, l, rfl⟩
   intro bb bq ax
   obtain ⟨ao, ah, af, aA, aB, aC, aD, aE, ai⟩ := ax
   refine (Ze ?_)
   rcases ite_some g with ⟨q, g⟩ | ⟨q, g⟩
   ·refine W_cond_t ai q (Zc (Zd (Za rfl rfl (Zo (v := Value.bool (false)) rfl rfl (Zb (Ze (W_ret (ib_ret (at_ret (at_ret (ib_ret (at_ret (at_ret ?_)))))))))))))
    have aW := Zu g
    subst ae
    have a4 := a5 _ (a6 (by intro _ h; cases h))
    have aX := Zu a4
    subst r
    refine ⟨_, ret1 rfl, ?_⟩
    exact ⟨ao, (Zt ac ah), af, rfl⟩
   refine W_cond_f ai q ?_
   replace q := Zk q
   refine W_skip (ib_normal (Ze (Zd (Za rfl rfl (Exec.add rfl aE rfl (Za rfl rfl (Zm (v := Vi (IntKind.i64.wrap ((j : Int) + 1))) rfl rfl (Zb (Ze ?_)))))))))
   have aY := Zu g
   subst ae
   refine ⟨_, rfl, ?_⟩; exact ⟨ao, (Zt ac ah), af, aA, aB, aC, aD, (Eq.trans rfl (wrap_up a2 (SliceRep.le ab)))⟩
  intro bl bc br aw a7
  obtain ⟨aM, a8, az, aF, aG, aH, aj, aO⟩ := aw
  refine Zc (Zd (Za rfl rfl (Zq rfl aO aj (Zb (Ze (Zc (W_false (Zx (decide_eq_false (by omega))) (W_exit (at_exit (at_exit (ib_here (Ze ?_))))))))))))
  refine ⟨_, .inl a7, ?_⟩; exact ⟨aM, a8, az, aF, aG, aH, aj⟩
 rintro bd bs ⟨bm, ag, ay⟩
 have hm := ag.elim (a3 _) (a1 _)
 clear ag
 obtain ⟨aN, a9, a0, bg, bh, bi, bj⟩ := ay
 refine (Ze (Zc (Zd (Za rfl rfl (Zo (v := Value.bool (true)) rfl rfl (Zb (Ze (W_ret ?_))))))))
 have aZ := Zu hm
 subst r
 refine ⟨_, ret1 rfl, ?_⟩
 exact ⟨aN, a9, a0, rfl⟩
theorem A59 : tyAgg Tryz.prog 59 = some (true, 3) := by kernel_rfl
theorem F59_2 : tyField Tryz.prog 59 2 = some 2 := by kernel_rfl
theorem A57 : tyAgg Tryz.prog 57 = some (false, 1) := by kernel_rfl
theorem S57 : tySlice Tryz.prog 57 = some (104, 7, 112) := by kernel_rfl
theorem A104 : tyAgg Tryz.prog 104 = some (true, 7) := by kernel_rfl
theorem Z104 : tyZero Tryz.prog 104 = some (Value.agg #[Value.string ⟨#[]⟩, Value.string ⟨#[]⟩, Vi (0), Value.slice none 0 0, Value.string ⟨#[]⟩, Vi (0), Value.slice none 0 0]) := by kernel_rfl
theorem F104_0 : tyField Tryz.prog 104 0 = some 0 := by kernel_rfl
theorem F104_1 : tyField Tryz.prog 104 1 = some 1 := by kernel_rfl
theorem A102 : tyAgg Tryz.prog 102 = some (true, 3) := by kernel_rfl
theorem F102_0 : tyField Tryz.prog 102 0 = some 0 := by kernel_rfl
theorem F102_2 : tyField Tryz.prog 102 2 = some 2 := by kernel_rfl
theorem A100 : tyAgg Tryz.prog 100 = some (false, 1) := by kernel_rfl
theorem S100 : tySlice Tryz.prog 100 = some (102, 3, 48) := by kernel_rfl
theorem F102_1 : tyField Tryz.prog 102 1 = some 1 := by kernel_rfl
theorem ground_right_step {fu : Nat} (ih : ∀ {w0 w : World} {s : PHeap} {H : List Res} {a : GExpr} {d : Int} {o : Value} {r : Bool} (hm : ground_right_p fu a d = some r) (hS : St w0 s (H) w) (t : SliceRep encGExpr s o a.Kids), Calls Tryz.prog 58 #[Value.agg #[Value.string (a.Op), Vi (a.N), o], Vi (d)] w fun e w' => ∃ v, e = .returned v ∧ ((fun (al : Bool) => ∃ (ad : PHeap) , PHeap.le s ad ∧ St w0 ad (H) w' ∧ v = Value.bool (al)) r)) {w0 w : World} {s : PHeap} {H : List Res} {a : GExpr} {d : Int} {o : Value} {r : Bool} (hm : ground_right_p (fu + 1) a d = some r) (hS : St w0 s (H) w) (t : SliceRep encGExpr s o a.Kids) :
  Calls Tryz.prog 58 #[Value.agg #[Value.string (a.Op), Vi (a.N), o], Vi (d)] w fun e w' => ∃ v, e = .returned v ∧ ((fun (al : Bool) => ∃ (ad : PHeap) , PHeap.le s ad ∧ St w0 ad (H) w' ∧ v = Value.bool (al)) r) := by
 rw [ground_right_p] at hm
 refine calls_of_W Tryz.func58 rfl rfl (Zc (Zd (Za rfl rfl (Exec.box (cs := [Value.string (a.Op), Vi (a.N), o]) hS rfl rfl rfl ?_))))
 intro ag bv c
 refine Za rfl rfl (Zo (v := Value.bool (false)) rfl rfl (Zb (Ze (Zc (Zc (Zd (Za rfl rfl (Zp F102_0 rfl rfl rfl (Za rfl rfl (Zn (c) A9 rfl rfl rfl (Zb (Ze (W_block (Zc (Zd (Za rfl rfl (Exec.str_eql rfl rfl rfl (Za rfl rfl (Zo (v := Value.bool (decide (a.Op = (⟨#[110, 117, 109, 98, 101, 114]⟩)))) rfl rfl (Zb (Ze ?_)))))))))))))))))))))
 rcases ite_some hm with ⟨u, hm⟩ | ⟨u, hm⟩
 ·refine W_cond_t rfl u (Zc (W_mid (M := fun f' w' => ∃ (ao : PHeap) , PHeap.le s ao ∧ St w0 ao (H) w' ∧ f' 4 = Value.bool (((decide ((a.Kids.length : Int) = 0)) && ((decide ((-1099511627776) ≤ a.N)) && decide (a.N ≤ 1099511627776))))) ?_ ?_))
  ·refine Zd (Za rfl rfl (Zp F102_2 rfl rfl rfl (Za rfl rfl (Zn (c) A100 rfl rfl rfl (Za rfl rfl (Zr S100 rfl rfl t (Za rfl rfl (Exec.eql rfl rfl rfl (Za rfl rfl (Zm (v := Value.bool (decide ((a.Kids.length : Int) = 0))) rfl rfl ?_))))))))))
   by_cases i : (decide ((a.Kids.length : Int) = 0)) = true
   ·refine WL_run rfl (Zf rfl (Zx i)) rfl (Zp F102_1 rfl rfl rfl (WL_run rfl (Zf rfl (Zx i)) rfl (Zn (c) A3 rfl rfl rfl (WL_run rfl (Zf rfl (Zx i)) rfl (Exec.geq rfl rfl rfl ?_)))))
    refine WL_passes 2 (by rw [i]; rfl) ?_
    by_cases l : (decide ((-1099511627776) ≤ a.N)) = true
    ·refine WL_run rfl (Zf rfl (Zx l)) rfl (Zp F102_1 rfl rfl rfl (WL_run rfl (Zf rfl (Zx l)) rfl (Zn (c) A3 rfl rfl rfl (WL_run rfl (Zf rfl (Zx l)) rfl (Exec.leq rfl rfl rfl ?_)))))
     refine WL_passes 2 (by rw [l]; rfl) ?_
     refine Zb (Ze ?_)
     exact ⟨s, (Zv _), (c).drop, (Zx (Eq.trans (and_t i) (and_t l))).symm⟩
    replace l := Zk l
    refine WL_passes 5 (by rw [l]; rfl) ?_
    refine Zb (Ze ?_)
    exact ⟨s, (Zv _), (c).drop, (Zx (Eq.trans (and_t i) (and_f l))).symm⟩
   replace i := Zk i
   refine WL_passes 10 (by rw [i]; rfl) ?_
   refine Zb (Ze ?_)
   exact ⟨s, (Zv _), (c).drop, (Zx (and_f i)).symm⟩
  intro bk bw ax
  obtain ⟨aQ, a7, a2, aC⟩ := ax
  refine (Ze (W_ret (ib_ret (at_ret ?_))))
  have aY := Zu hm
  subst r
  refine ⟨_, ret1 rfl, ?_⟩
  exact ⟨aQ, a7, a2, aC⟩
 refine W_cond_f rfl u ?_
 replace u := Zk u
 refine Zc (Zd (Za rfl rfl (Exec.str_eql rfl rfl rfl (Za rfl rfl (Zo (v := Value.bool (decide (a.Op = (⟨#[102, 108, 117, 101, 110, 116]⟩)))) rfl rfl (Zb (Ze ?_)))))))
 rcases ite_some hm with ⟨x, hm⟩ | ⟨x, hm⟩
 ·refine W_cond_t rfl x (Zc (W_mid (M := fun f' w' => ∃ (ap : PHeap) , PHeap.le s ap ∧ St w0 ap (H) w' ∧ f' 4 = Value.bool (((decide ((a.Kids.length : Int) = 0)) && ((decide (0 ≤ a.N)) && decide (a.N < d))))) ?_ ?_))
  ·refine Zd (Za rfl rfl (Zp F102_2 rfl rfl rfl (Za rfl rfl (Zn (c) A100 rfl rfl rfl (Za rfl rfl (Zr S100 rfl rfl t (Za rfl rfl (Exec.eql rfl rfl rfl (Za rfl rfl (Zm (v := Value.bool (decide ((a.Kids.length : Int) = 0))) rfl rfl ?_))))))))))
   by_cases j : (decide ((a.Kids.length : Int) = 0)) = true
   ·refine WL_run rfl (Zf rfl (Zx j)) rfl (Zp F102_1 rfl rfl rfl (WL_run rfl (Zf rfl (Zx j)) rfl (Zn (c) A3 rfl rfl rfl (WL_run rfl (Zf rfl (Zx j)) rfl (Exec.geq rfl rfl rfl ?_)))))
    refine WL_passes 2 (by rw [j]; rfl) ?_
    by_cases k : (decide (0 ≤ a.N)) = true
    ·refine WL_run rfl (Zf rfl (Zx k)) rfl (Zp F102_1 rfl rfl rfl (WL_run rfl (Zf rfl (Zx k)) rfl (Zn (c) A3 rfl rfl rfl (WL_run rfl (Zf rfl (Zx k)) rfl (Zm (v := Vi (d)) rfl rfl (WL_run rfl (Zf rfl (Zx k)) rfl (Zq rfl rfl rfl ?_)))))))
     refine WL_passes 2 (by rw [k]; rfl) ?_
     refine Zb (Ze ?_)
     exact ⟨s, (Zv _), (c).drop, (Zx (Eq.trans (and_t j) (and_t k))).symm⟩
    replace k := Zk k
    refine WL_passes 6 (by rw [k]; rfl) ?_
    refine Zb (Ze ?_)
    exact ⟨s, (Zv _), (c).drop, (Zx (Eq.trans (and_t j) (and_f k))).symm⟩
   replace j := Zk j
   refine WL_passes 11 (by rw [j]; rfl) ?_
   refine Zb (Ze ?_)
   exact ⟨s, (Zv _), (c).drop, (Zx (and_f j)).symm⟩
  intro bl bx ay
  obtain ⟨aR, a8, a3, aD⟩ := ay
  refine (Ze (W_ret (ib_ret (at_ret ?_))))
  have aZ := Zu hm
  subst r
  refine ⟨_, ret1 rfl, ?_⟩
  exact ⟨aR, a8, a3, aD⟩
 refine W_cond_f rfl x ?_
 replace x := Zk x
 refine Zc (Zc (Zd (Za rfl rfl (Exec.str_eql rfl rfl rfl (Za rfl rfl (Zo (v := Value.bool (decide (a.Op = (⟨#[43]⟩)))) rfl rfl (Zb (Ze ?_))))))))
 obtain ⟨ae, p, hm⟩ := Zg hm
 refine W_mid (M := fun f' w' => (fun (ae : Bool) => ∃ (aq : PHeap) , PHeap.le s aq ∧ St w0 aq (Res.box ag 102 [Value.string (a.Op), Vi (a.N), o] :: H) w' ∧ f' 1 = Vi (d) ∧ f' 2 = Value.pointer (some ⟨ag, 0, none⟩) ∧ f' 40 = Value.bool (ae)) ae) ?_ ?_
 ·rcases ite_some p with ⟨y, p⟩ | ⟨y, p⟩
  ·refine W_cond_t rfl y (W_skip (Ze ?_))
   have ba := Zu p
   subst ae
   exact ⟨s, (Zv _), c, rfl, rfl, rfl⟩
  refine W_cond_f rfl y ?_
  replace y := Zk y
  refine Zc (Zd (Za rfl rfl (Exec.str_eql rfl rfl rfl (Za rfl rfl (Zo (v := Value.bool (decide (a.Op = (⟨#[45]⟩)))) rfl rfl (Zb (Ze ?_)))))))
  obtain ⟨af, ab, p⟩ := Zg p
  refine W_mid (M := fun f' w' => (fun (af : Bool) => ∃ (ar : PHeap) , PHeap.le s ar ∧ St w0 ar (Res.box ag 102 [Value.string (a.Op), Vi (a.N), o] :: H) w' ∧ f' 1 = Vi (d) ∧ f' 2 = Value.pointer (some ⟨ag, 0, none⟩) ∧ f' 40 = Value.bool (af)) af) ?_ ?_
  ·rcases ite_some ab with ⟨z, ab⟩ | ⟨z, ab⟩
   ·refine W_cond_t rfl z (W_skip (Ze ?_))
    have bb := Zu ab
    subst af
    exact ⟨s, (Zv _), c, rfl, rfl, rfl⟩
   refine W_cond_f rfl z ?_
   replace z := Zk z
   refine Zd (Za rfl rfl (Exec.str_eql rfl rfl rfl (Za rfl rfl (Zo (v := Value.bool (decide (a.Op = (⟨#[42]⟩)))) rfl rfl (Zb (Ze ?_))))))
   have bc := Zu ab
   subst af
   exact ⟨s, (Zv _), c, rfl, rfl, rfl⟩
  intro bm bz az
  obtain ⟨aS, a9, a4, aE, aF, aG⟩ := az
  refine (Ze ?_)
  have bd := Zu p
  subst ae
  exact ⟨aS, a9, a4, aE, aF, aG⟩
 intro bn b0 a0
 obtain ⟨aj, ac, n, am, ai, an⟩ := a0
 refine (Ze ?_)
 rcases ite_some hm with ⟨aa, hm⟩ | ⟨aa, hm⟩
 ·refine W_cond_t an aa (Zc ?_)
  obtain ⟨q, b, hm⟩ := Zg hm
  refine W_mid (M := fun f' w' => (fun (q : Bool) => ∃ (au : PHeap) , PHeap.le aj au ∧ St w0 au (H) w' ∧ f' 4 = Value.bool (q)) q) ?_ ?_
  ·refine Zd (Za rfl rfl (Zp F102_1 rfl ai rfl (Za rfl rfl (Zn (n) A3 rfl rfl rfl (Za rfl rfl (Exec.eql rfl rfl rfl (Za rfl rfl (Zm (v := Value.bool (decide (a.N = 0))) rfl rfl ?_))))))))
   rcases ite_some b with ⟨m, b⟩ | ⟨m, b⟩
   ·refine WL_run rfl (Zf rfl (Zx m)) rfl (Zp F102_2 rfl ai rfl (WL_run rfl (Zf rfl (Zx m)) rfl (Zn (n) A100 rfl rfl rfl (WL_run rfl (Zf rfl (Zx m)) rfl (Zr S100 rfl rfl (t.mono ac) (WL_run rfl (Zf rfl (Zx m)) rfl (Exec.eql rfl rfl rfl ?_)))))))
    refine WL_passes 2 (by rw [m]; rfl) ?_
    rcases ite_some b with ⟨g, b⟩ | ⟨g, b⟩
    ·refine WL_run rfl (Zf rfl (Zx g)) rfl (Zp F102_2 rfl ai rfl (WL_run rfl (Zf rfl (Zx g)) rfl (Zn (n) A100 rfl rfl rfl ?_)))
     obtain ⟨b4, aI, b⟩ := Zg b
     refine WL_run rfl (Zf rfl (Zx g)) rfl (Exec.index_rep S100 rfl rfl rfl (t.mono ac) aI ?_)
     intro aW bp av
     refine WL_run rfl (Zf rfl (Zx g)) rfl (Zw (E := encGExpr) n A102 rfl rfl rfl av ?_)
     intro bt aJ
     obtain ⟨br, rfl, aO⟩ := encGExpr_val.1 aJ
     refine WL_run rfl (Zf rfl (Zx g)) rfl (Zm (v := Vi (d)) rfl am ?_)
     obtain ⟨b6, aK, b⟩ := Zg b
     refine WL_run rfl (Zf rfl (Zx g)) rfl (Tc rfl rfl rfl (Zi rfl (Zi rfl args_nil)) (ih aK n aO).r ?_)
     rintro _ b1 ⟨aT, ak, ah, rfl⟩
     refine WL_passes 2 (by rw [g]; rfl) ?_
     rcases ite_some b with ⟨h, b⟩ | ⟨h, b⟩
     ·refine WL_run rfl (Zf rfl (Zx h)) rfl (Zp F102_2 rfl ai rfl (WL_run rfl (Zf rfl (Zx h)) rfl (Zn (ah) A100 rfl rfl rfl ?_)))
      obtain ⟨b5, aL, b⟩ := Zg b
      refine WL_run rfl (Zf rfl (Zx h)) rfl (Exec.index_rep S100 rfl rfl rfl (t.mono (Zt ac ak)) aL ?_)
      intro aX bq aw
      refine WL_run rfl (Zf rfl (Zx h)) rfl (Zw (E := encGExpr) ah A102 rfl rfl rfl aw ?_)
      intro bu aM
      obtain ⟨bs, rfl, aP⟩ := encGExpr_val.1 aM
      refine WL_run rfl (Zf rfl (Zx h)) rfl (Zm (v := Vi (d)) rfl am ?_)
      obtain ⟨b7, aN, b⟩ := Zg b
      refine WL_run rfl (Zf rfl (Zx h)) rfl (Tc rfl rfl rfl (Zi rfl (Zi rfl args_nil)) (ih aN ah aP).r ?_)
      rintro _ b2 ⟨aU, aA, a5, rfl⟩
      refine WL_passes 2 (by rw [h]; rfl) ?_
      refine Zb (Ze ?_)
      have be := Zu b
      subst q
      exact ⟨aU, (Zt ak aA), (a5).drop, rfl⟩
     replace h := Zk h
     refine WL_passes 8 (by rw [h]; rfl) ?_
     refine Zb (Ze ?_)
     have bf := Zu b
     subst q
     exact ⟨aT, ak, (ah).drop, rfl⟩
    replace g := Zk g
    refine WL_passes 16 (by rw [g]; rfl) ?_
    refine Zb (Ze ?_)
    have bg := Zu b
    subst q
    exact ⟨aj, (Zv _), (n).drop, rfl⟩
   replace m := Zk m
   refine WL_passes 22 (by rw [m]; rfl) ?_
   refine Zb (Ze ?_)
   have bh := Zu b
   subst q
   exact ⟨aj, (Zv _), (n).drop, rfl⟩
  intro bo b3 a1
  obtain ⟨aV, aB, a6, aH⟩ := a1
  refine (Ze (W_ret (ib_ret (at_ret ?_))))
  have bi := Zu hm
  subst r
  refine ⟨_, ret1 rfl, ?_⟩
  exact ⟨aV, (Zt ac aB), a6, aH⟩
 refine W_cond_f an aa ?_
 replace aa := Zk aa
 refine W_skip (ib_normal (Ze (Zc (Zd (Za rfl rfl (Zo (v := Value.bool (false)) rfl rfl (Zb (Ze (W_ret ?_)))))))))
 have bj := Zu hm
 subst r
 refine ⟨_, ret1 rfl, ?_⟩
 exact ⟨aj, ac, (n).drop, rfl⟩
theorem ground_right_sim {fu : Nat} : ∀ {w0 w : World} {s : PHeap} {H : List Res} {a : GExpr} {b : Int} {d : Value} {r : Bool} (hm : ground_right_p fu a b = some r) (hS : St w0 s (H) w) (g : SliceRep encGExpr s d a.Kids), Calls Tryz.prog 58 #[Value.agg #[Value.string (a.Op), Vi (a.N), d], Vi (b)] w fun e w' => ∃ v, e = .returned v ∧ ((fun (f : Bool) => ∃ (c : PHeap) , PHeap.le s c ∧ St w0 c (H) w' ∧ v = Value.bool (f)) r) := by
 induction fu with
 | zero => intros; rename_i hm _ _; rw [ground_right_p] at hm; cases hm
 | succ fu ih => exact ground_right_step ih
theorem F104_2 : tyField Tryz.prog 104 2 = some 4 := by kernel_rfl
theorem F59_0 : tyField Tryz.prog 59 0 = some 0 := by kernel_rfl
theorem F59_1 : tyField Tryz.prog 59 1 = some 1 := by kernel_rfl
theorem ground_condition_sim {w0 w : World} {s : PHeap} {H : List Res} {fu : Nat} {ag : Ground} {ab : Cond} {ah : Value} {ai : Value} {aj : Value} {ak : Value} {al : Value} {am : Value} {an : Value} {t : Value} {r : Bool} (hm : ground_condition_p fu ag ab = some r) (hS : St w0 s (H) w) (a7 : SliceRep encAtom s ah ag.Atoms) (ad : SliceRep encGFluent s ai ag.Fluents) (bX : SliceRep (encInt .i64) s aj ag.Init) (bY : SliceRep encCond s ak ag.Goal) (bZ : SliceRep encGOp s al ag.Ops) (aR : SliceRep (encInt .i64) s am ab.Pos) (aS : SliceRep (encInt .i64) s an ab.Neg) (a5 : SliceRep encGTest s t ab.Tests) :
  Calls Tryz.prog 36 #[Value.agg #[ah, ai, aj, ak, al], Value.agg #[am, an, t]] w fun e w' => ∃ v, e = .returned v ∧ ((fun (bS : Bool) => ∃ (aK : PHeap) , PHeap.le s aK ∧ St w0 aK (H) w' ∧ v = Value.bool (bS)) r) := by
 unfold ground_condition_p at hm
 refine calls_of_W Tryz.func36 rfl rfl (Zc (Zd (Za rfl rfl (Exec.box (cs := [ah, ai, aj, ak, al]) hS rfl rfl rfl ?_))))
 intro ae c2 ba
 refine Za rfl rfl (Exec.box (cs := [am, an, t]) ba rfl rfl rfl ?_)
 intro af c3 aA
 refine Za rfl rfl (Zo (v := Value.bool (false)) rfl rfl (Zb (Ze (Zc (Zc (Zd (Za rfl rfl (Zp F59_2 rfl rfl rfl (Za rfl rfl (Zn (aA) A57 rfl rfl rfl (Za rfl rfl (Zr S57 rfl rfl a5 (Za rfl rfl (Zm (v := Vi (0)) rfl rfl (Zb (Ze ?_))))))))))))))))
 obtain ⟨a8, aU, bn, bl, bj⟩ := ctl_some hm
 refine W_mid (M := fun f' w' => ∃ s', (a8 = .next s' ∨ a8 = .brk s') ∧ (fun (_ : Unit) => ∃ (aL : PHeap) , PHeap.le s aL ∧ St w0 aL (Res.box ae 28 [ah, ai, aj, ak, al] :: Res.box af 59 [am, an, t] :: H) w' ∧ f' 2 = Value.pointer (some ⟨ae, 0, none⟩) ∧ f' 3 = Value.pointer (some ⟨af, 0, none⟩) ∧ f' 8 = t ∧ f' 9 = Vi ((ab.Tests.length : Int))) s') ?_ ?_
 ·refine W_block (W_forC (fun k' s' f' w' => (fun (_ : Unit) => ∃ (aM : PHeap) , PHeap.le s aM ∧ St w0 aM (Res.box ae 28 [ah, ai, aj, ak, al] :: Res.box af 59 [am, an, t] :: H) w' ∧ f' 2 = Value.pointer (some ⟨ae, 0, none⟩) ∧ f' 3 = Value.pointer (some ⟨af, 0, none⟩) ∧ f' 8 = t ∧ f' 9 = Vi ((ab.Tests.length : Int)) ∧ f' 10 = Vi (k' : Int)) s') aU ?_ ?_ ?_)
  ·have bb := (aA).f1
   exact ⟨s, (Zv _), bb, rfl, rfl, rfl, rfl, rfl⟩
  ·intro aE cy a9 cp c4 bk aV o bo
   obtain ⟨aN, q, aB, d, ac, z, aa, u⟩ := aV
   refine Zc (Zd (Za rfl rfl (Zq rfl u aa (Zb (Ze (Zc (W_true (Zx (decide_eq_true (by omega))) (W_skip (Ze (Zc (W_block (Zc (Zd ?_)))))))))))))
   obtain ⟨b, b6, o⟩ := Zg o
   refine Za rfl rfl (Exec.index_rep S57 rfl z u (a5.mono q) b6 ?_)
   intro ca cv aT
   refine Za rfl rfl (Zw (E := encGTest) aB A104 rfl rfl rfl aT ?_)
   intro c1 b7
   obtain ⟨aq, ar, rfl, a3, a4⟩ := encGTest_val.1 b7
   refine Za rfl rfl (Exec.alloc (cs := [Value.string (⟨#[]⟩), Value.string (⟨#[]⟩), Vi (0), Value.slice none 0 0, Value.string (⟨#[]⟩), Vi (0), Value.slice none 0 0]) aB Z104 rfl rfl ?_)
   intro cb c5 bc
   refine Za rfl rfl (Exec.store_box (ds := [Value.string (b.Op), Value.string (b.A.Op), Vi (b.A.N), aq, Value.string (b.B.Op), Vi (b.B.N), ar]) (es := [Value.string (b.Op), Value.string (b.A.Op), Vi (b.A.N), aq, Value.string (b.B.Op), Vi (b.B.N), ar]) bc A104 rfl rfl rfl rfl (Zj rfl (Zj rfl (Zj rfl (Zj (a3).one (Zj rfl (Zj rfl (Zj (a4).one one_nil))))))) (Nat.le_of_ble_eq_true rfl) rfl ?_)
   intro c6 c
   refine Zb (Ze (Zc ?_))
   obtain ⟨n, a, o⟩ := Zg o
   refine W_mid (M := fun f' w' => (fun (n : Bool) => ∃ (aO : PHeap) , PHeap.le aN aO ∧ St w0 aO (Res.box ae 28 [ah, ai, aj, ak, al] :: Res.box af 59 [am, an, t] :: H) w' ∧ f' 2 = Value.pointer (some ⟨ae, 0, none⟩) ∧ f' 3 = Value.pointer (some ⟨af, 0, none⟩) ∧ f' 8 = t ∧ f' 9 = Vi ((ab.Tests.length : Int)) ∧ f' 10 = Vi ((aE : Int)) ∧ f' 44 = Value.bool (n)) n) ?_ ?_
   ·refine Zd (Za rfl rfl (Zp F104_0 rfl rfl rfl (Za rfl rfl (Zn (c) A9 rfl rfl rfl (Za rfl rfl (Exec.str_neq rfl rfl rfl (Za rfl rfl (Zm (v := Value.bool (!decide (b.Op = (⟨#[60]⟩)))) rfl rfl ?_))))))))
    rcases ite_some a with ⟨x, a⟩ | ⟨x, a⟩
    ·refine WL_run rfl (Zf rfl (Zx x)) rfl (Zp F104_0 rfl rfl rfl (WL_run rfl (Zf rfl (Zx x)) rfl (Zn (c) A9 rfl rfl rfl (WL_run rfl (Zf rfl (Zx x)) rfl (Exec.str_neq rfl rfl rfl ?_)))))
     refine WL_passes 2 (by rw [x]; rfl) ?_
     rcases ite_some a with ⟨y, a⟩ | ⟨y, a⟩
     ·refine WL_run rfl (Zf rfl (Zx y)) rfl (Zp F104_0 rfl rfl rfl (WL_run rfl (Zf rfl (Zx y)) rfl (Zn (c) A9 rfl rfl rfl (WL_run rfl (Zf rfl (Zx y)) rfl (Exec.str_neq rfl rfl rfl ?_)))))
      refine WL_passes 2 (by rw [y]; rfl) ?_
      rcases ite_some a with ⟨g, a⟩ | ⟨g, a⟩
      ·refine WL_passes 17 (by rw [g]; rfl) ?_
       refine Zb (Ze ?_)
       have cc := Zu a
       subst n
       exact ⟨aN, (Zv _), (((c).drop).f1).f1, d, ac, z, aa, u, rfl⟩
      replace g := Zk g
      refine WL_run rfl (Zf rfl (Zx g)) rfl (Zp F104_1 rfl rfl rfl (WL_run rfl (Zf rfl (Zx g)) rfl (Exec.load_box_agg (ds := [Value.string (b.A.Op), Vi (b.A.N), aq]) (c) A102 rfl rfl rfl (WL_run rfl (Zf rfl (Zx g)) rfl (Zp F28_1 rfl d rfl (WL_run rfl (Zf rfl (Zx g)) rfl (Zn ((c).f1) A23 rfl rfl rfl (WL_run rfl (Zf rfl (Zx g)) rfl (Zr S23 rfl rfl (ad.mono q) ?_)))))))))
      obtain ⟨cJ, b8, a⟩ := Zg a
      refine WL_run rfl (Zf rfl (Zx g)) rfl (Tc rfl rfl rfl (Zi rfl (Zi rfl args_nil)) (ground_right_sim b8 c a3).r ?_)
      rintro _ c7 ⟨bG, az, av, rfl⟩
      refine WL_run rfl (Zf rfl (Zx g)) rfl (Exec.not rfl rfl ?_)
      refine WL_passes 2 (by rw [g]; rfl) ?_
      rcases ite_some a with ⟨i, a⟩ | ⟨i, a⟩
      ·refine WL_passes 8 (by rw [i]; rfl) ?_
       refine Zb (Ze ?_)
       have cd := Zu a
       subst n
       exact ⟨bG, az, (((av).drop).f1).f1, d, ac, z, aa, u, rfl⟩
      replace i := Zk i
      refine WL_run rfl (Zf rfl (Zx i)) rfl (Zp F104_2 rfl rfl rfl (WL_run rfl (Zf rfl (Zx i)) rfl (Exec.load_box_agg (ds := [Value.string (b.B.Op), Vi (b.B.N), ar]) (av) A102 rfl rfl rfl (WL_run rfl (Zf rfl (Zx i)) rfl (Zp F28_1 rfl d rfl (WL_run rfl (Zf rfl (Zx i)) rfl (Zn ((av).f1) A23 rfl rfl rfl (WL_run rfl (Zf rfl (Zx i)) rfl (Zr S23 rfl rfl (ad.mono (Zt q az)) ?_)))))))))
      obtain ⟨bT, b9, a⟩ := Zg a
      refine WL_run rfl (Zf rfl (Zx i)) rfl (Tc rfl rfl rfl (Zi rfl (Zi rfl args_nil)) (ground_right_sim b9 av (a4.mono az)).r ?_)
      rintro _ c8 ⟨bH, bq, bd, rfl⟩
      refine WL_run rfl (Zf rfl (Zx i)) rfl (Exec.not rfl rfl (Za rfl rfl (Exec.pick_f (v := Value.bool (!bT)) rfl (Zx i) rfl (Zb (Ze ?_)))))
      have ce := Zu a
      subst n
      exact ⟨bH, (Zt az bq), (((bd).drop).f1).f1, d, ac, z, aa, u, rfl⟩
     replace y := Zk y
     refine WL_passes 5 (by rw [y]; rfl) ?_
     refine WL_run rfl (Zf rfl rfl) rfl (Zp F104_1 rfl rfl rfl (WL_run rfl (Zf rfl rfl) rfl (Exec.load_box_agg (ds := [Value.string (b.A.Op), Vi (b.A.N), aq]) (c) A102 rfl rfl rfl (WL_run rfl (Zf rfl rfl) rfl (Zp F28_1 rfl d rfl (WL_run rfl (Zf rfl rfl) rfl (Zn ((c).f1) A23 rfl rfl rfl (WL_run rfl (Zf rfl rfl) rfl (Zr S23 rfl rfl (ad.mono q) ?_)))))))))
     obtain ⟨cK, bA, a⟩ := Zg a
     refine WL_run rfl (Zf rfl rfl) rfl (Tc rfl rfl rfl (Zi rfl (Zi rfl args_nil)) (ground_right_sim bA c a3).r ?_)
     rintro _ c9 ⟨bI, a0, aw, rfl⟩
     refine WL_run rfl (Zf rfl rfl) rfl (Exec.not rfl rfl (WL_passes 2 rfl ?_))
     rcases ite_some a with ⟨j, a⟩ | ⟨j, a⟩
     ·refine WL_passes 8 (by rw [j]; rfl) ?_
      refine Zb (Ze ?_)
      have cf := Zu a
      subst n
      exact ⟨bI, a0, (((aw).drop).f1).f1, d, ac, z, aa, u, rfl⟩
     replace j := Zk j
     refine WL_run rfl (Zf rfl (Zx j)) rfl (Zp F104_2 rfl rfl rfl (WL_run rfl (Zf rfl (Zx j)) rfl (Exec.load_box_agg (ds := [Value.string (b.B.Op), Vi (b.B.N), ar]) (aw) A102 rfl rfl rfl (WL_run rfl (Zf rfl (Zx j)) rfl (Zp F28_1 rfl d rfl (WL_run rfl (Zf rfl (Zx j)) rfl (Zn ((aw).f1) A23 rfl rfl rfl (WL_run rfl (Zf rfl (Zx j)) rfl (Zr S23 rfl rfl (ad.mono (Zt q a0)) ?_)))))))))
     obtain ⟨bU, bB, a⟩ := Zg a
     refine WL_run rfl (Zf rfl (Zx j)) rfl (Tc rfl rfl rfl (Zi rfl (Zi rfl args_nil)) (ground_right_sim bB aw (a4.mono a0)).r ?_)
     rintro _ cA ⟨bJ, br, be, rfl⟩
     refine WL_run rfl (Zf rfl (Zx j)) rfl (Exec.not rfl rfl (Za rfl rfl (Exec.pick_f (v := Value.bool (!bU)) rfl (Zx j) rfl (Zb (Ze ?_)))))
     have cg := Zu a
     subst n
     exact ⟨bJ, (Zt a0 br), (((be).drop).f1).f1, d, ac, z, aa, u, rfl⟩
    replace x := Zk x
    refine WL_passes 10 (by rw [x]; rfl) ?_
    refine WL_run rfl (Zf rfl rfl) rfl (Zp F104_1 rfl rfl rfl (WL_run rfl (Zf rfl rfl) rfl (Exec.load_box_agg (ds := [Value.string (b.A.Op), Vi (b.A.N), aq]) (c) A102 rfl rfl rfl (WL_run rfl (Zf rfl rfl) rfl (Zp F28_1 rfl d rfl (WL_run rfl (Zf rfl rfl) rfl (Zn ((c).f1) A23 rfl rfl rfl (WL_run rfl (Zf rfl rfl) rfl (Zr S23 rfl rfl (ad.mono q) ?_)))))))))
    obtain ⟨cL, bC, a⟩ := Zg a
    refine WL_run rfl (Zf rfl rfl) rfl (Tc rfl rfl rfl (Zi rfl (Zi rfl args_nil)) (ground_right_sim bC c a3).r ?_)
    rintro _ cB ⟨bK, a1, ax, rfl⟩
    refine WL_run rfl (Zf rfl rfl) rfl (Exec.not rfl rfl (WL_passes 2 rfl ?_))
    rcases ite_some a with ⟨l, a⟩ | ⟨l, a⟩
    ·refine WL_passes 8 (by rw [l]; rfl) ?_
     refine Zb (Ze ?_)
     have ch := Zu a
     subst n
     exact ⟨bK, a1, (((ax).drop).f1).f1, d, ac, z, aa, u, rfl⟩
    replace l := Zk l
    refine WL_run rfl (Zf rfl (Zx l)) rfl (Zp F104_2 rfl rfl rfl (WL_run rfl (Zf rfl (Zx l)) rfl (Exec.load_box_agg (ds := [Value.string (b.B.Op), Vi (b.B.N), ar]) (ax) A102 rfl rfl rfl (WL_run rfl (Zf rfl (Zx l)) rfl (Zp F28_1 rfl d rfl (WL_run rfl (Zf rfl (Zx l)) rfl (Zn ((ax).f1) A23 rfl rfl rfl (WL_run rfl (Zf rfl (Zx l)) rfl (Zr S23 rfl rfl (ad.mono (Zt q a1)) ?_)))))))))
    obtain ⟨bV, bD, a⟩ := Zg a
    refine WL_run rfl (Zf rfl (Zx l)) rfl (Tc rfl rfl rfl (Zi rfl (Zi rfl args_nil)) (ground_right_sim bD ax (a4.mono a1)).r ?_)
    rintro _ cC ⟨bL, bs, bf, rfl⟩
    refine WL_run rfl (Zf rfl (Zx l)) rfl (Exec.not rfl rfl (Za rfl rfl (Exec.pick_f (v := Value.bool (!bV)) rfl (Zx l) rfl (Zb (Ze ?_)))))
    have ci := Zu a
    subst n
    exact ⟨bL, (Zt a1 bs), (((bf).drop).f1).f1, d, ac, z, aa, u, rfl⟩
   intro cq cD aX
   obtain ⟨aP, aF, aC, bw, bx, bz, b0, b1, aG⟩ := aX
   refine (Ze ?_)
   rcases ite_some o with ⟨ao, o⟩ | ⟨ao, o⟩
   ·refine W_cond_t aG ao (Zc (Zd (Za rfl rfl (Zo (v := Value.bool (false)) rfl rfl (Zb (Ze (W_ret (ib_ret (at_ret (at_ret (ib_ret (at_ret (at_ret ?_)))))))))))))
    have cj := Zu o
    subst a9
    have bm := bn _ (bo (by intro _ h; cases h))
    have ck := Zu bm
    subst r
    refine ⟨_, ret1 rfl, ?_⟩
    exact ⟨aP, (Zt q aF), ((aC).drop).drop, rfl⟩
   refine W_cond_f aG ao ?_
   replace ao := Zk ao
   refine W_skip (ib_normal (Ze (Zd (Za rfl rfl (Exec.add rfl b1 rfl (Za rfl rfl (Zm (v := Vi (IntKind.i64.wrap ((aE : Int) + 1))) rfl rfl (Zb (Ze ?_)))))))))
   have cl := Zu o
   subst a9
   refine ⟨_, rfl, ?_⟩; exact ⟨aP, (Zt q aF), ((aC).f1).f1, bw, bx, bz, b0, (Eq.trans rfl (wrap_up bk (SliceRep.le a5)))⟩
  intro cz cr cE aW bp
  obtain ⟨bM, bt, bg, b2, b3, b4, aH, bR⟩ := aW
  refine Zc (Zd (Za rfl rfl (Zq rfl bR aH (Zb (Ze (Zc (W_false (Zx (decide_eq_false (by omega))) (W_exit (at_exit (at_exit (ib_here (Ze ?_))))))))))))
  refine ⟨_, .inl bp, ?_⟩; exact ⟨bM, bt, ((bg).f1).f1, b2, b3, b4, aH⟩
 rintro ct cF ⟨c0, aD, aY⟩
 have hm := aD.elim (bl _) (bj _)
 clear aD
 obtain ⟨bN, ap, a6, aI, aJ, cw, cx⟩ := aY
 refine (Ze (Zc ?_))
 obtain ⟨au, p, hm⟩ := Zg hm
 refine W_mid (M := fun f' w' => (fun (au : Bool) => ∃ (aQ : PHeap) , PHeap.le bN aQ ∧ St w0 aQ (H) w' ∧ f' 4 = Value.bool (au)) au) ?_ ?_
 ·refine Zd (Za rfl rfl (Zp F59_0 rfl aJ rfl (Za rfl rfl (Zn ((a6).f1) A24 rfl rfl rfl (Za rfl rfl (Zp F28_0 rfl aI rfl (Za rfl rfl (Zn (a6) A22 rfl rfl rfl (Za rfl rfl (Zr S22 rfl rfl (a7.mono ap) ?_))))))))))
  obtain ⟨bW, bE, p⟩ := Zg p
  refine Za rfl rfl (Tc rfl rfl rfl (Zi rfl (Zi rfl args_nil)) (ground_indices_sim bE a6 (aR.mono ap)).r ?_)
  rintro _ cG ⟨bO, a2, ay, rfl⟩
  refine Za rfl rfl (Zm (v := Value.bool (bW)) rfl rfl ?_)
  rcases ite_some p with ⟨m, p⟩ | ⟨m, p⟩
  ·refine WL_run rfl (Zf rfl (Zx m)) rfl (Zp F59_1 rfl aJ rfl (WL_run rfl (Zf rfl (Zx m)) rfl (Zn ((ay).f1) A24 rfl rfl rfl (WL_run rfl (Zf rfl (Zx m)) rfl (Zp F28_0 rfl aI rfl (WL_run rfl (Zf rfl (Zx m)) rfl (Zn (ay) A22 rfl rfl rfl (WL_run rfl (Zf rfl (Zx m)) rfl (Zr S22 rfl rfl (a7.mono (Zt ap a2)) ?_)))))))))
   obtain ⟨cM, bF, p⟩ := Zg p
   refine WL_run rfl (Zf rfl (Zx m)) rfl (Tc rfl rfl rfl (Zi rfl (Zi rfl args_nil)) (ground_indices_sim bF ay (aS.mono (Zt ap a2))).r ?_)
   rintro _ cH ⟨bP, bu, bh, rfl⟩
   refine WL_passes 2 (by rw [m]; rfl) ?_
   refine Zb (Ze ?_)
   have cm := Zu p
   subst au
   exact ⟨bP, (Zt a2 bu), ((bh).drop).drop, rfl⟩
  replace m := Zk m
  refine WL_passes 8 (by rw [m]; rfl) ?_
  refine Zb (Ze ?_)
  have cn := Zu p
  subst au
  exact ⟨bO, a2, ((ay).drop).drop, rfl⟩
 intro cu cI aZ
 obtain ⟨bQ, bv, bi, b5⟩ := aZ
 refine (Ze (W_ret ?_))
 have co := Zu hm
 subst r
 refine ⟨_, ret1 rfl, ?_⟩
 exact ⟨bQ, (Zt ap bv), bi, b5⟩
theorem N35 : (Tryz.f35.name == "runtime.NumGoroutine") = false := by kernel_rfl
theorem ground_Valid_c2_sim {w0 w : World} {s : PHeap} {H : List Res} {fu : Nat} {a : Cond} {h : Ground} {b : Value} {c : Value} {d : Value} {g i : Nat} {r : Bool} (hm : ground_Valid_c2_p fu a h = some r) (hS : St w0 s (H) w) (k : SliceRep (encInt .i64) s b a.Pos) (l : SliceRep (encInt .i64) s c a.Neg) (m : SliceRep encGTest s d a.Tests) (n : At s g i encGround h) :
  Calls Tryz.prog 35 #[Value.agg #[b, c, d], Value.pointer (some ⟨g, i, none⟩)] w fun e w' => ∃ v, e = .returned v ∧ ((fun (ac : Bool) => ∃ (j : PHeap) , PHeap.le s j ∧ St w0 j (H) w' ∧ v = Value.bool (ac)) r) := by
 unfold ground_Valid_c2_p at hm
 refine calls_of_W Tryz.func35 rfl rfl (Zc (Zd (Za rfl rfl (Exec.box (cs := [b, c, d]) hS rfl rfl rfl ?_))))
 intro ae am f
 refine Za rfl rfl (Zo (v := Value.bool (false)) rfl rfl (Zb (Ze (Zc (Zd (Za rfl rfl (Zw (E := encGround) f A28 rfl rfl rfl n ?_)))))))
 intro al q
 obtain ⟨ag, ah, ai, aj, ak, rfl, u, x, y, z, aa⟩ := encGround_val.1 q
 refine Za rfl rfl (Exec.load_box_agg (ds := [b, c, d]) (f) A59 rfl rfl rfl ?_)
 obtain ⟨ad, t, hm⟩ := Zg hm
 refine Za rfl rfl (Tc rfl rfl rfl (Zi rfl (Zi rfl args_nil)) (ground_condition_sim t f u x y z aa k l m).r ?_)
 rintro _ an ⟨ab, p, o, rfl⟩
 refine Za rfl rfl (Exec.not rfl rfl (Za rfl rfl (Zo (v := Value.bool (!ad)) rfl rfl (Zb (Ze (W_ret ?_))))))
 have af := Zu hm
 subst r
 refine ⟨_, ret1 rfl, ?_⟩
 exact ⟨ab, p, (o).drop, rfl⟩
theorem slices_IndexFunc_apiCond_Valid_c2_sim {w0 w : World} {s : PHeap} {H : List Res} {fu : Nat} {l : (List Cond)} {o : Ground} {c : Value} {d i : Nat} {r : Int} (hm : slices_IndexFunc_apiCond_Valid_c2_p fu l o = some r) (hS : St w0 s (H) w) (m : SliceRep encCond s c l) (ah : At s d i encGround o) :
  Calls Tryz.prog 57 #[c, Value.func (.func 35) #[] #[Value.pointer (some ⟨d, i, none⟩)]] w fun e w' => ∃ v, e = .returned v ∧ ((fun (aB : Int) => ∃ (ad : PHeap) , PHeap.le s ad ∧ St w0 ad (H) w' ∧ v = Vi (aB)) r) := by
 unfold slices_IndexFunc_apiCond_Valid_c2_p at hm
 refine calls_of_W Tryz.func57 rfl rfl (Zc (Zd (Za rfl rfl (Zo (v := Vi (0)) rfl rfl (Zb (Ze (Zc (Zc (Zd (Za rfl rfl (Zm (v := c) rfl rfl (Za rfl rfl (Zr S25 rfl rfl m (Za rfl rfl (Zm (v := Vi (0)) rfl rfl (Zb (Ze ?_)))))))))))))))))
 obtain ⟨p, aj, av, ar, ap⟩ := ctl_some hm
 refine W_mid (M := fun f' w' => ∃ s', (p = .next s' ∨ p = .brk s') ∧ (fun (_ : Unit) => ∃ (ae : PHeap) , PHeap.le s ae ∧ St w0 ae (H) w' ∧ f' 0 = c ∧ f' 1 = Value.func (.func 35) #[] #[Value.pointer (some ⟨d, i, none⟩)] ∧ f' 7 = Vi ((l.length : Int))) s') ?_ ?_
 ·refine W_block (W_forC (fun k' s' f' w' => (fun (_ : Unit) => ∃ (af : PHeap) , PHeap.le s af ∧ St w0 af (H) w' ∧ f' 0 = c ∧ f' 1 = Value.func (.func 35) #[] #[Value.pointer (some ⟨d, i, none⟩)] ∧ f' 7 = Vi ((l.length : Int)) ∧ f' 8 = Vi (k' : Int)) s') aj ?_ ?_ ?_)
  ·exact ⟨s, (Zv _), hS, rfl, rfl, rfl, rfl⟩
  ·intro b aP q aH aW aq ak a aw
   obtain ⟨aO, j, t, z, aa, ab, n⟩ := ak
   refine Zc (Zd (Za rfl rfl (Zq rfl n ab (Zb (Ze (Zc (W_true (Zx (decide_eq_true (by omega))) (W_skip (Ze (Zc (W_block (Zc (Zd (Za rfl rfl (Zm (v := Vi ((b : Int))) rfl n (Za rfl rfl (Zo (v := Vi ((b : Int))) rfl rfl (Zb (Ze (Zc (Zd (Za rfl rfl (Zm (v := Value.func (.func 35) #[] #[Value.pointer (some ⟨d, i, none⟩)]) rfl aa (Za rfl rfl (Zm (v := c) rfl z (Za rfl rfl (Zm (v := Vi ((b : Int))) rfl rfl ?_)))))))))))))))))))))))))))
   obtain ⟨ba, a2, a⟩ := Zg a
   refine Za rfl rfl (Exec.index_rep S25 rfl rfl rfl (m.mono j) a2 ?_)
   intro aC aK ai
   refine Za rfl rfl (Zw (E := encCond) t A59 rfl rfl rfl ai ?_)
   intro aV a3
   obtain ⟨aS, aT, aU, rfl, a5, a6, a7⟩ := encCond_val.1 a3
   obtain ⟨bb, a4, a⟩ := Zg a
   refine Za rfl rfl (Exec.callc rfl rfl Tryz.func35 rfl N35 (Zi rfl args_nil) rfl ((ground_Valid_c2_sim a4 t a5 a6 a7 (ah.mono j)).mono ?_))
   rintro _ aX ⟨_, rfl, ⟨ag, y, u, rfl⟩⟩
   refine ⟨_, rfl, ?_⟩
   refine Zb (Ze ?_)
   rcases ite_some a with ⟨g, a⟩ | ⟨g, a⟩
   ·refine W_cond_t rfl g (Zc (Zd (Za rfl rfl (Zm (v := Vi ((b : Int))) rfl rfl (Za rfl rfl (Zo (v := Vi ((b : Int))) rfl rfl (Zb (Ze (W_ret (ib_ret (at_ret (at_ret (ib_ret (at_ret (at_ret ?_)))))))))))))))
    have aD := Zu a
    subst q
    have au := av _ (aw (by intro _ h; cases h))
    have aE := Zu au
    subst r
    refine ⟨_, ret1 rfl, ?_⟩
    exact ⟨ag, (Zt j y), u, rfl⟩
   refine W_cond_f rfl g ?_
   replace g := Zk g
   refine W_skip (ib_normal (Ze (Zd (Za rfl rfl (Exec.add rfl n rfl (Za rfl rfl (Zm (v := Vi (IntKind.i64.wrap ((b : Int) + 1))) rfl rfl (Zb (Ze ?_)))))))))
   have aF := Zu a
   subst q
   refine ⟨_, rfl, ?_⟩; exact ⟨ag, (Zt j y), u, z, aa, ab, (Eq.trans rfl (wrap_up aq (SliceRep.le m)))⟩
  intro aQ aI aY al ax
  obtain ⟨a8, ay, an, a0, a1, ac, aA⟩ := al
  refine Zc (Zd (Za rfl rfl (Zq rfl aA ac (Zb (Ze (Zc (W_false (Zx (decide_eq_false (by omega))) (W_exit (at_exit (at_exit (ib_here (Ze ?_))))))))))))
  refine ⟨_, .inl ax, ?_⟩; exact ⟨a8, ay, an, a0, a1, ac⟩
 rintro aJ aZ ⟨aR, x, am⟩
 have hm := x.elim (ar _) (ap _)
 clear x
 obtain ⟨a9, az, ao, aL, aM, aN⟩ := am
 refine (Ze (Zc (Zd (Za rfl rfl (Zo (v := Vi ((-1))) rfl rfl (Zb (Ze (W_ret ?_))))))))
 have aG := Zu hm
 subst r
 refine ⟨_, ret1 rfl, ?_⟩
 exact ⟨a9, az, ao, rfl⟩
theorem slices_ContainsFunc_apiCond_Valid_c2_sim {w0 w : World} {s : PHeap} {H : List Res} {fu : Nat} {g : (List Cond)} {d : Ground} {c : Value} {a b : Nat} {r : Bool} (hm : slices_ContainsFunc_apiCond_Valid_c2_p fu g d = some r) (hS : St w0 s (H) w) (h : SliceRep encCond s c g) (i : At s a b encGround d) :
  Calls Tryz.prog 34 #[c, Value.func (.func 35) #[] #[Value.pointer (some ⟨a, b, none⟩)]] w fun e w' => ∃ v, e = .returned v ∧ ((fun (n : Bool) => ∃ (f : PHeap) , PHeap.le s f ∧ St w0 f (H) w' ∧ v = Value.bool (n)) r) := by
 unfold slices_ContainsFunc_apiCond_Valid_c2_p at hm
 refine calls_of_W Tryz.func34 rfl rfl (Zc (Zd (Za rfl rfl (Zo (v := Value.bool (false)) rfl rfl (Zb (Ze (Zc (Zd (Za rfl rfl (Zm (v := c) rfl rfl (Za rfl rfl (Zm (v := Value.func (.func 35) #[] #[Value.pointer (some ⟨a, b, none⟩)]) rfl rfl ?_))))))))))))
 obtain ⟨o, l, hm⟩ := Zg hm
 refine Za rfl rfl (Tc rfl rfl rfl (Zi rfl (Zi rfl args_nil)) (slices_IndexFunc_apiCond_Valid_c2_sim l hS h i).r ?_)
 rintro _ q ⟨m, k, j, rfl⟩
 refine Za rfl rfl (Exec.geq rfl rfl rfl (Za rfl rfl (Zo (v := Value.bool (decide (0 ≤ o))) rfl rfl (Zb (Ze (W_ret ?_))))))
 have p := Zu hm
 subst r
 refine ⟨_, ret1 rfl, ?_⟩
 exact ⟨m, k, j, rfl⟩
theorem F63_3 : tyField Tryz.prog 63 3 = some 5 := by kernel_rfl
theorem A60 : tyAgg Tryz.prog 60 = some (false, 1) := by kernel_rfl
theorem S60 : tySlice Tryz.prog 60 = some (81, 5, 88) := by kernel_rfl
theorem F63_1 : tyField Tryz.prog 63 1 = some 1 := by kernel_rfl
theorem F63_0 : tyField Tryz.prog 63 0 = some 0 := by kernel_rfl
theorem ground_named_sim {w0 w : World} {s : PHeap} {H : List Res} {a : ByteArray}  {r : Bool} (hm : ground_named_p a = some r) (hS : St w0 s (H) w)  :
  Calls Tryz.prog 60 #[Value.string (a)] w fun e w' => ∃ v, e = .returned v ∧ ((fun (aA : Bool) => ∃ (ad : PHeap) , PHeap.le s ad ∧ St w0 ad (H) w' ∧ v = Value.bool (aA)) r) := by
 unfold ground_named_p at hm
 refine calls_of_W Tryz.func60 rfl rfl (Zc (Zd (Za rfl rfl (Zo (v := Value.bool (false)) rfl rfl (Zb (Ze (Zc (Zc (Zd (Za rfl rfl (Zm (v := Value.string (a)) rfl rfl (Za rfl rfl (Exec.len_str Tryz.underlying9 rfl rfl (Za rfl rfl (Zm (v := Vi (0)) rfl rfl (Zb (Ze ?_)))))))))))))))))
 obtain ⟨aP, a6, hm⟩ := Zg hm
 obtain ⟨p, aj, aw, au, aq⟩ := ctl_some hm
 refine W_mid (M := fun f' w' => ∃ s', (p = .next s' ∨ p = .brk s') ∧ (fun (_ : Unit) => ∃ (ae : PHeap) , PHeap.le s ae ∧ St w0 ae (H) w' ∧ f' 0 = Value.string (a) ∧ f' 5 = Vi ((a.size : Int))) s') ?_ ?_
 ·refine W_block (W_forC (fun k' s' f' w' => (fun (_ : Unit) => ∃ (af : PHeap) , PHeap.le s af ∧ St w0 af (H) w' ∧ f' 0 = Value.string (a) ∧ f' 5 = Vi ((a.size : Int)) ∧ f' 6 = Vi (k' : Int)) s') aj ?_ ?_ ?_)
  ·exact ⟨s, (Zv _), hS, rfl, rfl, rfl⟩
  ·intro g aM q aH aQ ar ak c ax
   obtain ⟨o, y, t, l, n, m⟩ := ak
   refine Zc (Zd (Za rfl rfl (Zq rfl m n (Zb (Ze (Zc (W_true (Zx (decide_eq_true (by omega))) (W_skip (Ze (Zc (W_block (Zc (Zd (Za rfl rfl (Zm (v := Vi ((g : Int))) rfl m (Za rfl rfl (Zo (v := Vi ((g : Int))) rfl rfl (Zb (Ze (Zc ?_))))))))))))))))))))
   obtain ⟨j, d, c⟩ := Zg c
   refine W_mid (M := fun f' w' => (fun (j : Bool) => ∃ (ag : PHeap) , PHeap.le o ag ∧ St w0 ag (H) w' ∧ f' 0 = Value.string (a) ∧ f' 5 = Vi ((a.size : Int)) ∧ f' 6 = Vi ((g : Int)) ∧ f' 18 = Value.bool (j)) j) ?_ ?_
   ·refine Zd (Za rfl rfl (Zm (v := Value.string (a)) rfl l (Za rfl rfl (Zm (v := Vi ((g : Int))) rfl rfl ?_))))
    obtain ⟨ai, ac, d⟩ := Zg d
    refine Za rfl rfl (Exec.index_str Tryz.underlying9 rfl rfl rfl ac (Za rfl rfl (Zq rfl rfl rfl (Za rfl rfl (Zm (v := Value.bool (decide (ai < 32))) rfl rfl ?_)))))
    rcases ite_some d with ⟨b, d⟩ | ⟨b, d⟩
    ·refine WL_passes 5 (by rw [b]; rfl) ?_
     refine Zb (Ze ?_)
     have aB := Zu d
     subst j
     exact ⟨o, (Zv _), t, l, n, m, rfl⟩
    replace b := Zk b
    refine WL_run rfl (Zf rfl (Zx b)) rfl (Zm (v := Value.string (a)) rfl l (WL_run rfl (Zf rfl (Zx b)) rfl (Zm (v := Vi ((g : Int))) rfl rfl (WL_run rfl (Zf rfl (Zx b)) rfl (Exec.index_str Tryz.underlying9 rfl rfl rfl ac (WL_run rfl (Zf rfl (Zx b)) rfl (Exec.gtr rfl rfl rfl (Za rfl rfl (Exec.pick_f (v := Value.bool (decide (126 < ai))) rfl (Zx b) rfl (Zb (Ze ?_)))))))))))
    have aC := Zu d
    subst j
    exact ⟨o, (Zv _), t, l, n, m, rfl⟩
   intro aI aR am
   obtain ⟨ah, z, u, a1, a2, a3, aa⟩ := am
   refine (Ze ?_)
   rcases ite_some c with ⟨i, c⟩ | ⟨i, c⟩
   ·refine W_cond_t aa i (Zc (Zd (Za rfl rfl (Zo (v := Value.bool (false)) rfl rfl (Zb (Ze (W_ret (ib_ret (at_ret (at_ret (ib_ret (at_ret (at_ret ?_)))))))))))))
    have aD := Zu c
    subst q
    have av := aw _ (ax (by intro _ h; cases h))
    have aE := Zu av
    subst r
    refine ⟨_, ret1 rfl, ?_⟩
    exact ⟨ah, (Zt y z), u, rfl⟩
   refine W_cond_f aa i ?_
   replace i := Zk i
   refine W_skip (ib_normal (Ze (Zd (Za rfl rfl (Exec.add rfl a3 rfl (Za rfl rfl (Zm (v := Vi (IntKind.i64.wrap ((g : Int) + 1))) rfl rfl (Zb (Ze ?_)))))))))
   have aF := Zu c
   subst q
   refine ⟨_, rfl, ?_⟩; exact ⟨ah, (Zt y z), u, a1, a2, (Eq.trans rfl (wrap_up ar (by have h := must_some a6; simp at h; simp only [maxLen]; omega)))⟩
  intro aN aJ aS al ay
  obtain ⟨a7, az, ao, a4, ab, a9⟩ := al
  refine Zc (Zd (Za rfl rfl (Zq rfl a9 ab (Zb (Ze (Zc (W_false (Zx (decide_eq_false (by omega))) (W_exit (at_exit (at_exit (ib_here (Ze ?_))))))))))))
  refine ⟨_, .inl ay, ?_⟩; exact ⟨a7, az, ao, a4, ab⟩
 rintro aK aT ⟨aO, x, an⟩
 have hm := x.elim (au _) (aq _)
 clear x
 obtain ⟨a8, a0, ap, a5, aL⟩ := an
 refine (Ze (Zc (Zd (Za rfl rfl (Zm (v := Value.string (a)) rfl a5 (Za rfl rfl (Exec.len_str Tryz.underlying9 rfl rfl (Za rfl rfl (Exec.leq rfl rfl rfl (Za rfl rfl (Zo (v := Value.bool (decide ((a.size : Int) ≤ 256))) rfl rfl (Zb (Ze (W_ret ?_))))))))))))))
 have aG := Zu hm
 subst r
 refine ⟨_, ret1 rfl, ?_⟩
 exact ⟨a8, a0, ap, rfl⟩
theorem F63_2 : tyField Tryz.prog 63 2 = some 2 := by kernel_rfl
theorem A81 : tyAgg Tryz.prog 81 = some (true, 5) := by kernel_rfl
theorem Z81 : tyZero Tryz.prog 81 = some (Value.agg #[Value.slice none 0 0, Value.slice none 0 0, Value.slice none 0 0, Vi (0), Value.bool false]) := by kernel_rfl
theorem F81_1 : tyField Tryz.prog 81 1 = some 3 := by kernel_rfl
theorem F81_0 : tyField Tryz.prog 81 0 = some 0 := by kernel_rfl
theorem F63_4 : tyField Tryz.prog 63 4 = some 6 := by kernel_rfl
theorem A61 : tyAgg Tryz.prog 61 = some (false, 1) := by kernel_rfl
theorem S61 : tySlice Tryz.prog 61 = some (109, 4, 56) := by kernel_rfl
theorem A109 : tyAgg Tryz.prog 109 = some (true, 4) := by kernel_rfl
theorem Z109 : tyZero Tryz.prog 109 = some (Value.agg #[Vi (0), Value.string ⟨#[]⟩, Vi (0), Value.slice none 0 0]) := by kernel_rfl
theorem F109_0 : tyField Tryz.prog 109 0 = some 0 := by kernel_rfl
theorem Z4 : tyZero Tryz.prog 4 = some (Value.bool false) := by kernel_rfl
theorem F109_1 : tyField Tryz.prog 109 1 = some 1 := by kernel_rfl
theorem ground_operator_sim {w0 w : World} {s : PHeap} {H : List Res} {fu : Nat} {aw : Ground} {a : GOp} {j : Value} {l : Value} {m : Value} {n : Value} {o : Value} {ao : Value} {ap : Value} {aq : Value} {ac : Value} {ad : Value} {r : Bool} (hm : ground_operator_p fu aw a = some r) (hS : St w0 s (H) w) (aJ : SliceRep encAtom s j aw.Atoms) (aA : SliceRep encGFluent s l aw.Fluents) (aT : SliceRep (encInt .i64) s m aw.Init) (aU : SliceRep encCond s n aw.Goal) (aV : SliceRep encGOp s o aw.Ops) (b8 : SliceRep (encInt .i64) s ao a.Pre.Pos) (b9 : SliceRep (encInt .i64) s ap a.Pre.Neg) (bA : SliceRep encGTest s aq a.Pre.Tests) (aB : SliceRep encGChange s ac a.Changes) (aK : SliceRep encGAssign s ad a.Assigns) :
  Calls Tryz.prog 39 #[Value.agg #[j, l, m, n, o], Value.agg #[Value.string (a.Name), Vi (a.Cost), ao, ap, aq, ac, ad]] w fun e w' => ∃ v, e = .returned v ∧ ((fun (cY : Bool) => ∃ (bx : PHeap) , PHeap.le s bx ∧ St w0 bx (H) w' ∧ v = Value.bool (cY)) r) := by
 unfold ground_operator_p at hm
 refine calls_of_W Tryz.func39 rfl rfl (Zc (Zd (Za rfl rfl (Exec.box (cs := [j, l, m, n, o]) hS rfl rfl rfl ?_))))
 intro g dP bO
 refine Za rfl rfl (Exec.box (cs := [Value.string (a.Name), Vi (a.Cost), ao, ap, aq, ac, ad]) bO rfl rfl rfl ?_)
 intro aj dQ ak
 refine Za rfl rfl (Zo (v := Value.bool (false)) rfl rfl (Zb (Ze (Zc (Zc ?_)))))
 obtain ⟨ar, b, hm⟩ := Zg hm
 refine W_mid (M := fun f' w' => (fun (ar : Bool) => ∃ (bz : PHeap) , PHeap.le s bz ∧ St w0 bz (Res.box g 28 [j, l, m, n, o] :: Res.box aj 63 [Value.string (a.Name), Vi (a.Cost), ao, ap, aq, ac, ad] :: H) w' ∧ f' 2 = Value.pointer (some ⟨g, 0, none⟩) ∧ f' 3 = Value.pointer (some ⟨aj, 0, none⟩) ∧ f' 36 = Value.bool (ar)) ar) ?_ ?_
 ·refine Zd (Za rfl rfl (Zp F63_3 rfl rfl rfl (Za rfl rfl (Zn (ak) A60 rfl rfl rfl (Za rfl rfl (Zr S60 rfl rfl aB (Za rfl rfl (Exec.gtr rfl rfl rfl (Za rfl rfl (Zm (v := Value.bool (decide (256 < (a.Changes.length : Int)))) rfl rfl ?_))))))))))
  rcases ite_some b with ⟨am, b⟩ | ⟨am, b⟩
  ·refine WL_passes 22 (by rw [am]; rfl) ?_
   refine Zb (Ze ?_)
   have df := Zu b
   subst ar
   exact ⟨s, (Zv _), (ak).f1, rfl, rfl, rfl⟩
  replace am := Zk am
  refine WL_run rfl (Zf rfl (Zx am)) rfl (Zp F63_1 rfl rfl rfl (WL_run rfl (Zf rfl (Zx am)) rfl (Zn (ak) A3 rfl rfl rfl (WL_run rfl (Zf rfl (Zx am)) rfl (Zq rfl rfl rfl ?_)))))
  refine WL_passes 2 (by rw [am]; rfl) ?_
  rcases ite_some b with ⟨an, b⟩ | ⟨an, b⟩
  ·refine WL_passes 17 (by rw [an]; rfl) ?_
   refine Zb (Ze ?_)
   have dg := Zu b
   subst ar
   exact ⟨s, (Zv _), (ak).f1, rfl, rfl, rfl⟩
  replace an := Zk an
  refine WL_run rfl (Zf rfl (Zx an)) rfl (Zp F63_1 rfl rfl rfl (WL_run rfl (Zf rfl (Zx an)) rfl (Zn (ak) A3 rfl rfl rfl (WL_run rfl (Zf rfl (Zx an)) rfl (Exec.gtr rfl rfl rfl ?_)))))
  refine WL_passes 2 (by rw [an]; rfl) ?_
  rcases ite_some b with ⟨af, b⟩ | ⟨af, b⟩
  ·refine WL_passes 12 (by rw [af]; rfl) ?_
   refine Zb (Ze ?_)
   have dh := Zu b
   subst ar
   exact ⟨s, (Zv _), (ak).f1, rfl, rfl, rfl⟩
  replace af := Zk af
  refine WL_run rfl (Zf rfl (Zx af)) rfl (Zp F63_0 rfl rfl rfl (WL_run rfl (Zf rfl (Zx af)) rfl (Zn (ak) A9 rfl rfl rfl ?_)))
  obtain ⟨ek, cF, b⟩ := Zg b
  refine WL_run rfl (Zf rfl (Zx af)) rfl (Tc rfl rfl rfl (Zi rfl args_nil) (ground_named_sim cF ak ).r ?_)
  rintro _ dR ⟨cP, ab, aC, rfl⟩
  refine WL_run rfl (Zf rfl (Zx af)) rfl (Exec.not rfl rfl ?_)
  refine WL_passes 2 (by rw [af]; rfl) ?_
  rcases ite_some b with ⟨z, b⟩ | ⟨z, b⟩
  ·refine WL_passes 6 (by rw [z]; rfl) ?_
   refine Zb (Ze ?_)
   have di := Zu b
   subst ar
   exact ⟨cP, ab, (aC).f1, rfl, rfl, rfl⟩
  replace z := Zk z
  refine WL_run rfl (Zf rfl (Zx z)) rfl (Exec.load_box_agg (ds := [j, l, m, n, o]) ((aC).f1) A28 rfl rfl rfl (WL_run rfl (Zf rfl (Zx z)) rfl (Zp F63_2 rfl rfl rfl (WL_run rfl (Zf rfl (Zx z)) rfl (Exec.load_box_agg (ds := [ao, ap, aq]) (aC) A59 rfl rfl rfl ?_)))))
  obtain ⟨cZ, cG, b⟩ := Zg b
  refine WL_run rfl (Zf rfl (Zx z)) rfl (Tc rfl rfl rfl (Zi rfl (Zi rfl args_nil)) (ground_condition_sim cG aC (aJ.mono ab) (aA.mono ab) (aT.mono ab) (aU.mono ab) (aV.mono ab) (b8.mono ab) (b9.mono ab) (bA.mono ab)).r ?_)
  rintro _ dS ⟨cQ, cp, bP, rfl⟩
  refine WL_run rfl (Zf rfl (Zx z)) rfl (Exec.not rfl rfl (Za rfl rfl (Exec.pick_f (v := Value.bool (!cZ)) rfl (Zx z) rfl (Zb (Ze ?_)))))
  have dj := Zu b
  subst ar
  exact ⟨cQ, (Zt ab cp), (bP).f1, rfl, rfl, rfl⟩
 intro d1 dT bJ
 obtain ⟨aG, c, aL, cw, bm, bn⟩ := bJ
 refine (Ze ?_)
 rcases ite_some hm with ⟨a0, hm⟩ | ⟨a0, hm⟩
 ·refine W_cond_t bn a0 (Zc (Zd (Za rfl rfl (Zo (v := Value.bool (false)) rfl rfl (Zb (Ze (W_ret (at_ret ?_))))))))
  have dk := Zu hm
  subst r
  refine ⟨_, ret1 rfl, ?_⟩
  exact ⟨aG, c, ((aL).drop).drop, rfl⟩
 refine W_cond_f bn a0 ?_
 replace a0 := Zk a0
 refine W_skip (Ze (Zc (Zc (Zd (Za rfl rfl (Zp F63_3 rfl bm rfl (Za rfl rfl (Zn ((aL).f1) A60 rfl rfl rfl (Za rfl rfl (Zr S60 rfl rfl (aB.mono c) (Za rfl rfl (Zm (v := Vi (0)) rfl rfl (Zb (Ze ?_))))))))))))))
 obtain ⟨aX, bD, cj, cf, cb⟩ := ctl_some hm
 refine W_mid (M := fun f' w' => ∃ s', (aX = .next s' ∨ aX = .brk s') ∧ (fun (_ : Unit) => ∃ (b0 : PHeap) , PHeap.le aG b0 ∧ St w0 b0 (Res.box g 28 [j, l, m, n, o] :: Res.box aj 63 [Value.string (a.Name), Vi (a.Cost), ao, ap, aq, ac, ad] :: H) w' ∧ f' 2 = Value.pointer (some ⟨g, 0, none⟩) ∧ f' 3 = Value.pointer (some ⟨aj, 0, none⟩) ∧ f' 38 = ac ∧ f' 39 = Vi ((a.Changes.length : Int))) s') ?_ ?_
 ·refine W_block (W_forC (fun k' s' f' w' => (fun (_ : Unit) => ∃ (b1 : PHeap) , PHeap.le aG b1 ∧ St w0 b1 (Res.box g 28 [j, l, m, n, o] :: Res.box aj 63 [Value.string (a.Name), Vi (a.Cost), ao, ap, aq, ac, ad] :: H) w' ∧ f' 2 = Value.pointer (some ⟨g, 0, none⟩) ∧ f' 3 = Value.pointer (some ⟨aj, 0, none⟩) ∧ f' 38 = ac ∧ f' 39 = Vi ((a.Changes.length : Int)) ∧ f' 40 = Vi (k' : Int)) s') bD ?_ ?_ ?_)
  ·have bQ := (aL).f1
   exact ⟨aG, (Zv _), (bQ).f1, cw, bm, rfl, rfl, rfl⟩
  ·intro bh dK aY d2 dU cd bF ah cl
   obtain ⟨aO, ai, bb, a4, aN, aE, aF, a8⟩ := bF
   refine Zc (Zd (Za rfl rfl (Zq rfl a8 aF (Zb (Ze (Zc (W_true (Zx (decide_eq_true (by omega))) (W_skip (Ze (Zc (W_block (Zc (Zd ?_)))))))))))))
   obtain ⟨a9, cH, ah⟩ := Zg ah
   refine Za rfl rfl (Exec.index_rep S60 rfl aE a8 (aB.mono (Zt c ai)) cH ?_)
   intro dc dB bB
   refine Za rfl rfl (Zw (E := encGChange) bb A81 rfl rfl rfl bB ?_)
   intro dN cI
   obtain ⟨aQ, aR, aS, rfl, bt, bu, bv⟩ := encGChange_val.1 cI
   refine Za rfl rfl (Exec.alloc (cs := [Value.slice none 0 0, Value.slice none 0 0, Value.slice none 0 0, Vi (0), Value.bool (false)]) bb Z81 rfl rfl ?_)
   intro dd dV bR
   refine Za rfl rfl (Exec.store_box (ds := [aQ, aR, aS, Vi (a9.Atom), Value.bool (a9.Add)]) (es := [aQ, aR, aS, Vi (a9.Atom), Value.bool (a9.Add)]) bR A81 rfl rfl rfl rfl (Zj (bt).one (Zj (bu).one (Zj (bv).one (Zj rfl (Zj rfl one_nil))))) (Nat.le_of_ble_eq_true rfl) rfl ?_)
   intro dW al
   refine Zb (Ze (Zc ?_))
   obtain ⟨az, y, ah⟩ := Zg ah
   refine W_mid (M := fun f' w' => (fun (az : Bool) => ∃ (b2 : PHeap) , PHeap.le aO b2 ∧ St w0 b2 (Res.box g 28 [j, l, m, n, o] :: Res.box aj 63 [Value.string (a.Name), Vi (a.Cost), ao, ap, aq, ac, ad] :: H) w' ∧ f' 2 = Value.pointer (some ⟨g, 0, none⟩) ∧ f' 3 = Value.pointer (some ⟨aj, 0, none⟩) ∧ f' 38 = ac ∧ f' 39 = Vi ((a.Changes.length : Int)) ∧ f' 40 = Vi ((bh : Int)) ∧ f' 61 = Value.bool (az)) az) ?_ ?_
   ·refine Zd (Za rfl rfl (Zp F81_1 rfl rfl rfl (Za rfl rfl (Zn (al) A3 rfl rfl rfl (Za rfl rfl (Zq rfl rfl rfl (Za rfl rfl (Zm (v := Value.bool (decide (a9.Atom < 0))) rfl rfl ?_))))))))
    rcases ite_some y with ⟨t, y⟩ | ⟨t, y⟩
    ·refine WL_passes 14 (by rw [t]; rfl) ?_
     refine Zb (Ze ?_)
     have dl := Zu y
     subst az
     exact ⟨aO, (Zv _), (((al).drop).f1).f1, a4, aN, aE, aF, a8, rfl⟩
    replace t := Zk t
    refine WL_run rfl (Zf rfl (Zx t)) rfl (Zp F81_1 rfl rfl rfl (WL_run rfl (Zf rfl (Zx t)) rfl (Zn (al) A3 rfl rfl rfl (WL_run rfl (Zf rfl (Zx t)) rfl (Zp F28_0 rfl a4 rfl (WL_run rfl (Zf rfl (Zx t)) rfl (Zn ((al).f1) A22 rfl rfl rfl (WL_run rfl (Zf rfl (Zx t)) rfl (Zr S22 rfl rfl (aJ.mono (Zt c ai)) (WL_run rfl (Zf rfl (Zx t)) rfl (Exec.geq rfl rfl rfl ?_)))))))))))
    refine WL_passes 2 (by rw [t]; rfl) ?_
    rcases ite_some y with ⟨aa, y⟩ | ⟨aa, y⟩
    ·refine WL_passes 6 (by rw [aa]; rfl) ?_
     refine Zb (Ze ?_)
     have dm := Zu y
     subst az
     exact ⟨aO, (Zv _), (((al).drop).f1).f1, a4, aN, aE, aF, a8, rfl⟩
    replace aa := Zk aa
    refine WL_run rfl (Zf rfl (Zx aa)) rfl (Exec.load_box_agg (ds := [j, l, m, n, o]) ((al).f1) A28 rfl a4 rfl (WL_run rfl (Zf rfl (Zx aa)) rfl (Zp F81_0 rfl rfl rfl (WL_run rfl (Zf rfl (Zx aa)) rfl (Exec.load_box_agg (ds := [aQ, aR, aS]) (al) A59 rfl rfl rfl ?_)))))
    obtain ⟨da, cJ, y⟩ := Zg y
    refine WL_run rfl (Zf rfl (Zx aa)) rfl (Tc rfl rfl rfl (Zi rfl (Zi rfl args_nil)) (ground_condition_sim cJ al (aJ.mono (Zt c ai)) (aA.mono (Zt c ai)) (aT.mono (Zt c ai)) (aU.mono (Zt c ai)) (aV.mono (Zt c ai)) bt bu bv).r ?_)
    rintro _ dX ⟨cR, cq, bS, rfl⟩
    refine WL_run rfl (Zf rfl (Zx aa)) rfl (Exec.not rfl rfl (Za rfl rfl (Exec.pick_f (v := Value.bool (!da)) rfl (Zx aa) rfl (Zb (Ze ?_)))))
    have dn := Zu y
    subst az
    exact ⟨cR, cq, (((bS).drop).f1).f1, a4, aN, aE, aF, a8, rfl⟩
   intro d3 dY bK
   obtain ⟨b3, bj, bc, cx, cy, cz, c0, c1, bo⟩ := bK
   refine (Ze ?_)
   rcases ite_some ah with ⟨a1, ah⟩ | ⟨a1, ah⟩
   ·refine W_cond_t bo a1 (Zc (Zd (Za rfl rfl (Zo (v := Value.bool (false)) rfl rfl (Zb (Ze (W_ret (ib_ret (at_ret (at_ret (ib_ret (at_ret (at_ret ?_)))))))))))))
    have dp := Zu ah
    subst aY
    have ch := cj _ (cl (by intro _ h; cases h))
    have dq := Zu ch
    subst r
    refine ⟨_, ret1 rfl, ?_⟩
    exact ⟨b3, (Zt (Zt c ai) bj), ((bc).drop).drop, rfl⟩
   refine W_cond_f bo a1 ?_
   replace a1 := Zk a1
   refine W_skip (ib_normal (Ze (Zd (Za rfl rfl (Exec.add rfl c1 rfl (Za rfl rfl (Zm (v := Vi (IntKind.i64.wrap ((bh : Int) + 1))) rfl rfl (Zb (Ze ?_)))))))))
   have dr := Zu ah
   subst aY
   refine ⟨_, rfl, ?_⟩; exact ⟨b3, (Zt ai bj), ((bc).f1).f1, cx, cy, cz, c0, (Eq.trans rfl (wrap_up cd (SliceRep.le (aB.mono c))))⟩
  intro dL d4 dZ bG cm
  obtain ⟨cS, cr, bT, c2, c3, c4, bp, cW⟩ := bG
  refine Zc (Zd (Za rfl rfl (Zq rfl cW bp (Zb (Ze (Zc (W_false (Zx (decide_eq_false (by omega))) (W_exit (at_exit (at_exit (ib_here (Ze ?_))))))))))))
  refine ⟨_, .inl cm, ?_⟩; exact ⟨cS, cr, ((bT).f1).f1, c2, c3, c4, bp⟩
 rintro d5 ea ⟨dM, bf, bL⟩
 have hm := bf.elim (cf _) (cb _)
 clear bf
 obtain ⟨aP, au, bU, c5, c6, dD, dE⟩ := bL
 refine (Ze (Zc (Zd (Za rfl rfl (Exec.make_bmap (k := 3) (e := 4) bU rfl ?_)))))
 intro ae eb bd
 refine Za rfl rfl (Zo (v := Value.map (some ae)) rfl rfl (Zb (Ze (Zc (Zc (Zd (Za rfl rfl (Zp F63_4 rfl c6 rfl (Za rfl rfl (Zn ((bd).f2) A61 rfl rfl rfl (Za rfl rfl (Zr S61 rfl rfl (aK.mono (Zt c au)) (Za rfl rfl (Zm (v := Vi (0)) rfl rfl (Zb (Ze ?_))))))))))))))))
 obtain ⟨aZ, bE, ck, cg, cc⟩ := ctl_some hm
 refine W_mid (M := fun f' w' => ∃ s', (aZ = .next s' ∨ aZ = .brk s') ∧ (fun (bk : BMap) => ∃ (b4 : PHeap) , PHeap.le aP b4 ∧ St w0 b4 (Res.box g 28 [j, l, m, n, o] :: Res.bmap Tryz.prog 3 4 ae bk :: H) w' ∧ f' 2 = Value.pointer (some ⟨g, 0, none⟩) ∧ f' 7 = Value.map (some ae) ∧ f' 65 = ad ∧ f' 66 = Vi ((a.Assigns.length : Int))) s') ?_ ?_
 ·refine W_block (W_forC (fun k' s' f' w' => (fun (aD : BMap) => ∃ (b5 : PHeap) , PHeap.le aP b5 ∧ St w0 b5 (Res.box g 28 [j, l, m, n, o] :: Res.bmap Tryz.prog 3 4 ae aD :: H) w' ∧ f' 2 = Value.pointer (some ⟨g, 0, none⟩) ∧ f' 7 = Value.map (some ae) ∧ f' 65 = ad ∧ f' 66 = Vi ((a.Assigns.length : Int)) ∧ f' 67 = Vi (k' : Int)) s') bE ?_ ?_ ?_)
  ·have bV := ((bd).f2).drop
   exact ⟨aP, (Zv _), (bV).f1, c5, rfl, rfl, rfl, rfl⟩
  ·intro bi aD ba d6 ec ce bH x cn
   obtain ⟨aH, a3, be, ax, a5, a6, a7, ay⟩ := bH
   refine Zc (Zd (Za rfl rfl (Zq rfl ay a7 (Zb (Ze (Zc (W_true (Zx (decide_eq_true (by omega))) (W_skip (Ze (Zc (W_block (Zc (Zd ?_)))))))))))))
   obtain ⟨p, cK, x⟩ := Zg x
   refine Za rfl rfl (Exec.index_rep S61 rfl a6 ay (aK.mono (Zt (Zt c au) a3)) cK ?_)
   intro de dC bC
   refine Za rfl rfl (Zw (E := encGAssign) be A109 rfl rfl rfl bC ?_)
   intro dO cL
   obtain ⟨aI, rfl, bw⟩ := encGAssign_val.1 cL
   refine Za rfl rfl (Exec.alloc (cs := [Vi (0), Value.string (⟨#[]⟩), Vi (0), Value.slice none 0 0]) be Z109 rfl rfl ?_)
   intro aW ed bW
   refine Za rfl rfl (Exec.store_box (ds := [Vi (p.Fluent), Value.string (p.Value.Op), Vi (p.Value.N), aI]) (es := [Vi (p.Fluent), Value.string (p.Value.Op), Vi (p.Value.N), aI]) bW A109 rfl rfl rfl rfl (Zj rfl (Zj rfl (Zj rfl (Zj (bw).one one_nil)))) (Nat.le_of_ble_eq_true rfl) rfl ?_)
   intro ee q
   refine Zb (Ze (Zc (Zc ?_)))
   obtain ⟨av, d, x⟩ := Zg x
   refine W_mid (M := fun f' w' => (fun (av : Bool) => ∃ (b6 : PHeap) , PHeap.le aH b6 ∧ St w0 b6 (Res.box g 28 [j, l, m, n, o] :: Res.bmap Tryz.prog 3 4 ae aD :: Res.box aW 109 [Vi (p.Fluent), Value.string (p.Value.Op), Vi (p.Value.N), aI] :: H) w' ∧ f' 2 = Value.pointer (some ⟨g, 0, none⟩) ∧ f' 7 = Value.map (some ae) ∧ f' 9 = Value.pointer (some ⟨aW, 0, none⟩) ∧ f' 65 = ad ∧ f' 66 = Vi ((a.Assigns.length : Int)) ∧ f' 67 = Vi ((bi : Int)) ∧ f' 96 = Value.bool (av)) av) ?_ ?_
   ·refine Zd (Za rfl rfl (Zp F109_0 rfl rfl rfl (Za rfl rfl (Zn (q) A3 rfl rfl rfl (Za rfl rfl (Zq rfl rfl rfl (Za rfl rfl (Zm (v := Value.bool (decide (p.Fluent < 0))) rfl rfl ?_))))))))
    rcases ite_some d with ⟨u, d⟩ | ⟨u, d⟩
    ·refine WL_passes 22 (by rw [u]; rfl) ?_
     refine Zb (Ze ?_)
     have dt := Zu d
     subst av
     exact ⟨aH, (Zv _), ((q).f2).f2, ax, a5, rfl, a6, a7, ay, rfl⟩
    replace u := Zk u
    refine WL_run rfl (Zf rfl (Zx u)) rfl (Zp F109_0 rfl rfl rfl (WL_run rfl (Zf rfl (Zx u)) rfl (Zn (q) A3 rfl rfl rfl (WL_run rfl (Zf rfl (Zx u)) rfl (Zp F28_1 rfl ax rfl (WL_run rfl (Zf rfl (Zx u)) rfl (Zn ((q).f1) A23 rfl rfl rfl (WL_run rfl (Zf rfl (Zx u)) rfl (Zr S23 rfl rfl (aA.mono (Zt (Zt c au) a3)) (WL_run rfl (Zf rfl (Zx u)) rfl (Exec.geq rfl rfl rfl ?_)))))))))))
    refine WL_passes 2 (by rw [u]; rfl) ?_
    rcases ite_some d with ⟨ag, d⟩ | ⟨ag, d⟩
    ·refine WL_passes 14 (by rw [ag]; rfl) ?_
     refine Zb (Ze ?_)
     have du := Zu d
     subst av
     exact ⟨aH, (Zv _), ((q).f2).f2, ax, a5, rfl, a6, a7, ay, rfl⟩
    replace ag := Zk ag
    refine WL_run rfl (Zf rfl (Zx ag)) rfl (Zm (v := Value.map (some ae)) rfl a5 (WL_run rfl (Zf rfl (Zx ag)) rfl (Zp F109_0 rfl rfl rfl (WL_run rfl (Zf rfl (Zx ag)) rfl (Zn (q) A3 rfl rfl rfl ?_)))))
    obtain ⟨dJ, cM, d⟩ := Zg d
    refine WL_run rfl (Zf rfl (Zx ag)) rfl (Exec.bmap_get ((q).f2) ⟨Tryz.underlying34, Tryz.underlying3, Tryz.underlying4⟩ Z4 rfl rfl rfl cM ?_)
    refine WL_passes 2 (by rw [ag]; rfl) ?_
    rcases ite_some d with ⟨i, d⟩ | ⟨i, d⟩
    ·refine WL_passes 8 (by rw [i]; rfl) ?_
     refine Zb (Ze ?_)
     have dv := Zu d
     subst av
     exact ⟨aH, (Zv _), ((q).f2).f2, ax, a5, rfl, a6, a7, ay, rfl⟩
    replace i := Zk i
    refine WL_run rfl (Zf rfl (Zx i)) rfl (Zp F109_1 rfl rfl rfl (WL_run rfl (Zf rfl (Zx i)) rfl (Exec.load_box_agg (ds := [Value.string (p.Value.Op), Vi (p.Value.N), aI]) (q) A102 rfl rfl rfl (WL_run rfl (Zf rfl (Zx i)) rfl (Zp F28_1 rfl ax rfl (WL_run rfl (Zf rfl (Zx i)) rfl (Zn ((q).f1) A23 rfl rfl rfl (WL_run rfl (Zf rfl (Zx i)) rfl (Zr S23 rfl rfl (aA.mono (Zt (Zt c au) a3)) ?_)))))))))
    obtain ⟨db, cN, d⟩ := Zg d
    refine WL_run rfl (Zf rfl (Zx i)) rfl (Tc rfl rfl rfl (Zi rfl (Zi rfl args_nil)) (ground_right_sim cN q bw).r ?_)
    rintro _ ef ⟨cT, ct, bX, rfl⟩
    refine WL_run rfl (Zf rfl (Zx i)) rfl (Exec.not rfl rfl (Za rfl rfl (Exec.pick_f (v := Value.bool (!db)) rfl (Zx i) rfl (Zb (Ze ?_)))))
    have dw := Zu d
    subst av
    exact ⟨cT, ct, ((bX).f2).f2, ax, a5, rfl, a6, a7, ay, rfl⟩
   intro d7 eg bM
   obtain ⟨b7, bl, aM, c7, bq, c8, c9, cA, cB, br⟩ := bM
   refine (Ze ?_)
   rcases ite_some x with ⟨a2, x⟩ | ⟨a2, x⟩
   ·refine W_cond_t br a2 (Zc (Zd (Za rfl rfl (Zo (v := Value.bool (false)) rfl rfl (Zb (Ze (W_ret (at_ret (ib_ret (at_ret (at_ret (ib_ret (at_ret (at_ret ?_))))))))))))))
    have dx := Zu x
    subst ba
    have ci := ck _ (cn (by intro _ h; cases h))
    have dy := Zu ci
    subst r
    refine ⟨_, ret1 rfl, ?_⟩
    exact ⟨b7, (Zt (Zt (Zt c au) a3) bl), (((aM).drop).drop).drop, rfl⟩
   refine W_cond_f br a2 ?_
   replace a2 := Zk a2
   refine W_skip (Ze (Zd (Za rfl rfl (Zm (v := Value.map (some ae)) rfl bq (Za rfl rfl (Zp F109_0 rfl c8 rfl (Za rfl rfl (Zn ((aM).f2) A3 rfl rfl rfl ?_))))))))
   obtain ⟨dA, cO, x⟩ := Zg x
   refine Za rfl rfl (Exec.bmap_put (aM).f1 ⟨Tryz.underlying34, Tryz.underlying3, Tryz.underlying4⟩ rfl rfl rfl rfl cO ?_)
   intro eh bY
   refine Zb (ib_normal (Ze (Zd (Za rfl rfl (Exec.add rfl cB rfl (Za rfl rfl (Zm (v := Vi (IntKind.i64.wrap ((bi : Int) + 1))) rfl rfl (Zb (Ze ?_)))))))))
   have dz := Zu x
   subst ba
   refine ⟨_, rfl, ?_⟩; exact ⟨b7, (Zt a3 bl), (((bY).f2).drop).f1, c7, bq, c9, cA, (Eq.trans rfl (wrap_up ce (SliceRep.le (aK.mono (Zt c au)))))⟩
  intro aD d8 ei bI co
  obtain ⟨cU, cu, bZ, cC, cD, cE, bs, cX⟩ := bI
  refine Zc (Zd (Za rfl rfl (Zq rfl cX bs (Zb (Ze (Zc (W_false (Zx (decide_eq_false (by omega))) (W_exit (at_exit (at_exit (ib_here (Ze ?_))))))))))))
  refine ⟨_, .inl co, ?_⟩; exact ⟨cU, cu, ((bZ).f1).f1, cC, cD, cE, bs⟩
 rintro d9 ej ⟨bk, bg, bN⟩
 have hm := bg.elim (cg _) (cc _)
 clear bg
 obtain ⟨cV, cv, ca, dF, dG, dH, dI⟩ := bN
 refine (Ze (Zc (Zd (Za rfl rfl (Zo (v := Value.bool (true)) rfl rfl (Zb (Ze (W_ret ?_))))))))
 have d0 := Zu hm
 subst r
 refine ⟨_, ret1 rfl, ?_⟩
 exact ⟨cV, (Zt (Zt c au) cv), ((ca).drop).drop, rfl⟩
theorem N38 : (Tryz.f38.name == "runtime.NumGoroutine") = false := by kernel_rfl
theorem ground_Valid_c3_sim {w0 w : World} {s : PHeap} {H : List Res} {fu : Nat} {a : GOp} {j : Ground} {b : Value} {c : Value} {d : Value} {f : Value} {g : Value} {i k : Nat} {r : Bool} (hm : ground_Valid_c3_p fu a j = some r) (hS : St w0 s (H) w) (m : SliceRep (encInt .i64) s b a.Pre.Pos) (n : SliceRep (encInt .i64) s c a.Pre.Neg) (o : SliceRep encGTest s d a.Pre.Tests) (p : SliceRep encGChange s f a.Changes) (q : SliceRep encGAssign s g a.Assigns) (t : At s i k encGround j) :
  Calls Tryz.prog 38 #[Value.agg #[Value.string (a.Name), Vi (a.Cost), b, c, d, f, g], Value.pointer (some ⟨i, k, none⟩)] w fun e w' => ∃ v, e = .returned v ∧ ((fun (ag : Bool) => ∃ (l : PHeap) , PHeap.le s l ∧ St w0 l (H) w' ∧ v = Value.bool (ag)) r) := by
 unfold ground_Valid_c3_p at hm
 refine calls_of_W Tryz.func38 rfl rfl (Zc (Zd (Za rfl rfl (Exec.box (cs := [Value.string (a.Name), Vi (a.Cost), b, c, d, f, g]) hS rfl rfl rfl ?_))))
 intro ai aq h
 refine Za rfl rfl (Zo (v := Value.bool (false)) rfl rfl (Zb (Ze (Zc (Zd (Za rfl rfl (Zw (E := encGround) h A28 rfl rfl rfl t ?_)))))))
 intro ap y
 obtain ⟨ak, al, am, an, ao, rfl, aa, ab, ac, ad, ae⟩ := encGround_val.1 y
 refine Za rfl rfl (Exec.load_box_agg (ds := [Value.string (a.Name), Vi (a.Cost), b, c, d, f, g]) (h) A63 rfl rfl rfl ?_)
 obtain ⟨ah, z, hm⟩ := Zg hm
 refine Za rfl rfl (Tc rfl rfl rfl (Zi rfl (Zi rfl args_nil)) (ground_operator_sim z h aa ab ac ad ae m n o p q).r ?_)
 rintro _ ar ⟨af, x, u, rfl⟩
 refine Za rfl rfl (Exec.not rfl rfl (Za rfl rfl (Zo (v := Value.bool (!ah)) rfl rfl (Zb (Ze (W_ret ?_))))))
 have aj := Zu hm
 subst r
 refine ⟨_, ret1 rfl, ?_⟩
 exact ⟨af, x, (u).drop, rfl⟩
theorem slices_IndexFunc_apiGOp_Valid_c3_sim {w0 w : World} {s : PHeap} {H : List Res} {fu : Nat} {l : (List GOp)} {o : Ground} {c : Value} {d i : Nat} {r : Int} (hm : slices_IndexFunc_apiGOp_Valid_c3_p fu l o = some r) (hS : St w0 s (H) w) (m : SliceRep encGOp s c l) (ah : At s d i encGround o) :
  Calls Tryz.prog 59 #[c, Value.func (.func 38) #[] #[Value.pointer (some ⟨d, i, none⟩)]] w fun e w' => ∃ v, e = .returned v ∧ ((fun (aD : Int) => ∃ (ad : PHeap) , PHeap.le s ad ∧ St w0 ad (H) w' ∧ v = Vi (aD)) r) := by
 unfold slices_IndexFunc_apiGOp_Valid_c3_p at hm
 refine calls_of_W Tryz.func59 rfl rfl (Zc (Zd (Za rfl rfl (Zo (v := Vi (0)) rfl rfl (Zb (Ze (Zc (Zc (Zd (Za rfl rfl (Zm (v := c) rfl rfl (Za rfl rfl (Zr S26 rfl rfl m (Za rfl rfl (Zm (v := Vi (0)) rfl rfl (Zb (Ze ?_)))))))))))))))))
 obtain ⟨p, aj, av, ar, ap⟩ := ctl_some hm
 refine W_mid (M := fun f' w' => ∃ s', (p = .next s' ∨ p = .brk s') ∧ (fun (_ : Unit) => ∃ (ae : PHeap) , PHeap.le s ae ∧ St w0 ae (H) w' ∧ f' 0 = c ∧ f' 1 = Value.func (.func 38) #[] #[Value.pointer (some ⟨d, i, none⟩)] ∧ f' 7 = Vi ((l.length : Int))) s') ?_ ?_
 ·refine W_block (W_forC (fun k' s' f' w' => (fun (_ : Unit) => ∃ (af : PHeap) , PHeap.le s af ∧ St w0 af (H) w' ∧ f' 0 = c ∧ f' 1 = Value.func (.func 38) #[] #[Value.pointer (some ⟨d, i, none⟩)] ∧ f' 7 = Vi ((l.length : Int)) ∧ f' 8 = Vi (k' : Int)) s') aj ?_ ?_ ?_)
  ·exact ⟨s, (Zv _), hS, rfl, rfl, rfl, rfl⟩
  ·intro b aR q aJ ba aq ak a aw
   obtain ⟨aQ, j, t, z, aa, ab, n⟩ := ak
   refine Zc (Zd (Za rfl rfl (Zq rfl n ab (Zb (Ze (Zc (W_true (Zx (decide_eq_true (by omega))) (W_skip (Ze (Zc (W_block (Zc (Zd (Za rfl rfl (Zm (v := Vi ((b : Int))) rfl n (Za rfl rfl (Zo (v := Vi ((b : Int))) rfl rfl (Zb (Ze (Zc (Zd (Za rfl rfl (Zm (v := Value.func (.func 38) #[] #[Value.pointer (some ⟨d, i, none⟩)]) rfl aa (Za rfl rfl (Zm (v := c) rfl z (Za rfl rfl (Zm (v := Vi ((b : Int))) rfl rfl ?_)))))))))))))))))))))))))))
   obtain ⟨be, a2, a⟩ := Zg a
   refine Za rfl rfl (Exec.index_rep S26 rfl rfl rfl (m.mono j) a2 ?_)
   intro aE aM ai
   refine Za rfl rfl (Zw (E := encGOp) t A63 rfl rfl rfl ai ?_)
   intro aZ a3
   obtain ⟨aU, aV, aW, aX, aY, rfl, a5, a6, a7, a8, a9⟩ := encGOp_val.1 a3
   obtain ⟨bf, a4, a⟩ := Zg a
   refine Za rfl rfl (Exec.callc rfl rfl Tryz.func38 rfl N38 (Zi rfl args_nil) rfl ((ground_Valid_c3_sim a4 t a5 a6 a7 a8 a9 (ah.mono j)).mono ?_))
   rintro _ bb ⟨_, rfl, ⟨ag, y, u, rfl⟩⟩
   refine ⟨_, rfl, ?_⟩
   refine Zb (Ze ?_)
   rcases ite_some a with ⟨g, a⟩ | ⟨g, a⟩
   ·refine W_cond_t rfl g (Zc (Zd (Za rfl rfl (Zm (v := Vi ((b : Int))) rfl rfl (Za rfl rfl (Zo (v := Vi ((b : Int))) rfl rfl (Zb (Ze (W_ret (ib_ret (at_ret (at_ret (ib_ret (at_ret (at_ret ?_)))))))))))))))
    have aF := Zu a
    subst q
    have au := av _ (aw (by intro _ h; cases h))
    have aG := Zu au
    subst r
    refine ⟨_, ret1 rfl, ?_⟩
    exact ⟨ag, (Zt j y), u, rfl⟩
   refine W_cond_f rfl g ?_
   replace g := Zk g
   refine W_skip (ib_normal (Ze (Zd (Za rfl rfl (Exec.add rfl n rfl (Za rfl rfl (Zm (v := Vi (IntKind.i64.wrap ((b : Int) + 1))) rfl rfl (Zb (Ze ?_)))))))))
   have aH := Zu a
   subst q
   refine ⟨_, rfl, ?_⟩; exact ⟨ag, (Zt j y), u, z, aa, ab, (Eq.trans rfl (wrap_up aq (SliceRep.le m)))⟩
  intro aS aK bc al ax
  obtain ⟨aA, ay, an, a0, a1, ac, aC⟩ := al
  refine Zc (Zd (Za rfl rfl (Zq rfl aC ac (Zb (Ze (Zc (W_false (Zx (decide_eq_false (by omega))) (W_exit (at_exit (at_exit (ib_here (Ze ?_))))))))))))
  refine ⟨_, .inl ax, ?_⟩; exact ⟨aA, ay, an, a0, a1, ac⟩
 rintro aL bd ⟨aT, x, am⟩
 have hm := x.elim (ar _) (ap _)
 clear x
 obtain ⟨aB, az, ao, aN, aO, aP⟩ := am
 refine (Ze (Zc (Zd (Za rfl rfl (Zo (v := Vi ((-1))) rfl rfl (Zb (Ze (W_ret ?_))))))))
 have aI := Zu hm
 subst r
 refine ⟨_, ret1 rfl, ?_⟩
 exact ⟨aB, az, ao, rfl⟩
theorem slices_ContainsFunc_apiGOp_Valid_c3_sim {w0 w : World} {s : PHeap} {H : List Res} {fu : Nat} {g : (List GOp)} {d : Ground} {c : Value} {a b : Nat} {r : Bool} (hm : slices_ContainsFunc_apiGOp_Valid_c3_p fu g d = some r) (hS : St w0 s (H) w) (h : SliceRep encGOp s c g) (i : At s a b encGround d) :
  Calls Tryz.prog 37 #[c, Value.func (.func 38) #[] #[Value.pointer (some ⟨a, b, none⟩)]] w fun e w' => ∃ v, e = .returned v ∧ ((fun (n : Bool) => ∃ (f : PHeap) , PHeap.le s f ∧ St w0 f (H) w' ∧ v = Value.bool (n)) r) := by
 unfold slices_ContainsFunc_apiGOp_Valid_c3_p at hm
 refine calls_of_W Tryz.func37 rfl rfl (Zc (Zd (Za rfl rfl (Zo (v := Value.bool (false)) rfl rfl (Zb (Ze (Zc (Zd (Za rfl rfl (Zm (v := c) rfl rfl (Za rfl rfl (Zm (v := Value.func (.func 38) #[] #[Value.pointer (some ⟨a, b, none⟩)]) rfl rfl ?_))))))))))))
 obtain ⟨o, l, hm⟩ := Zg hm
 refine Za rfl rfl (Tc rfl rfl rfl (Zi rfl (Zi rfl args_nil)) (slices_IndexFunc_apiGOp_Valid_c3_sim l hS h i).r ?_)
 rintro _ q ⟨m, k, j, rfl⟩
 refine Za rfl rfl (Exec.geq rfl rfl rfl (Za rfl rfl (Zo (v := Value.bool (decide (0 ≤ o))) rfl rfl (Zb (Ze (W_ret ?_))))))
 have p := Zu hm
 subst r
 refine ⟨_, ret1 rfl, ?_⟩
 exact ⟨m, k, j, rfl⟩
theorem ground_Valid_sim {w0 w : World} {s : PHeap} {H : List Res} {fu : Nat} {b : Ground} {aa : Value} {x : Value} {t : Value} {o : Value} {p : Value} {r : Bool} (hm : ground_Valid_p fu b = some r) (hS : St w0 s (H) w) (ad : SliceRep encAtom s aa b.Atoms) (ae : SliceRep encGFluent s x b.Fluents) (al : SliceRep (encInt .i64) s t b.Init) (af : SliceRep encCond s o b.Goal) (am : SliceRep encGOp s p b.Ops) :
  Calls Tryz.prog 17 #[Value.agg #[aa, x, t, o, p]] w fun e w' => ∃ v, e = .returned v ∧ ((fun (aE : Bool) => ∃ (ap : PHeap) , PHeap.le s ap ∧ St w0 ap (H) w' ∧ v = Value.bool (aE)) r) := by
 unfold ground_Valid_p at hm
 refine calls_of_W Tryz.func17 rfl rfl (Zc (Zd (Za rfl rfl (Exec.box (cs := [aa, x, t, o, p]) hS rfl rfl rfl ?_))))
 intro an aQ n
 refine Za rfl rfl (Zo (v := Value.bool (false)) rfl rfl (Zb (Ze (Zc (Zc (W_mid (M := fun f' w' => ∃ (aq : PHeap) , PHeap.le s aq ∧ St w0 aq (Res.box an 28 [aa, x, t, o, p] :: H) w' ∧ f' 1 = Value.pointer (some ⟨an, 0, none⟩) ∧ f' 24 = Value.bool (((decide (4096 < (b.Atoms.length : Int))) || ((decide (4096 < (b.Fluents.length : Int))) || ((decide (4096 < (b.Ops.length : Int))) || decide (64 < (b.Goal.length : Int))))))) ?_ ?_))))))
 ·refine Zd (Za rfl rfl (Zp F28_0 rfl rfl rfl (Za rfl rfl (Zn (n) A22 rfl rfl rfl (Za rfl rfl (Zr S22 rfl rfl ad (Za rfl rfl (Exec.gtr rfl rfl rfl (Za rfl rfl (Zm (v := Value.bool (decide (4096 < (b.Atoms.length : Int)))) rfl rfl ?_))))))))))
  by_cases c : (decide (4096 < (b.Atoms.length : Int))) = true
  ·refine WL_passes 17 (by rw [c]; rfl) ?_
   refine Zb (Ze ?_)
   exact ⟨s, (Zv _), n, rfl, (Zx (or_t c)).symm⟩
  replace c := Zk c
  refine WL_run rfl (Zf rfl (Zx c)) rfl (Zp F28_1 rfl rfl rfl (WL_run rfl (Zf rfl (Zx c)) rfl (Zn (n) A23 rfl rfl rfl (WL_run rfl (Zf rfl (Zx c)) rfl (Zr S23 rfl rfl ae (WL_run rfl (Zf rfl (Zx c)) rfl (Exec.gtr rfl rfl rfl ?_)))))))
  refine WL_passes 2 (by rw [c]; rfl) ?_
  by_cases g : (decide (4096 < (b.Fluents.length : Int))) = true
  ·refine WL_passes 11 (by rw [g]; rfl) ?_
   refine Zb (Ze ?_)
   exact ⟨s, (Zv _), n, rfl, (Zx (Eq.trans (or_f c) (or_t g))).symm⟩
  replace g := Zk g
  refine WL_run rfl (Zf rfl (Zx g)) rfl (Zp F28_4 rfl rfl rfl (WL_run rfl (Zf rfl (Zx g)) rfl (Zn (n) A26 rfl rfl rfl (WL_run rfl (Zf rfl (Zx g)) rfl (Zr S26 rfl rfl am (WL_run rfl (Zf rfl (Zx g)) rfl (Exec.gtr rfl rfl rfl ?_)))))))
  refine WL_passes 2 (by rw [g]; rfl) ?_
  by_cases j : (decide (4096 < (b.Ops.length : Int))) = true
  ·refine WL_passes 5 (by rw [j]; rfl) ?_
   refine Zb (Ze ?_)
   exact ⟨s, (Zv _), n, rfl, (Zx (Eq.trans (or_f c) (Eq.trans (or_f g) (or_t j)))).symm⟩
  replace j := Zk j
  refine WL_run rfl (Zf rfl (Zx j)) rfl (Zp F28_3 rfl rfl rfl (WL_run rfl (Zf rfl (Zx j)) rfl (Zn (n) A25 rfl rfl rfl (WL_run rfl (Zf rfl (Zx j)) rfl (Zr S25 rfl rfl af (WL_run rfl (Zf rfl (Zx j)) rfl (Exec.gtr rfl rfl rfl (Za rfl rfl (Exec.pick_f (v := Value.bool (decide (64 < (b.Goal.length : Int)))) rfl (Zx j) rfl (Zb (Ze ?_)))))))))))
  exact ⟨s, (Zv _), n, rfl, (Zx (Eq.trans (or_f c) (Eq.trans (or_f g) (or_f j)))).symm⟩
 intro aM aR av
 obtain ⟨ar, i, ag, q, ao⟩ := av
 refine (Ze ?_)
 rcases ite_some hm with ⟨z, hm⟩ | ⟨z, hm⟩
 ·refine W_cond_t ao z (Zc (Zd (Za rfl rfl (Zo (v := Value.bool (false)) rfl rfl (Zb (Ze (W_ret (at_ret ?_))))))))
  have aG := Zu hm
  subst r
  refine ⟨_, ret1 rfl, ?_⟩
  exact ⟨ar, i, (ag).drop, rfl⟩
 refine W_cond_f ao z ?_
 replace z := Zk z
 refine W_skip (Ze (Zc ?_))
 obtain ⟨u, a, hm⟩ := Zg hm
 refine W_mid (M := fun f' w' => (fun (u : Bool) => ∃ (au : PHeap) , PHeap.le ar au ∧ St w0 au (H) w' ∧ f' 2 = Value.bool (u)) u) ?_ ?_
 ·refine Zd (Za rfl rfl (Zp F28_1 rfl q rfl (Za rfl rfl (Zn (ag) A23 rfl rfl rfl ?_))))
  obtain ⟨aF, a3, a⟩ := Zg a
  refine Za rfl rfl (Tc rfl rfl rfl (Zi rfl (Zi rfl args_nil)) (slices_ContainsFunc_apiGFluent_Valid_c1_sim a3 ag (ae.mono i)).r ?_)
  rintro _ aS ⟨a9, d, ab, rfl⟩
  refine Za rfl rfl (Exec.not rfl rfl (Za rfl rfl (Zm (v := Value.bool (!aF)) rfl rfl ?_)))
  rcases ite_some a with ⟨h, a⟩ | ⟨h, a⟩
  ·refine WL_run rfl (Zf rfl (Zx h)) rfl (Zp F28_2 rfl q rfl (WL_run rfl (Zf rfl (Zx h)) rfl (Zn (ab) A24 rfl rfl rfl (WL_run rfl (Zf rfl (Zx h)) rfl (Zp F28_0 rfl q rfl (WL_run rfl (Zf rfl (Zx h)) rfl (Zn (ab) A22 rfl rfl rfl (WL_run rfl (Zf rfl (Zx h)) rfl (Zr S22 rfl rfl (ad.mono (Zt i d)) ?_)))))))))
   obtain ⟨aX, a4, a⟩ := Zg a
   refine WL_run rfl (Zf rfl (Zx h)) rfl (Tc rfl rfl rfl (Zi rfl (Zi rfl args_nil)) (ground_indices_sim a4 ab (al.mono (Zt i d))).r ?_)
   rintro _ aT ⟨aA, m, ah, rfl⟩
   refine WL_passes 2 (by rw [h]; rfl) ?_
   rcases ite_some a with ⟨k, a⟩ | ⟨k, a⟩
   ·refine WL_run rfl (Zf rfl (Zx k)) rfl (Zp F28_3 rfl q rfl (WL_run rfl (Zf rfl (Zx k)) rfl (Zn (ah) A25 rfl rfl rfl ?_)))
    obtain ⟨aO, aj, ax, ak⟩ := St.freezeVar (E := encGround) (y := b) ah ⟨[aa], [x, t, o, p], rfl, ⟨_, rfl, (ad.mono (Zt (Zt i d) m))⟩, ⟨[x], [t, o, p], rfl, ⟨_, rfl, (ae.mono (Zt (Zt i d) m))⟩, ⟨[t], [o, p], rfl, ⟨_, rfl, (al.mono (Zt (Zt i d) m))⟩, ⟨[o], [p], rfl, ⟨_, rfl, (af.mono (Zt (Zt i d) m))⟩, ⟨_, rfl, (am.mono (Zt (Zt i d) m))⟩⟩⟩⟩⟩
    refine WL_run rfl (Zf rfl (Zx k)) rfl (Exec.makeFunc rfl (Zi q args_nil) ?_)
    obtain ⟨aY, a5, a⟩ := Zg a
    refine WL_run rfl (Zf rfl (Zx k)) rfl (Tc rfl rfl rfl (Zi rfl (Zi rfl args_nil)) (slices_ContainsFunc_apiCond_Valid_c2_sim a5 ax (af.mono (Zt (Zt (Zt i d) m) aj)) ak).r ?_)
    rintro _ aU ⟨aB, ac, ai, rfl⟩
    refine WL_run rfl (Zf rfl (Zx k)) rfl (Exec.not rfl rfl ?_)
    refine WL_passes 2 (by rw [k]; rfl) ?_
    rcases ite_some a with ⟨l, a⟩ | ⟨l, a⟩
    ·refine WL_run rfl (Zf rfl (Zx l)) rfl (Zp F28_4 rfl q rfl (WL_run rfl (Zf rfl (Zx l)) rfl (Zw (E := (encSlice encGOp)) ai A26 rfl rfl rfl ((ak.sub (Sub.iso (Sub.snd (Sub.snd (Sub.snd (Sub.snd (Sub.refl _) rfl) rfl) rfl) rfl)) rfl).mono ac) ?_)))
     intro aP a6
     have a8 : SliceRep _ _ _ (b.Ops) := encSlice_val.1 a6
     refine WL_run rfl (Zf rfl (Zx l)) rfl (Exec.makeFunc rfl (Zi q args_nil) ?_)
     obtain ⟨aZ, a7, a⟩ := Zg a
     refine WL_run rfl (Zf rfl (Zx l)) rfl (Tc rfl rfl rfl (Zi rfl (Zi rfl args_nil)) (slices_ContainsFunc_apiGOp_Valid_c3_sim a7 ai a8 (ak.mono ac)).r ?_)
     rintro _ aV ⟨aC, a0, ay, rfl⟩
     refine WL_run rfl (Zf rfl (Zx l)) rfl (Exec.not rfl rfl ?_)
     refine WL_passes 2 (by rw [l]; rfl) ?_
     refine Zb (Ze ?_)
     have aH := Zu a
     subst u
     exact ⟨aC, (Zt (Zt (Zt (Zt d m) aj) ac) a0), ay, rfl⟩
    replace l := Zk l
    refine WL_passes 7 (by rw [l]; rfl) ?_
    refine Zb (Ze ?_)
    have aI := Zu a
    subst u
    exact ⟨aB, (Zt (Zt (Zt d m) aj) ac), ai, rfl⟩
   replace k := Zk k
   refine WL_passes 14 (by rw [k]; rfl) ?_
   refine Zb (Ze ?_)
   have aJ := Zu a
   subst u
   exact ⟨aA, (Zt d m), (ah).drop, rfl⟩
  replace h := Zk h
  refine WL_passes 22 (by rw [h]; rfl) ?_
  refine Zb (Ze ?_)
  have aK := Zu a
  subst u
  exact ⟨a9, d, (ab).drop, rfl⟩
 intro aN aW aw
 obtain ⟨aD, a1, az, a2⟩ := aw
 refine (Ze (W_ret ?_))
 have aL := Zu hm
 subst r
 refine ⟨_, ret1 rfl, ?_⟩
 exact ⟨aD, (Zt i a1), az, a2⟩
theorem C45 : Tryz.prog.concrete 45 = true := by kernel_rfl
theorem A56 : tyAgg Tryz.prog 56 = some (true, 2) := by kernel_rfl
theorem F56_1 : tyField Tryz.prog 56 1 = some 1 := by kernel_rfl
theorem A54 : tyAgg Tryz.prog 54 = some (false, 1) := by kernel_rfl
theorem Z9 : tyZero Tryz.prog 9 = some (Value.string ⟨#[]⟩) := by kernel_rfl
theorem slices_Clone_string_sim {w0 w : World} {s : PHeap} {H : List Res} {b : (List ByteArray)} {c : Value} {r : (List ByteArray)} (hm : slices_Clone_string_p b = some r) (hS : St w0 s (H) w) (d : SliceRep encStr s c b) :
  Calls Tryz.prog 74 #[c] w fun e w' => ∃ v, e = .returned v ∧ ((fun (u : (List ByteArray)) => ∃ (g : PHeap) (h : Value), PHeap.le s g ∧ St w0 g (Res.arr encStr 9 h u :: H) w' ∧ v = h) r) := by
 unfold slices_Clone_string_p at hm
 refine calls_of_W Tryz.func74 rfl rfl (Zc (Zd (Za rfl rfl (Zo (v := Value.slice none 0 0) rfl rfl (Zb (Ze (Zc (Zc (Zd (Za rfl rfl (Zm (v := c) rfl rfl ?_)))))))))))
 obtain ⟨j, ab, y, k, p⟩ := (d).nilShape
 refine Za rfl rfl (Exec.slice_eql_nil Tryz.underlying54 rfl k rfl (Zb (Ze ?_)))
 by_cases a : j.isNone = true
 ·have q := p a
  replace hm := (show (some []) = ((app 16 [] b).bind fun f => some f) from by simp [q, app]).trans hm
  refine W_true ((Zx a)) (Zc (Zd (Za rfl rfl (Zo (v := Value.slice none 0 0) rfl rfl (Zb (Ze (W_ret (at_ret ?_))))))))
  have z := Zu hm
  subst r
  refine ⟨_, ret1 rfl, ?_⟩
  have l := hS.nilArr encStr 9
  exact ⟨s, (Value.slice none 0 0), (Zv _), l, rfl⟩
 replace a := Zk a
 refine W_false ((Zx a)) (W_skip (Ze (Zc (Zd (Za rfl rfl (Exec.buildSlice (Te := 9) (cs := []) hS rfl parts_nil (fun _ => by kernel_rfl) ?_))))))
 intro x ac m
 refine Za rfl rfl (Zm (v := c) rfl rfl ?_)
 have n := St.boxArr (E := encStr) (xs := []) m rfl (by simp [maxLen])
 obtain ⟨f, t, hm⟩ := Zg hm
 refine Za rfl rfl (Exec.append_rep (E := encStr) (ys := b) n S54 Z9 rfl (by decide) rfl rfl rfl d t ?_)
 intro i ad o
 refine Za rfl rfl (Zo (v := i) rfl rfl (Zb (Ze (W_ret ?_))))
 have aa := Zu hm
 subst r
 refine ⟨_, ret1 rfl, ?_⟩
 exact ⟨s, i, (Zv _), o, rfl⟩
end Go.Pw
