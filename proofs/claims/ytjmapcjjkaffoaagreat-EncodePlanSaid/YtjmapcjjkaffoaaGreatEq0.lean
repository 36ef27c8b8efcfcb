/-
  The walks (printed by my generator).
-/
import Derived.Test.YtjmapcjjkaffoaaGreatL33
import Derived.Test.YtjmapcjjkaffoaaGreatL27
import Derived.Test.YtjmapcjjkaffoaaGreatEqP
import Derived.Test.YtjmapcjjkaffoaaGreatL8
import Derived.Test.YtjmapcjjkaffoaaGreatL9
import Derived.Test.YtjmapcjjkaffoaaGreatL12
import Derived.Test.YtjmapcjjkaffoaaGreatL14
import Derived.Test.YtjmapcjjkaffoaaGreatL16
import Derived.Test.YtjmapcjjkaffoaaGreatL21
import Derived.Test.YtjmapcjjkaffoaaGreatL18
import Derived.Test.YtjmapcjjkaffoaaGreatL23
import Derived.Test.YtjmapcjjkaffoaaGreatL26
import Derived.Test.YtjmapcjjkaffoaaGreatL30
import Derived.Test.YtjmapcjjkaffoaaGreatL31
import Derived.Test.YtjmapcjjkaffoaaGreatL34
import Derived.Test.YtjmapcjjkaffoaaGreatL35
import Derived.Test.YtjmapcjjkaffoaaGreatL36
import Derived.Test.YtjmapcjjkaffoaaGreatL38
import Derived.Test.YtjmapcjjkaffoaaGreatL39
import Derived.Test.YtjmapcjjkaffoaaGreatL40
import Derived.Test.YtjmapcjjkaffoaaGreatL41
import Derived.Test.YtjmapcjjkaffoaaGreatL42
import Derived.Test.YtjmapcjjkaffoaaGreatL43
import Derived.Test.YtjmapcjjkaffoaaGreatL44
import Derived.Test.YtjmapcjjkaffoaaGreatProg
import Derived.KernelRfl
set_option maxRecDepth 100000
set_option maxHeartbeats 4000000
set_option linter.unusedVariables false
namespace Go.Pw
open Go.Proofs
theorem okAll : okCallees Tryz.prog 155 [0, 1, 138, 139, 140, 141, 142, 143, 144, 145, 146, 147, 148, 149, 150, 151, 152, 153, 154] = true := by kernel_rfl
theorem Tc {ρ : Operand → Value} {o : Oper} {w : World} {K : Value → World → Prop} {Q : Value → World → Prop} {f : FuncId} {args : List Operand} {ts : Array TypeId} {vs : List Value} (ho : o.op = .call { callee := .value (.func f), args := args.toArray, argTypes := ts }) (hc : ρ (.func f) = .func (.func f) #[] #[]) (hlt : okAt 155 [0, 1, 138, 139, 140, 141, 142, 143, 144, 145, 146, 147, 148, 149, 150, 151, 152, 153, 154] f = true) (hargs : List.map ρ args = vs) (h : Calls Tryz.prog f vs.toArray w fun e w' => ∃ v, e = .returned v ∧ Q v w') (hk : ∀ v w', Q v w' → K v w') : Exec Tryz.prog ρ o w K := Exec.callR okAll ho hc hlt hargs h hk
theorem S24 : tySlice Tryz.prog 24 = some (3, 1, 8) := by kernel_rfl
theorem Z28 : tyZero Tryz.prog 28 = some (Value.agg #[Value.slice none 0 0, Value.slice none 0 0, Value.slice none 0 0, Value.slice none 0 0, Value.slice none 0 0]) := by kernel_rfl
theorem A28 : tyAgg Tryz.prog 28 = some (true, 5) := by kernel_rfl
theorem law21_sample_sim {w0 w : World} {s : PHeap} {H : List Res}   {r : Ground} (hm : law21_sample_p  = some r) (hS : St w0 s (H) w)  :
  Calls Tryz.prog 16 #[] w fun e w' => ∃ v, e = .returned v ∧ ((fun (y14 : Ground) => ∃ (k : PHeap) (ae : Value) (af : Value) (ag : Value) (ah : Value) (ai : Value), PHeap.le s k ∧ St w0 k (H) w' ∧ v = Value.agg #[ae, af, ag, ah, ai] ∧ SliceRep encAtom k ae y14.Atoms ∧ SliceRep encGFluent k af y14.Fluents ∧ SliceRep (encInt .i64) k ag y14.Init ∧ SliceRep encCond k ah y14.Goal ∧ SliceRep encGOp k ai y14.Ops) r) := by
 unfold law21_sample_p at hm
 refine calls_of_W Tryz.func16 rfl rfl (Zc (Zd (Za rfl rfl (Exec.alloc (cs := [Value.slice none 0 0, Value.slice none 0 0, Value.slice none 0 0, Value.slice none 0 0, Value.slice none 0 0]) hS Z28 rfl rfl ?_))))
 intro aP ba aj
 refine Zb (Ze (Zc (Zd (Za rfl rfl (Exec.buildSlice (Te := 9) (cs := [Value.string (⟨#[97]⟩)]) aj rfl (parts_cons (c := [Value.string (⟨#[97]⟩)]) (cells_of rfl rfl) parts_nil) (fun _ => by kernel_rfl) ?_)))))
 intro l bb ak
 have al := St.boxArr (E := encStr) (xs := [⟨#[97]⟩]) ak ⟨[Value.string (⟨#[97]⟩)], [], rfl, rfl, rfl⟩ (by simp [maxLen])
 obtain ⟨aR, aG, am, aI⟩ := al.freezeArr
 refine Za rfl rfl (Exec.build rfl (parts_cons (c := [Value.string (⟨#[97, 116]⟩)]) (cells_of rfl rfl) (parts_cons (c := [Value.slice (some ⟨l, 0, none⟩) 1 1]) (cells_of rfl rfl) parts_nil)) (v := Value.agg #[Value.string (⟨#[97, 116]⟩), Value.slice (some ⟨l, 0, none⟩) 1 1]) (fun _ => by kernel_rfl) (Za rfl rfl (Exec.buildSlice (Te := 9) (cs := [Value.string (⟨#[98]⟩)]) am rfl (parts_cons (c := [Value.string (⟨#[98]⟩)]) (cells_of rfl rfl) parts_nil) (fun _ => by kernel_rfl) ?_)))
 intro h bc an
 have ao := St.boxArr (E := encStr) (xs := [⟨#[98]⟩]) an ⟨[Value.string (⟨#[98]⟩)], [], rfl, rfl, rfl⟩ (by simp [maxLen])
 obtain ⟨aS, z, ap, aJ⟩ := ao.freezeArr
 refine Za rfl rfl (Exec.build rfl (parts_cons (c := [Value.string (⟨#[97, 116]⟩)]) (cells_of rfl rfl) (parts_cons (c := [Value.slice (some ⟨h, 0, none⟩) 1 1]) (cells_of rfl rfl) parts_nil)) (v := Value.agg #[Value.string (⟨#[97, 116]⟩), Value.slice (some ⟨h, 0, none⟩) 1 1]) (fun _ => by kernel_rfl) (Za rfl rfl (Exec.build rfl (parts_cons (c := [Value.string (⟨#[112]⟩)]) (cells_of rfl rfl) parts_nil) (v := Value.agg #[Value.string (⟨#[112]⟩), Value.slice none 0 0]) (fun _ => by kernel_rfl) (Za rfl rfl (Exec.buildSlice (Te := 71) (cs := [Value.string (⟨#[97, 116]⟩), Value.slice (some ⟨l, 0, none⟩) 1 1, Value.string (⟨#[97, 116]⟩), Value.slice (some ⟨h, 0, none⟩) 1 1, Value.string (⟨#[112]⟩), Value.slice none 0 0]) ap rfl (parts_cons (c := [Value.string (⟨#[97, 116]⟩), Value.slice (some ⟨l, 0, none⟩) 1 1]) (cells_of rfl rfl) (parts_cons (c := [Value.string (⟨#[97, 116]⟩), Value.slice (some ⟨h, 0, none⟩) 1 1]) (cells_of rfl rfl) (parts_cons (c := [Value.string (⟨#[112]⟩), Value.slice none 0 0]) (cells_of rfl rfl) parts_nil))) (fun _ => by kernel_rfl) ?_)))))
 intro n bd aq
 have ar := St.boxArr (E := encAtom) (xs := [(⟨⟨#[97, 116]⟩, [⟨#[97]⟩]⟩ : Atom), (⟨⟨#[97, 116]⟩, [⟨#[98]⟩]⟩ : Atom), (⟨⟨#[112]⟩, []⟩ : Atom)]) aq ⟨[Value.string (⟨#[97, 116]⟩), Value.slice (some ⟨l, 0, none⟩) 1 1], [Value.string (⟨#[97, 116]⟩), Value.slice (some ⟨h, 0, none⟩) 1 1, Value.string (⟨#[112]⟩), Value.slice none 0 0], rfl, ⟨[Value.string (⟨#[97, 116]⟩)], [Value.slice (some ⟨l, 0, none⟩) 1 1], rfl, rfl, ⟨_, rfl, (aI.mono z)⟩⟩, ⟨[Value.string (⟨#[97, 116]⟩), Value.slice (some ⟨h, 0, none⟩) 1 1], [Value.string (⟨#[112]⟩), Value.slice none 0 0], rfl, ⟨[Value.string (⟨#[97, 116]⟩)], [Value.slice (some ⟨h, 0, none⟩) 1 1], rfl, rfl, ⟨_, rfl, aJ⟩⟩, ⟨[Value.string (⟨#[112]⟩), Value.slice none 0 0], [], rfl, ⟨[Value.string (⟨#[112]⟩)], [Value.slice none 0 0], rfl, rfl, ⟨_, rfl, (SliceRep.nil _ _)⟩⟩, rfl⟩⟩⟩ (by simp [maxLen])
 obtain ⟨aT, aH, au, aa⟩ := ar.freezeArr
 refine Za rfl rfl (Exec.buildSlice (Te := 3) (cs := [Vi (0)]) au rfl (parts_cons (c := [Vi (0)]) (cells_of rfl rfl) parts_nil) (fun _ => by kernel_rfl) ?_)
 intro o be av
 have aw := St.boxArr (E := (encInt .i64)) (xs := [0]) av ⟨[Vi (0)], [], rfl, rfl, rfl⟩ (by simp [maxLen])
 obtain ⟨aU, x, ax, ab⟩ := aw.freezeArr
 refine Za rfl rfl (Exec.buildSlice (Te := 3) (cs := [Vi (1)]) ax rfl (parts_cons (c := [Vi (1)]) (cells_of rfl rfl) parts_nil) (fun _ => by kernel_rfl) ?_)
 intro m bf ay
 have az := St.boxArr (E := (encInt .i64)) (xs := [1]) ay ⟨[Vi (1)], [], rfl, rfl, rfl⟩ (by simp [maxLen])
 obtain ⟨aV, t, a0, aK⟩ := az.freezeArr
 refine Za rfl rfl (Exec.build rfl (parts_cons (c := [Value.slice (some ⟨m, 0, none⟩) 1 1]) (cells_of rfl rfl) parts_nil) (v := Value.agg #[Value.slice (some ⟨m, 0, none⟩) 1 1, Value.slice none 0 0, Value.slice none 0 0]) (fun _ => by kernel_rfl) (Za rfl rfl (Exec.buildSlice (Te := 84) (cs := [Value.slice (some ⟨m, 0, none⟩) 1 1, Value.slice none 0 0, Value.slice none 0 0]) a0 rfl (parts_cons (c := [Value.slice (some ⟨m, 0, none⟩) 1 1, Value.slice none 0 0, Value.slice none 0 0]) (cells_of rfl rfl) parts_nil) (fun _ => by kernel_rfl) ?_)))
 intro p bg a1
 have a2 := St.boxArr (E := encCond) (xs := [(⟨[1], [], []⟩ : Cond)]) a1 ⟨[Value.slice (some ⟨m, 0, none⟩) 1 1, Value.slice none 0 0, Value.slice none 0 0], [], rfl, ⟨[Value.slice (some ⟨m, 0, none⟩) 1 1], [Value.slice none 0 0, Value.slice none 0 0], rfl, ⟨_, rfl, aK⟩, ⟨[Value.slice none 0 0], [Value.slice none 0 0], rfl, ⟨_, rfl, (SliceRep.nil _ _)⟩, ⟨_, rfl, (SliceRep.nil _ _)⟩⟩⟩, rfl⟩ (by simp [maxLen])
 obtain ⟨aW, u, a3, ac⟩ := a2.freezeArr
 refine Za rfl rfl (Exec.buildSlice (Te := 3) (cs := [Vi (0)]) a3 rfl (parts_cons (c := [Vi (0)]) (cells_of rfl rfl) parts_nil) (fun _ => by kernel_rfl) ?_)
 intro b bh a4
 have a5 := St.boxArr (E := (encInt .i64)) (xs := [0]) a4 ⟨[Vi (0)], [], rfl, rfl, rfl⟩ (by simp [maxLen])
 obtain ⟨aX, i, a6, aL⟩ := a5.freezeArr
 refine Za rfl rfl (Exec.buildSlice (Te := 3) (cs := [Vi (2)]) a6 rfl (parts_cons (c := [Vi (2)]) (cells_of rfl rfl) parts_nil) (fun _ => by kernel_rfl) ?_)
 intro a bi a7
 have a8 := St.boxArr (E := (encInt .i64)) (xs := [2]) a7 ⟨[Vi (2)], [], rfl, rfl, rfl⟩ (by simp [maxLen])
 obtain ⟨aY, g, a9, aM⟩ := a8.freezeArr
 refine Za rfl rfl (Exec.build rfl (parts_cons (c := [Value.slice (some ⟨b, 0, none⟩) 1 1]) (cells_of rfl rfl) (parts_cons (c := [Value.slice (some ⟨a, 0, none⟩) 1 1]) (cells_of rfl rfl) parts_nil)) (v := Value.agg #[Value.slice (some ⟨b, 0, none⟩) 1 1, Value.slice (some ⟨a, 0, none⟩) 1 1, Value.slice none 0 0]) (fun _ => by kernel_rfl) (Za rfl rfl (Exec.build rfl (parts_cons (c := [Vi (0)]) (cells_of rfl rfl) parts_nil) (v := Value.agg #[Value.slice none 0 0, Value.slice none 0 0, Value.slice none 0 0, Vi (0), Value.bool (false)]) (fun _ => by kernel_rfl) (Za rfl rfl (Exec.build rfl (parts_cons (c := [Vi (1)]) (cells_of rfl rfl) (parts_cons (c := [Value.bool (true)]) (cells_of rfl rfl) parts_nil)) (v := Value.agg #[Value.slice none 0 0, Value.slice none 0 0, Value.slice none 0 0, Vi (1), Value.bool (true)]) (fun _ => by kernel_rfl) (Za rfl rfl (Exec.buildSlice (Te := 98) (cs := [Value.slice none 0 0, Value.slice none 0 0, Value.slice none 0 0, Vi (0), Value.bool (false), Value.slice none 0 0, Value.slice none 0 0, Value.slice none 0 0, Vi (1), Value.bool (true)]) a9 rfl (parts_cons (c := [Value.slice none 0 0, Value.slice none 0 0, Value.slice none 0 0, Vi (0), Value.bool (false)]) (cells_of rfl rfl) (parts_cons (c := [Value.slice none 0 0, Value.slice none 0 0, Value.slice none 0 0, Vi (1), Value.bool (true)]) (cells_of rfl rfl) parts_nil)) (fun _ => by kernel_rfl) ?_)))))))
 intro d bj aA
 have aB := St.boxArr (E := encGChange) (xs := [(⟨(⟨[], [], []⟩ : Cond), 0, false⟩ : GChange), (⟨(⟨[], [], []⟩ : Cond), 1, true⟩ : GChange)]) aA ⟨[Value.slice none 0 0, Value.slice none 0 0, Value.slice none 0 0, Vi (0), Value.bool (false)], [Value.slice none 0 0, Value.slice none 0 0, Value.slice none 0 0, Vi (1), Value.bool (true)], rfl, ⟨[Value.slice none 0 0, Value.slice none 0 0, Value.slice none 0 0], [Vi (0), Value.bool (false)], rfl, ⟨[Value.slice none 0 0], [Value.slice none 0 0, Value.slice none 0 0], rfl, ⟨_, rfl, (SliceRep.nil _ _)⟩, ⟨[Value.slice none 0 0], [Value.slice none 0 0], rfl, ⟨_, rfl, (SliceRep.nil _ _)⟩, ⟨_, rfl, (SliceRep.nil _ _)⟩⟩⟩, ⟨[Vi (0)], [Value.bool (false)], rfl, rfl, rfl⟩⟩, ⟨[Value.slice none 0 0, Value.slice none 0 0, Value.slice none 0 0, Vi (1), Value.bool (true)], [], rfl, ⟨[Value.slice none 0 0, Value.slice none 0 0, Value.slice none 0 0], [Vi (1), Value.bool (true)], rfl, ⟨[Value.slice none 0 0], [Value.slice none 0 0, Value.slice none 0 0], rfl, ⟨_, rfl, (SliceRep.nil _ _)⟩, ⟨[Value.slice none 0 0], [Value.slice none 0 0], rfl, ⟨_, rfl, (SliceRep.nil _ _)⟩, ⟨_, rfl, (SliceRep.nil _ _)⟩⟩⟩, ⟨[Vi (1)], [Value.bool (true)], rfl, rfl, rfl⟩⟩, rfl⟩⟩ (by simp [maxLen])
 obtain ⟨aZ, f, aC, aN⟩ := aB.freezeArr
 refine Za rfl rfl (Exec.build rfl (parts_cons (c := [Value.string (⟨#[40, 109, 111, 118, 101, 41]⟩)]) (cells_of rfl rfl) (parts_cons (c := [Vi (3)]) (cells_of rfl rfl) (parts_cons (c := [Value.slice (some ⟨b, 0, none⟩) 1 1, Value.slice (some ⟨a, 0, none⟩) 1 1, Value.slice none 0 0]) (cells_of rfl rfl) (parts_cons (c := [Value.slice (some ⟨d, 0, none⟩) 2 2]) (cells_of rfl rfl) parts_nil)))) (v := Value.agg #[Value.string (⟨#[40, 109, 111, 118, 101, 41]⟩), Vi (3), Value.slice (some ⟨b, 0, none⟩) 1 1, Value.slice (some ⟨a, 0, none⟩) 1 1, Value.slice none 0 0, Value.slice (some ⟨d, 0, none⟩) 2 2, Value.slice none 0 0]) (fun _ => by kernel_rfl) (Za rfl rfl (Exec.buildSlice (Te := 91) (cs := [Value.string (⟨#[40, 109, 111, 118, 101, 41]⟩), Vi (3), Value.slice (some ⟨b, 0, none⟩) 1 1, Value.slice (some ⟨a, 0, none⟩) 1 1, Value.slice none 0 0, Value.slice (some ⟨d, 0, none⟩) 2 2, Value.slice none 0 0]) aC rfl (parts_cons (c := [Value.string (⟨#[40, 109, 111, 118, 101, 41]⟩), Vi (3), Value.slice (some ⟨b, 0, none⟩) 1 1, Value.slice (some ⟨a, 0, none⟩) 1 1, Value.slice none 0 0, Value.slice (some ⟨d, 0, none⟩) 2 2, Value.slice none 0 0]) (cells_of rfl rfl) parts_nil) (fun _ => by kernel_rfl) ?_)))
 intro q bk aD
 have aE := St.boxArr (E := encGOp) (xs := [(⟨⟨#[40, 109, 111, 118, 101, 41]⟩, 3, (⟨[0], [2], []⟩ : Cond), [(⟨(⟨[], [], []⟩ : Cond), 0, false⟩ : GChange), (⟨(⟨[], [], []⟩ : Cond), 1, true⟩ : GChange)], []⟩ : GOp)]) aD ⟨[Value.string (⟨#[40, 109, 111, 118, 101, 41]⟩), Vi (3), Value.slice (some ⟨b, 0, none⟩) 1 1, Value.slice (some ⟨a, 0, none⟩) 1 1, Value.slice none 0 0, Value.slice (some ⟨d, 0, none⟩) 2 2, Value.slice none 0 0], [], rfl, ⟨[Value.string (⟨#[40, 109, 111, 118, 101, 41]⟩)], [Vi (3), Value.slice (some ⟨b, 0, none⟩) 1 1, Value.slice (some ⟨a, 0, none⟩) 1 1, Value.slice none 0 0, Value.slice (some ⟨d, 0, none⟩) 2 2, Value.slice none 0 0], rfl, rfl, ⟨[Vi (3)], [Value.slice (some ⟨b, 0, none⟩) 1 1, Value.slice (some ⟨a, 0, none⟩) 1 1, Value.slice none 0 0, Value.slice (some ⟨d, 0, none⟩) 2 2, Value.slice none 0 0], rfl, rfl, ⟨[Value.slice (some ⟨b, 0, none⟩) 1 1, Value.slice (some ⟨a, 0, none⟩) 1 1, Value.slice none 0 0], [Value.slice (some ⟨d, 0, none⟩) 2 2, Value.slice none 0 0], rfl, ⟨[Value.slice (some ⟨b, 0, none⟩) 1 1], [Value.slice (some ⟨a, 0, none⟩) 1 1, Value.slice none 0 0], rfl, ⟨_, rfl, (aL.mono (Zt g f))⟩, ⟨[Value.slice (some ⟨a, 0, none⟩) 1 1], [Value.slice none 0 0], rfl, ⟨_, rfl, (aM.mono f)⟩, ⟨_, rfl, (SliceRep.nil _ _)⟩⟩⟩, ⟨[Value.slice (some ⟨d, 0, none⟩) 2 2], [Value.slice none 0 0], rfl, ⟨_, rfl, aN⟩, ⟨_, rfl, (SliceRep.nil _ _)⟩⟩⟩⟩⟩, rfl⟩ (by simp [maxLen])
 obtain ⟨aO, j, aF, ad⟩ := aE.freezeArr
 refine Za rfl rfl (Exec.build rfl (parts_cons (c := [Value.slice (some ⟨n, 0, none⟩) 3 3]) (cells_of rfl rfl) (parts_cons (c := [Value.slice (some ⟨o, 0, none⟩) 1 1]) (cells_of rfl rfl) (parts_cons (c := [Value.slice (some ⟨p, 0, none⟩) 1 1]) (cells_of rfl rfl) (parts_cons (c := [Value.slice (some ⟨q, 0, none⟩) 1 1]) (cells_of rfl rfl) parts_nil)))) (v := Value.agg #[Value.slice (some ⟨n, 0, none⟩) 3 3, Value.slice none 0 0, Value.slice (some ⟨o, 0, none⟩) 1 1, Value.slice (some ⟨p, 0, none⟩) 1 1, Value.slice (some ⟨q, 0, none⟩) 1 1]) (fun _ => by kernel_rfl) (Za rfl rfl (Exec.store_box (ds := [Value.slice (some ⟨n, 0, none⟩) 3 3, Value.slice none 0 0, Value.slice (some ⟨o, 0, none⟩) 1 1, Value.slice (some ⟨p, 0, none⟩) 1 1, Value.slice (some ⟨q, 0, none⟩) 1 1]) (es := [Value.slice (some ⟨n, 0, none⟩) 3 3, Value.slice none 0 0, Value.slice (some ⟨o, 0, none⟩) 1 1, Value.slice (some ⟨p, 0, none⟩) 1 1, Value.slice (some ⟨q, 0, none⟩) 1 1]) aF A28 rfl rfl rfl rfl (Zj ((aa.mono (Zt (Zt (Zt (Zt (Zt (Zt x t) u) i) g) f) j))).one (Zj rfl (Zj ((ab.mono (Zt (Zt (Zt (Zt (Zt t u) i) g) f) j))).one (Zj ((ac.mono (Zt (Zt (Zt i g) f) j))).one (Zj (ad).one one_nil))))) (Nat.le_of_ble_eq_true rfl) rfl ?_)))
 intro bl y
 refine Zb (Ze (W_ret ?_))
 have aQ := Zu hm
 subst r
 refine ⟨_, retG1 rfl ⟨_, _, rfl, cellRes (y) A28⟩, ?_⟩
 exact ⟨aO, (Value.slice (some ⟨n, 0, none⟩) 3 3), (Value.slice none 0 0), (Value.slice (some ⟨o, 0, none⟩) 1 1), (Value.slice (some ⟨p, 0, none⟩) 1 1), (Value.slice (some ⟨q, 0, none⟩) 1 1), (Zt (Zt (Zt (Zt (Zt (Zt (Zt (Zt (Zt aG z) aH) x) t) u) i) g) f) j), (y).drop, rfl, (aa.mono (Zt (Zt (Zt (Zt (Zt (Zt x t) u) i) g) f) j)), (SliceRep.nil _ _), (ab.mono (Zt (Zt (Zt (Zt (Zt t u) i) g) f) j)), (ac.mono (Zt (Zt (Zt i g) f) j)), ad⟩
theorem Z36 : tyZero Tryz.prog 36 = some (Value.agg #[Value.slice none 0 0, Value.slice none 0 0, Value.slice none 0 0, Value.slice none 0 0, Value.slice none 0 0, Value.slice none 0 0, Value.slice none 0 0]) := by kernel_rfl
theorem F28_0 : tyField Tryz.prog 28 0 = some 0 := by kernel_rfl
theorem A22 : tyAgg Tryz.prog 22 = some (false, 1) := by kernel_rfl
theorem S22 : tySlice Tryz.prog 22 = some (71, 2, 40) := by kernel_rfl
theorem F28_1 : tyField Tryz.prog 28 1 = some 1 := by kernel_rfl
theorem A23 : tyAgg Tryz.prog 23 = some (false, 1) := by kernel_rfl
theorem S23 : tySlice Tryz.prog 23 = some (73, 5, 64) := by kernel_rfl
theorem F28_4 : tyField Tryz.prog 28 4 = some 4 := by kernel_rfl
theorem A26 : tyAgg Tryz.prog 26 = some (false, 1) := by kernel_rfl
theorem S26 : tySlice Tryz.prog 26 = some (91, 7, 144) := by kernel_rfl
theorem F28_3 : tyField Tryz.prog 28 3 = some 3 := by kernel_rfl
theorem A25 : tyAgg Tryz.prog 25 = some (false, 1) := by kernel_rfl
theorem S25 : tySlice Tryz.prog 25 = some (84, 3, 72) := by kernel_rfl
theorem slices_IndexFunc_apiGFluent_Valid_c1_sim {w0 w : World} {s : PHeap} {H : List Res} {b : (List GFluent)} {a : Value} {r : Int} (hm : slices_IndexFunc_apiGFluent_Valid_c1_p b = some r) (hS : St w0 s (H) w) (n : SliceRep encGFluent s a b) :
  Calls Tryz.prog 61 #[a, Value.func (.func 28) #[] #[]] w fun e w' => ∃ v, e = .returned v ∧ ((fun (ak : Int) => ∃ (i : PHeap) , PHeap.le s i ∧ St w0 i (H) w' ∧ v = Vi (ak)) r) := by
 unfold slices_IndexFunc_apiGFluent_Valid_c1_p at hm
 refine calls_of_W Tryz.func61 rfl rfl (Zc (Zd (Za rfl rfl (Zo (v := Vi (0)) rfl rfl (Zb (Ze (Zc (Zc (Zd (Za rfl rfl (Zm (v := a) rfl rfl (Za rfl rfl (Zr S23 rfl rfl n (Za rfl rfl (Zm (v := Vi (0)) rfl rfl (Zb (Ze ?_)))))))))))))))))
 obtain ⟨c, o, au, aa, y⟩ := ctl_some hm
 refine W_mid (M := fun f' w' => ∃ s', (c = .next s' ∨ c = .brk s') ∧ (fun (_ : Unit) => ∃ (l : PHeap) , PHeap.le s l ∧ St w0 l (H) w' ∧ f' 0 = a ∧ f' 1 = Value.func (.func 28) #[] #[] ∧ f' 7 = Vi ((b.length : Int))) s') ?_ ?_
 ·refine W_block (W_forC (fun k' s' f' w' => (fun (_ : Unit) => ∃ (j : PHeap) , PHeap.le s j ∧ St w0 j (H) w' ∧ f' 0 = a ∧ f' 1 = Value.func (.func 28) #[] #[] ∧ f' 7 = Vi ((b.length : Int)) ∧ f' 8 = Vi (k' : Int)) s') o ?_ ?_ ?_)
  ·exact ⟨s, (Zv _), hS, rfl, rfl, rfl, rfl⟩
  ·intro g a3 al an a6 ar p z av
   obtain ⟨a2, aw, aq, ax, ay, ae, m⟩ := p
   refine Zc (Zd (Za rfl rfl (Zq rfl m ae (Zb (Ze (Zc (W_true (Zx (decide_eq_true (by omega))) (W_skip (Ze (Zc (W_block (Zc (Zd (Za rfl rfl (Zm (v := Vi ((g : Int))) rfl m (Za rfl rfl (Zo (v := Vi ((g : Int))) rfl rfl (Zb (Ze (Zc ?_))))))))))))))))))))
   cases z
  intro a4 ao a7 q ab
  obtain ⟨ah, ac, u, af, ag, h, aj⟩ := q
  refine Zc (Zd (Za rfl rfl (Zq rfl aj h (Zb (Ze (Zc (W_false (Zx (decide_eq_false (by omega))) (W_exit (at_exit (at_exit (ib_here (Ze ?_))))))))))))
  refine ⟨_, .inl ab, ?_⟩; exact ⟨ah, ac, u, af, ag, h⟩
 rintro ap a8 ⟨a5, d, t⟩
 have hm := d.elim (aa _) (y _)
 clear d
 obtain ⟨ai, ad, x, az, a0, a1⟩ := t
 refine (Ze (Zc (Zd (Za rfl rfl (Zo (v := Vi ((-1))) rfl rfl (Zb (Ze (W_ret ?_))))))))
 have am := Zu hm
 subst r
 refine ⟨_, ret1 rfl, ?_⟩
 exact ⟨ai, ad, x, rfl⟩
theorem slices_ContainsFunc_apiGFluent_Valid_c1_sim {w0 w : World} {s : PHeap} {H : List Res} {c : (List GFluent)} {a : Value} {r : Bool} (hm : slices_ContainsFunc_apiGFluent_Valid_c1_p c = some r) (hS : St w0 s (H) w) (d : SliceRep encGFluent s a c) :
  Calls Tryz.prog 27 #[a, Value.func (.func 28) #[] #[]] w fun e w' => ∃ v, e = .returned v ∧ ((fun (j : Bool) => ∃ (b : PHeap) , PHeap.le s b ∧ St w0 b (H) w' ∧ v = Value.bool (j)) r) := by
 unfold slices_ContainsFunc_apiGFluent_Valid_c1_p at hm
 refine calls_of_W Tryz.func27 rfl rfl (Zc (Zd (Za rfl rfl (Zo (v := Value.bool (false)) rfl rfl (Zb (Ze (Zc (Zd (Za rfl rfl (Zm (v := a) rfl rfl (Za rfl rfl (Zm (v := Value.func (.func 28) #[] #[]) rfl rfl ?_))))))))))))
 obtain ⟨k, h, hm⟩ := Zg hm
 refine Za rfl rfl (Tc rfl rfl rfl (Zi rfl (Zi rfl args_nil)) (slices_IndexFunc_apiGFluent_Valid_c1_sim h hS d).r ?_)
 rintro _ m ⟨i, g, f, rfl⟩
 refine Za rfl rfl (Exec.geq rfl rfl rfl (Za rfl rfl (Zo (v := Value.bool (decide (0 ≤ k))) rfl rfl (Zb (Ze (W_ret ?_))))))
 have l := Zu hm
 subst r
 refine ⟨_, ret1 rfl, ?_⟩
 exact ⟨i, g, f, rfl⟩
theorem F28_2 : tyField Tryz.prog 28 2 = some 2 := by kernel_rfl
theorem A24 : tyAgg Tryz.prog 24 = some (false, 1) := by kernel_rfl
theorem A3 : tyAgg Tryz.prog 3 = some (false, 1) := by kernel_rfl
theorem ground_indices_sim {w0 w : World} {s : PHeap} {H : List Res} {t : (List Int)} {p : Int} {d : Value} {r : Bool} (hm : ground_indices_p t p = some r) (hS : St w0 s (H) w) (ab : SliceRep (encInt .i64) s d t) :
  Calls Tryz.prog 30 #[d, Vi (p)] w fun e w' => ∃ v, e = .returned v ∧ ((fun (aP : Bool) => ∃ (ak : PHeap) , PHeap.le s ak ∧ St w0 ak (H) w' ∧ v = Value.bool (aP)) r) := by
 unfold ground_indices_p at hm
 refine calls_of_W Tryz.func30 rfl rfl (Zc (Zd (Za rfl rfl (Zo (v := Value.bool (false)) rfl rfl (Zb (Ze (Zc (Zc (Zd (Za rfl rfl (Zm (v := d) rfl rfl (Za rfl rfl (Zr S24 rfl rfl ab (Za rfl rfl (Zm (v := Vi (0)) rfl rfl (Zb (Ze ?_)))))))))))))))))
 obtain ⟨ad, au, a5, a3, a1⟩ := ctl_some hm
 refine W_mid (M := fun f' w' => ∃ s', (ad = .next s' ∨ ad = .brk s') ∧ (fun (_ : Unit) => ∃ (al : PHeap) , PHeap.le s al ∧ St w0 al (H) w' ∧ f' 0 = d ∧ f' 1 = Vi (p) ∧ f' 7 = d ∧ f' 8 = Vi ((t.length : Int))) s') ?_ ?_
 ·refine W_block (W_forC (fun k' s' f' w' => (fun (_ : Unit) => ∃ (am : PHeap) , PHeap.le s am ∧ St w0 am (H) w' ∧ f' 0 = d ∧ f' 1 = Vi (p) ∧ f' 7 = d ∧ f' 8 = Vi ((t.length : Int)) ∧ f' 9 = Vi (k' : Int)) s') au ?_ ?_ ?_)
  ·exact ⟨s, (Zv _), hS, rfl, rfl, rfl, rfl, rfl⟩
  ·intro j bk ae ba bp a2 av g a6
   obtain ⟨aa, ac, o, u, x, y, z, l⟩ := av
   refine Zc (Zd (Za rfl rfl (Zq rfl l z (Zb (Ze (Zc (W_true (Zx (decide_eq_true (by omega))) (W_skip (Ze (Zc (W_block (Zc (Zd (Za rfl rfl (Zm (v := Vi ((j : Int))) rfl l ?_)))))))))))))))
   obtain ⟨m, aI, g⟩ := Zg g
   refine Za rfl rfl (Exec.index_rep S24 rfl y l (ab.mono ac) aI ?_)
   intro aQ be aq
   refine Za rfl rfl (Zw (E := (encInt .i64)) o A3 rfl rfl rfl aq ?_)
   intro bn aJ
   obtain rfl := encInt_val.1 aJ
   refine Za rfl rfl (Zo (v := Vi ((j : Int))) rfl rfl (Za rfl rfl (Zo (v := Vi (m)) rfl rfl (Zb (Ze (Zc ?_))))))
   obtain ⟨n, a, g⟩ := Zg g
   refine W_mid (M := fun f' w' => (fun (n : Bool) => ∃ (an : PHeap) , PHeap.le aa an ∧ St w0 an (H) w' ∧ f' 0 = d ∧ f' 1 = Vi (p) ∧ f' 7 = d ∧ f' 8 = Vi ((t.length : Int)) ∧ f' 9 = Vi ((j : Int)) ∧ f' 33 = Value.bool (n)) n) ?_ ?_
   ·refine Zd (Za rfl rfl (Zm (v := Vi (m)) rfl rfl (Za rfl rfl (Zq rfl rfl rfl (Za rfl rfl (Zm (v := Value.bool (decide (m < 0))) rfl rfl ?_))))))
    rcases ite_some a with ⟨i, a⟩ | ⟨i, a⟩
    ·refine WL_passes 17 (by rw [i]; rfl) ?_
     refine Zb (Ze ?_)
     have aS := Zu a
     subst n
     exact ⟨aa, (Zv _), o, u, x, y, z, l, rfl⟩
    replace i := Zk i
    refine WL_run rfl (Zf rfl (Zx i)) rfl (Zm (v := Vi (m)) rfl rfl (WL_run rfl (Zf rfl (Zx i)) rfl (Zm (v := Vi (p)) rfl x (WL_run rfl (Zf rfl (Zx i)) rfl (Exec.geq rfl rfl rfl ?_)))))
    refine WL_passes 2 (by rw [i]; rfl) ?_
    rcases ite_some a with ⟨c, a⟩ | ⟨c, a⟩
    ·refine WL_passes 12 (by rw [c]; rfl) ?_
     refine Zb (Ze ?_)
     have aT := Zu a
     subst n
     exact ⟨aa, (Zv _), o, u, x, y, z, l, rfl⟩
    replace c := Zk c
    refine WL_run rfl (Zf rfl (Zx c)) rfl (Zm (v := Vi ((j : Int))) rfl rfl (WL_run rfl (Zf rfl (Zx c)) rfl (Exec.gtr rfl rfl rfl (WL_run rfl (Zf rfl (Zx c)) rfl (Zm (v := Value.bool (decide (0 < (j : Int)))) rfl rfl ?_)))))
    rcases ite_some a with ⟨b, a⟩ | ⟨b, a⟩
    ·refine WL_run rfl (Zf rfl (Zx b)) rfl (Zm (v := d) rfl u (WL_run rfl (Zf rfl (Zx b)) rfl (Zm (v := Vi ((j : Int))) rfl rfl (WL_run rfl (Zf rfl (Zx b)) rfl (Exec.sub rfl rfl rfl ?_)))))
     obtain ⟨ap, aK, a⟩ := Zg a
     refine WL_run rfl (Zf rfl (Zx b)) rfl (Exec.index_rep S24 rfl rfl rfl (ab.mono ac) aK ?_)
     intro aR bf ar
     refine WL_run rfl (Zf rfl (Zx b)) rfl (Zw (E := (encInt .i64)) o A3 rfl rfl rfl ar ?_)
     intro bo aL
     obtain rfl := encInt_val.1 aL
     refine WL_run rfl (Zf rfl (Zx b)) rfl (Zm (v := Vi (m)) rfl rfl (WL_run rfl (Zf rfl (Zx b)) rfl (Exec.geq rfl rfl rfl (WL_run rfl (Zf rfl (Zx c)) rfl (Zs (v := Value.bool (decide (m ≤ ap))) rfl (Zx b) rfl (Za rfl rfl (Exec.pick_f (v := Value.bool (decide (m ≤ ap))) rfl (Zx c) rfl (Zb (Ze ?_)))))))))
     have aU := Zu a
     subst n
     exact ⟨aa, (Zv _), o, u, x, y, z, l, rfl⟩
    replace b := Zk b
    refine WL_passes 7 (by rw [b]; rfl) ?_
    refine WL_run rfl (Zf rfl (Zx c)) rfl (Exec.pick_f (v := Value.bool (false)) rfl rfl rfl (Za rfl rfl (Exec.pick_f (v := Value.bool (false)) rfl (Zx c) rfl (Zb (Ze ?_)))))
    have aV := Zu a
    subst n
    exact ⟨aa, (Zv _), o, u, x, y, z, l, rfl⟩
   intro bb bq ax
   obtain ⟨ao, ah, af, aA, aB, aC, aD, aE, ai⟩ := ax
   refine (Ze ?_)
   rcases ite_some g with ⟨q, g⟩ | ⟨q, g⟩
   ·refine W_cond_t ai q (Zc (Zd (Za rfl rfl (Zo (v := Value.bool (false)) rfl rfl (Zb (Ze (W_ret (ib_ret (at_ret (at_ret (ib_ret (at_ret (at_ret ?_)))))))))))))
    have aW := Zu g
    subst ae
    have a4 := a5 _ (a6 (by intro _ h; cases h))
    have aX := Zu a4
    subst r
    refine ⟨_, ret1 rfl, ?_⟩
    exact ⟨ao, (Zt ac ah), af, rfl⟩
   refine W_cond_f ai q ?_
   replace q := Zk q
   refine W_skip (ib_normal (Ze (Zd (Za rfl rfl (Exec.add rfl aE rfl (Za rfl rfl (Zm (v := Vi (IntKind.i64.wrap ((j : Int) + 1))) rfl rfl (Zb (Ze ?_)))))))))
   have aY := Zu g
   subst ae
   refine ⟨_, rfl, ?_⟩; exact ⟨ao, (Zt ac ah), af, aA, aB, aC, aD, (Eq.trans rfl (wrap_up a2 (SliceRep.le ab)))⟩
  intro bl bc br aw a7
  obtain ⟨aM, a8, az, aF, aG, aH, aj, aO⟩ := aw
  refine Zc (Zd (Za rfl rfl (Zq rfl aO aj (Zb (Ze (Zc (W_false (Zx (decide_eq_false (by omega))) (W_exit (at_exit (at_exit (ib_here (Ze ?_))))))))))))
  refine ⟨_, .inl a7, ?_⟩; exact ⟨aM, a8, az, aF, aG, aH, aj⟩
 rintro bd bs ⟨bm, ag, ay⟩
 have hm := ag.elim (a3 _) (a1 _)
 clear ag
 obtain ⟨aN, a9, a0, bg, bh, bi, bj⟩ := ay
 refine (Ze (Zc (Zd (Za rfl rfl (Zo (v := Value.bool (true)) rfl rfl (Zb (Ze (W_ret ?_))))))))
 have aZ := Zu hm
 subst r
 refine ⟨_, ret1 rfl, ?_⟩
 exact ⟨aN, a9, a0, rfl⟩
theorem A84 : tyAgg Tryz.prog 84 = some (true, 3) := by kernel_rfl
theorem F84_2 : tyField Tryz.prog 84 2 = some 2 := by kernel_rfl
theorem A82 : tyAgg Tryz.prog 82 = some (false, 1) := by kernel_rfl
theorem S82 : tySlice Tryz.prog 82 = some (127, 7, 112) := by kernel_rfl
theorem A127 : tyAgg Tryz.prog 127 = some (true, 7) := by kernel_rfl
theorem Z127 : tyZero Tryz.prog 127 = some (Value.agg #[Value.string ⟨#[]⟩, Value.string ⟨#[]⟩, Vi (0), Value.slice none 0 0, Value.string ⟨#[]⟩, Vi (0), Value.slice none 0 0]) := by kernel_rfl
theorem F84_0 : tyField Tryz.prog 84 0 = some 0 := by kernel_rfl
theorem F84_1 : tyField Tryz.prog 84 1 = some 1 := by kernel_rfl
theorem ground_condition_sim {w0 w : World} {s : PHeap} {H : List Res} {h : Ground} {g : Cond} {j : Value} {l : Value} {m : Value} {n : Value} {o : Value} {p : Value} {q : Value} {d : Value} {r : Bool} (hm : ground_condition_p h g = some r) (hS : St w0 s (H) w) (ac : SliceRep encAtom s j h.Atoms) (aZ : SliceRep encGFluent s l h.Fluents) (ba : SliceRep (encInt .i64) s m h.Init) (bb : SliceRep encCond s n h.Goal) (bc : SliceRep encGOp s o h.Ops) (au : SliceRep (encInt .i64) s p g.Pos) (av : SliceRep (encInt .i64) s q g.Neg) (ad : SliceRep encGTest s d g.Tests) :
  Calls Tryz.prog 33 #[Value.agg #[j, l, m, n, o], Value.agg #[p, q, d]] w fun e w' => ∃ v, e = .returned v ∧ ((fun (aX : Bool) => ∃ (al : PHeap) , PHeap.le s al ∧ St w0 al (H) w' ∧ v = Value.bool (aX)) r) := by
 unfold ground_condition_p at hm
 refine calls_of_W Tryz.func33 rfl rfl (Zc (Zd (Za rfl rfl (Exec.box (cs := [j, l, m, n, o]) hS rfl rfl rfl ?_))))
 intro u b3 a2
 refine Za rfl rfl (Exec.box (cs := [p, q, d]) a2 rfl rfl rfl ?_)
 intro x b4 af
 refine Za rfl rfl (Zo (v := Value.bool (false)) rfl rfl (Zb (Ze (Zc (Zc (Zd (Za rfl rfl (Zp F84_2 rfl rfl rfl (Za rfl rfl (Zn (af) A82 rfl rfl rfl (Za rfl rfl (Zr S82 rfl rfl ad (Za rfl rfl (Zm (v := Vi (0)) rfl rfl (Zb (Ze ?_))))))))))))))))
 obtain ⟨ae, ax, bp, a9, a8⟩ := ctl_some hm
 refine W_mid (M := fun f' w' => ∃ s', (ae = .next s' ∨ ae = .brk s') ∧ (fun (_ : Unit) => ∃ (am : PHeap) , PHeap.le s am ∧ St w0 am (Res.box u 28 [j, l, m, n, o] :: Res.box x 84 [p, q, d] :: H) w' ∧ f' 2 = Value.pointer (some ⟨u, 0, none⟩) ∧ f' 3 = Value.pointer (some ⟨x, 0, none⟩) ∧ f' 8 = d ∧ f' 9 = Vi ((g.Tests.length : Int))) s') ?_ ?_
 ·refine W_block (W_forC (fun k' s' f' w' => (fun (_ : Unit) => ∃ (an : PHeap) , PHeap.le s an ∧ St w0 an (Res.box u 28 [j, l, m, n, o] :: Res.box x 84 [p, q, d] :: H) w' ∧ f' 2 = Value.pointer (some ⟨u, 0, none⟩) ∧ f' 3 = Value.pointer (some ⟨x, 0, none⟩) ∧ f' 8 = d ∧ f' 9 = Vi ((g.Tests.length : Int)) ∧ f' 10 = Vi (k' : Int)) s') ax ?_ ?_ ?_)
  ·have a3 := (af).f1
   exact ⟨s, (Zv _), a3, rfl, rfl, rfl, rfl, rfl⟩
  ·intro br bz bf bj b5 bo ay ab bq
   obtain ⟨bx, aB, ag, bt, bu, aF, aG, ar⟩ := ay
   refine Zc (Zd (Za rfl rfl (Zq rfl ar aG (Zb (Ze (Zc (W_true (Zx (decide_eq_true (by omega))) (W_skip (Ze (Zc (W_block (Zc (Zd ?_)))))))))))))
   obtain ⟨b, aL, ab⟩ := Zg ab
   refine Za rfl rfl (Exec.index_rep S82 rfl aF ar (ad.mono aB) aL ?_)
   intro bd bs aw
   refine Za rfl rfl (Zw (E := encGTest) ag A127 rfl rfl rfl aw ?_)
   intro b2 aM
   obtain ⟨ap, aq, rfl, aP, aQ⟩ := encGTest_val.1 aM
   refine Za rfl rfl (Exec.alloc (cs := [Value.string (⟨#[]⟩), Value.string (⟨#[]⟩), Vi (0), Value.slice none 0 0, Value.string (⟨#[]⟩), Vi (0), Value.slice none 0 0]) ag Z127 rfl rfl ?_)
   intro be b6 a4
   refine Za rfl rfl (Exec.store_box (ds := [Value.string (b.Op), Value.string (b.A.Op), Vi (b.A.N), ap, Value.string (b.B.Op), Vi (b.B.N), aq]) (es := [Value.string (b.Op), Value.string (b.A.Op), Vi (b.A.N), ap, Value.string (b.B.Op), Vi (b.B.N), aq]) a4 A127 rfl rfl rfl rfl (Zj rfl (Zj rfl (Zj rfl (Zj (aP).one (Zj rfl (Zj rfl (Zj (aQ).one one_nil))))))) (Nat.le_of_ble_eq_true rfl) rfl ?_)
   intro b7 bn
   refine Zb (Ze (Zc ?_))
   cases ab
  intro b0 bk b8 az aA
  obtain ⟨aR, aC, a5, aH, aI, aJ, ai, aW⟩ := az
  refine Zc (Zd (Za rfl rfl (Zq rfl aW ai (Zb (Ze (Zc (W_false (Zx (decide_eq_false (by omega))) (W_exit (at_exit (at_exit (ib_here (Ze ?_))))))))))))
  refine ⟨_, .inl aA, ?_⟩; exact ⟨aR, aC, ((a5).f1).f1, aH, aI, aJ, ai⟩
 rintro bl b9 ⟨b1, ah, a0⟩
 have hm := ah.elim (a9 _) (a8 _)
 clear ah
 obtain ⟨aS, i, aa, aj, ak, bv, bw⟩ := a0
 refine (Ze (Zc ?_))
 obtain ⟨t, c, hm⟩ := Zg hm
 refine W_mid (M := fun f' w' => (fun (t : Bool) => ∃ (ao : PHeap) , PHeap.le aS ao ∧ St w0 ao (H) w' ∧ f' 4 = Value.bool (t)) t) ?_ ?_
 ·refine Zd (Za rfl rfl (Zp F84_0 rfl ak rfl (Za rfl rfl (Zn ((aa).f1) A24 rfl rfl rfl (Za rfl rfl (Zp F28_0 rfl aj rfl (Za rfl rfl (Zn (aa) A22 rfl rfl rfl (Za rfl rfl (Zr S22 rfl rfl (ac.mono i) ?_))))))))))
  obtain ⟨aY, aN, c⟩ := Zg c
  refine Za rfl rfl (Tc rfl rfl rfl (Zi rfl (Zi rfl args_nil)) (ground_indices_sim aN aa (au.mono i)).r ?_)
  rintro _ bA ⟨aT, z, y, rfl⟩
  refine Za rfl rfl (Zm (v := Value.bool (aY)) rfl rfl ?_)
  rcases ite_some c with ⟨a, c⟩ | ⟨a, c⟩
  ·refine WL_run rfl (Zf rfl (Zx a)) rfl (Zp F84_1 rfl ak rfl (WL_run rfl (Zf rfl (Zx a)) rfl (Zn ((y).f1) A24 rfl rfl rfl (WL_run rfl (Zf rfl (Zx a)) rfl (Zp F28_0 rfl aj rfl (WL_run rfl (Zf rfl (Zx a)) rfl (Zn (y) A22 rfl rfl rfl (WL_run rfl (Zf rfl (Zx a)) rfl (Zr S22 rfl rfl (ac.mono (Zt i z)) ?_)))))))))
   obtain ⟨bD, aO, c⟩ := Zg c
   refine WL_run rfl (Zf rfl (Zx a)) rfl (Tc rfl rfl rfl (Zi rfl (Zi rfl args_nil)) (ground_indices_sim aO y (av.mono (Zt i z))).r ?_)
   rintro _ bB ⟨aU, aD, a6, rfl⟩
   refine WL_passes 2 (by rw [a]; rfl) ?_
   refine Zb (Ze ?_)
   have bg := Zu c
   subst t
   exact ⟨aU, (Zt z aD), ((a6).drop).drop, rfl⟩
  replace a := Zk a
  refine WL_passes 8 (by rw [a]; rfl) ?_
  refine Zb (Ze ?_)
  have bh := Zu c
  subst t
  exact ⟨aT, z, ((y).drop).drop, rfl⟩
 intro bm bC a1
 obtain ⟨aV, aE, a7, aK⟩ := a1
 refine (Ze (W_ret ?_))
 have bi := Zu hm
 subst r
 refine ⟨_, ret1 rfl, ?_⟩
 exact ⟨aV, (Zt i aE), a7, aK⟩
theorem N32 : (Tryz.f32.name == "runtime.NumGoroutine") = false := by kernel_rfl
theorem ground_Valid_c2_sim {w0 w : World} {s : PHeap} {H : List Res} {a : Cond} {h : Ground} {b : Value} {c : Value} {d : Value} {g i : Nat} {r : Bool} (hm : ground_Valid_c2_p a h = some r) (hS : St w0 s (H) w) (k : SliceRep (encInt .i64) s b a.Pos) (l : SliceRep (encInt .i64) s c a.Neg) (m : SliceRep encGTest s d a.Tests) (n : At s g i encGround h) :
  Calls Tryz.prog 32 #[Value.agg #[b, c, d], Value.pointer (some ⟨g, i, none⟩)] w fun e w' => ∃ v, e = .returned v ∧ ((fun (ac : Bool) => ∃ (j : PHeap) , PHeap.le s j ∧ St w0 j (H) w' ∧ v = Value.bool (ac)) r) := by
 unfold ground_Valid_c2_p at hm
 refine calls_of_W Tryz.func32 rfl rfl (Zc (Zd (Za rfl rfl (Exec.box (cs := [b, c, d]) hS rfl rfl rfl ?_))))
 intro ae am f
 refine Za rfl rfl (Zo (v := Value.bool (false)) rfl rfl (Zb (Ze (Zc (Zd (Za rfl rfl (Zw (E := encGround) f A28 rfl rfl rfl n ?_)))))))
 intro al q
 obtain ⟨ag, ah, ai, aj, ak, rfl, u, x, y, z, aa⟩ := encGround_val.1 q
 refine Za rfl rfl (Exec.load_box_agg (ds := [b, c, d]) (f) A84 rfl rfl rfl ?_)
 obtain ⟨ad, t, hm⟩ := Zg hm
 refine Za rfl rfl (Tc rfl rfl rfl (Zi rfl (Zi rfl args_nil)) (ground_condition_sim t f u x y z aa k l m).r ?_)
 rintro _ an ⟨ab, p, o, rfl⟩
 refine Za rfl rfl (Exec.not rfl rfl (Za rfl rfl (Zo (v := Value.bool (!ad)) rfl rfl (Zb (Ze (W_ret ?_))))))
 have af := Zu hm
 subst r
 refine ⟨_, ret1 rfl, ?_⟩
 exact ⟨ab, p, (o).drop, rfl⟩
theorem slices_IndexFunc_apiCond_Valid_c2_sim {w0 w : World} {s : PHeap} {H : List Res} {l : (List Cond)} {o : Ground} {c : Value} {d i : Nat} {r : Int} (hm : slices_IndexFunc_apiCond_Valid_c2_p l o = some r) (hS : St w0 s (H) w) (m : SliceRep encCond s c l) (ah : At s d i encGround o) :
  Calls Tryz.prog 62 #[c, Value.func (.func 32) #[] #[Value.pointer (some ⟨d, i, none⟩)]] w fun e w' => ∃ v, e = .returned v ∧ ((fun (aB : Int) => ∃ (ad : PHeap) , PHeap.le s ad ∧ St w0 ad (H) w' ∧ v = Vi (aB)) r) := by
 unfold slices_IndexFunc_apiCond_Valid_c2_p at hm
 refine calls_of_W Tryz.func62 rfl rfl (Zc (Zd (Za rfl rfl (Zo (v := Vi (0)) rfl rfl (Zb (Ze (Zc (Zc (Zd (Za rfl rfl (Zm (v := c) rfl rfl (Za rfl rfl (Zr S25 rfl rfl m (Za rfl rfl (Zm (v := Vi (0)) rfl rfl (Zb (Ze ?_)))))))))))))))))
 obtain ⟨p, aj, av, ar, ap⟩ := ctl_some hm
 refine W_mid (M := fun f' w' => ∃ s', (p = .next s' ∨ p = .brk s') ∧ (fun (_ : Unit) => ∃ (ae : PHeap) , PHeap.le s ae ∧ St w0 ae (H) w' ∧ f' 0 = c ∧ f' 1 = Value.func (.func 32) #[] #[Value.pointer (some ⟨d, i, none⟩)] ∧ f' 7 = Vi ((l.length : Int))) s') ?_ ?_
 ·refine W_block (W_forC (fun k' s' f' w' => (fun (_ : Unit) => ∃ (af : PHeap) , PHeap.le s af ∧ St w0 af (H) w' ∧ f' 0 = c ∧ f' 1 = Value.func (.func 32) #[] #[Value.pointer (some ⟨d, i, none⟩)] ∧ f' 7 = Vi ((l.length : Int)) ∧ f' 8 = Vi (k' : Int)) s') aj ?_ ?_ ?_)
  ·exact ⟨s, (Zv _), hS, rfl, rfl, rfl, rfl⟩
  ·intro b aP q aH aW aq ak a aw
   obtain ⟨aO, j, t, z, aa, ab, n⟩ := ak
   refine Zc (Zd (Za rfl rfl (Zq rfl n ab (Zb (Ze (Zc (W_true (Zx (decide_eq_true (by omega))) (W_skip (Ze (Zc (W_block (Zc (Zd (Za rfl rfl (Zm (v := Vi ((b : Int))) rfl n (Za rfl rfl (Zo (v := Vi ((b : Int))) rfl rfl (Zb (Ze (Zc (Zd (Za rfl rfl (Zm (v := Value.func (.func 32) #[] #[Value.pointer (some ⟨d, i, none⟩)]) rfl aa (Za rfl rfl (Zm (v := c) rfl z (Za rfl rfl (Zm (v := Vi ((b : Int))) rfl rfl ?_)))))))))))))))))))))))))))
   obtain ⟨ba, a2, a⟩ := Zg a
   refine Za rfl rfl (Exec.index_rep S25 rfl rfl rfl (m.mono j) a2 ?_)
   intro aC aK ai
   refine Za rfl rfl (Zw (E := encCond) t A84 rfl rfl rfl ai ?_)
   intro aV a3
   obtain ⟨aS, aT, aU, rfl, a5, a6, a7⟩ := encCond_val.1 a3
   obtain ⟨bb, a4, a⟩ := Zg a
   refine Za rfl rfl (Exec.callc rfl rfl Tryz.func32 rfl N32 (Zi rfl args_nil) rfl ((ground_Valid_c2_sim a4 t a5 a6 a7 (ah.mono j)).mono ?_))
   rintro _ aX ⟨_, rfl, ⟨ag, y, u, rfl⟩⟩
   refine ⟨_, rfl, ?_⟩
   refine Zb (Ze ?_)
   rcases ite_some a with ⟨g, a⟩ | ⟨g, a⟩
   ·refine W_cond_t rfl g (Zc (Zd (Za rfl rfl (Zm (v := Vi ((b : Int))) rfl rfl (Za rfl rfl (Zo (v := Vi ((b : Int))) rfl rfl (Zb (Ze (W_ret (ib_ret (at_ret (at_ret (ib_ret (at_ret (at_ret ?_)))))))))))))))
    have aD := Zu a
    subst q
    have au := av _ (aw (by intro _ h; cases h))
    have aE := Zu au
    subst r
    refine ⟨_, ret1 rfl, ?_⟩
    exact ⟨ag, (Zt j y), u, rfl⟩
   refine W_cond_f rfl g ?_
   replace g := Zk g
   refine W_skip (ib_normal (Ze (Zd (Za rfl rfl (Exec.add rfl n rfl (Za rfl rfl (Zm (v := Vi (IntKind.i64.wrap ((b : Int) + 1))) rfl rfl (Zb (Ze ?_)))))))))
   have aF := Zu a
   subst q
   refine ⟨_, rfl, ?_⟩; exact ⟨ag, (Zt j y), u, z, aa, ab, (Eq.trans rfl (wrap_up aq (SliceRep.le m)))⟩
  intro aQ aI aY al ax
  obtain ⟨a8, ay, an, a0, a1, ac, aA⟩ := al
  refine Zc (Zd (Za rfl rfl (Zq rfl aA ac (Zb (Ze (Zc (W_false (Zx (decide_eq_false (by omega))) (W_exit (at_exit (at_exit (ib_here (Ze ?_))))))))))))
  refine ⟨_, .inl ax, ?_⟩; exact ⟨a8, ay, an, a0, a1, ac⟩
 rintro aJ aZ ⟨aR, x, am⟩
 have hm := x.elim (ar _) (ap _)
 clear x
 obtain ⟨a9, az, ao, aL, aM, aN⟩ := am
 refine (Ze (Zc (Zd (Za rfl rfl (Zo (v := Vi ((-1))) rfl rfl (Zb (Ze (W_ret ?_))))))))
 have aG := Zu hm
 subst r
 refine ⟨_, ret1 rfl, ?_⟩
 exact ⟨a9, az, ao, rfl⟩
theorem slices_ContainsFunc_apiCond_Valid_c2_sim {w0 w : World} {s : PHeap} {H : List Res} {g : (List Cond)} {d : Ground} {c : Value} {a b : Nat} {r : Bool} (hm : slices_ContainsFunc_apiCond_Valid_c2_p g d = some r) (hS : St w0 s (H) w) (h : SliceRep encCond s c g) (i : At s a b encGround d) :
  Calls Tryz.prog 31 #[c, Value.func (.func 32) #[] #[Value.pointer (some ⟨a, b, none⟩)]] w fun e w' => ∃ v, e = .returned v ∧ ((fun (n : Bool) => ∃ (f : PHeap) , PHeap.le s f ∧ St w0 f (H) w' ∧ v = Value.bool (n)) r) := by
 unfold slices_ContainsFunc_apiCond_Valid_c2_p at hm
 refine calls_of_W Tryz.func31 rfl rfl (Zc (Zd (Za rfl rfl (Zo (v := Value.bool (false)) rfl rfl (Zb (Ze (Zc (Zd (Za rfl rfl (Zm (v := c) rfl rfl (Za rfl rfl (Zm (v := Value.func (.func 32) #[] #[Value.pointer (some ⟨a, b, none⟩)]) rfl rfl ?_))))))))))))
 obtain ⟨o, l, hm⟩ := Zg hm
 refine Za rfl rfl (Tc rfl rfl rfl (Zi rfl (Zi rfl args_nil)) (slices_IndexFunc_apiCond_Valid_c2_sim l hS h i).r ?_)
 rintro _ q ⟨m, k, j, rfl⟩
 refine Za rfl rfl (Exec.geq rfl rfl rfl (Za rfl rfl (Zo (v := Value.bool (decide (0 ≤ o))) rfl rfl (Zb (Ze (W_ret ?_))))))
 have p := Zu hm
 subst r
 refine ⟨_, ret1 rfl, ?_⟩
 exact ⟨m, k, j, rfl⟩
theorem A91 : tyAgg Tryz.prog 91 = some (true, 7) := by kernel_rfl
theorem F91_3 : tyField Tryz.prog 91 3 = some 5 := by kernel_rfl
theorem A88 : tyAgg Tryz.prog 88 = some (false, 1) := by kernel_rfl
theorem S88 : tySlice Tryz.prog 88 = some (98, 5, 88) := by kernel_rfl
theorem F91_1 : tyField Tryz.prog 91 1 = some 1 := by kernel_rfl
theorem F91_0 : tyField Tryz.prog 91 0 = some 0 := by kernel_rfl
theorem A9 : tyAgg Tryz.prog 9 = some (false, 1) := by kernel_rfl
theorem ground_named_sim {w0 w : World} {s : PHeap} {H : List Res} {a : ByteArray}  {r : Bool} (hm : ground_named_p a = some r) (hS : St w0 s (H) w)  :
  Calls Tryz.prog 65 #[Value.string (a)] w fun e w' => ∃ v, e = .returned v ∧ ((fun (aA : Bool) => ∃ (ad : PHeap) , PHeap.le s ad ∧ St w0 ad (H) w' ∧ v = Value.bool (aA)) r) := by
 unfold ground_named_p at hm
 refine calls_of_W Tryz.func65 rfl rfl (Zc (Zd (Za rfl rfl (Zo (v := Value.bool (false)) rfl rfl (Zb (Ze (Zc (Zc (Zd (Za rfl rfl (Zm (v := Value.string (a)) rfl rfl (Za rfl rfl (Exec.len_str Tryz.underlying9 rfl rfl (Za rfl rfl (Zm (v := Vi (0)) rfl rfl (Zb (Ze ?_)))))))))))))))))
 obtain ⟨aP, a6, hm⟩ := Zg hm
 obtain ⟨p, aj, aw, au, aq⟩ := ctl_some hm
 refine W_mid (M := fun f' w' => ∃ s', (p = .next s' ∨ p = .brk s') ∧ (fun (_ : Unit) => ∃ (ae : PHeap) , PHeap.le s ae ∧ St w0 ae (H) w' ∧ f' 0 = Value.string (a) ∧ f' 5 = Vi ((a.size : Int))) s') ?_ ?_
 ·refine W_block (W_forC (fun k' s' f' w' => (fun (_ : Unit) => ∃ (af : PHeap) , PHeap.le s af ∧ St w0 af (H) w' ∧ f' 0 = Value.string (a) ∧ f' 5 = Vi ((a.size : Int)) ∧ f' 6 = Vi (k' : Int)) s') aj ?_ ?_ ?_)
  ·exact ⟨s, (Zv _), hS, rfl, rfl, rfl⟩
  ·intro g aM q aH aQ ar ak c ax
   obtain ⟨o, y, t, l, n, m⟩ := ak
   refine Zc (Zd (Za rfl rfl (Zq rfl m n (Zb (Ze (Zc (W_true (Zx (decide_eq_true (by omega))) (W_skip (Ze (Zc (W_block (Zc (Zd (Za rfl rfl (Zm (v := Vi ((g : Int))) rfl m (Za rfl rfl (Zo (v := Vi ((g : Int))) rfl rfl (Zb (Ze (Zc ?_))))))))))))))))))))
   obtain ⟨j, d, c⟩ := Zg c
   refine W_mid (M := fun f' w' => (fun (j : Bool) => ∃ (ag : PHeap) , PHeap.le o ag ∧ St w0 ag (H) w' ∧ f' 0 = Value.string (a) ∧ f' 5 = Vi ((a.size : Int)) ∧ f' 6 = Vi ((g : Int)) ∧ f' 18 = Value.bool (j)) j) ?_ ?_
   ·refine Zd (Za rfl rfl (Zm (v := Value.string (a)) rfl l (Za rfl rfl (Zm (v := Vi ((g : Int))) rfl rfl ?_))))
    obtain ⟨ai, ac, d⟩ := Zg d
    refine Za rfl rfl (Exec.index_str Tryz.underlying9 rfl rfl rfl ac (Za rfl rfl (Zq rfl rfl rfl (Za rfl rfl (Zm (v := Value.bool (decide (ai < 32))) rfl rfl ?_)))))
    rcases ite_some d with ⟨b, d⟩ | ⟨b, d⟩
    ·refine WL_passes 5 (by rw [b]; rfl) ?_
     refine Zb (Ze ?_)
     have aB := Zu d
     subst j
     exact ⟨o, (Zv _), t, l, n, m, rfl⟩
    replace b := Zk b
    refine WL_run rfl (Zf rfl (Zx b)) rfl (Zm (v := Value.string (a)) rfl l (WL_run rfl (Zf rfl (Zx b)) rfl (Zm (v := Vi ((g : Int))) rfl rfl (WL_run rfl (Zf rfl (Zx b)) rfl (Exec.index_str Tryz.underlying9 rfl rfl rfl ac (WL_run rfl (Zf rfl (Zx b)) rfl (Exec.gtr rfl rfl rfl (Za rfl rfl (Exec.pick_f (v := Value.bool (decide (126 < ai))) rfl (Zx b) rfl (Zb (Ze ?_)))))))))))
    have aC := Zu d
    subst j
    exact ⟨o, (Zv _), t, l, n, m, rfl⟩
   intro aI aR am
   obtain ⟨ah, z, u, a1, a2, a3, aa⟩ := am
   refine (Ze ?_)
   rcases ite_some c with ⟨i, c⟩ | ⟨i, c⟩
   ·refine W_cond_t aa i (Zc (Zd (Za rfl rfl (Zo (v := Value.bool (false)) rfl rfl (Zb (Ze (W_ret (ib_ret (at_ret (at_ret (ib_ret (at_ret (at_ret ?_)))))))))))))
    have aD := Zu c
    subst q
    have av := aw _ (ax (by intro _ h; cases h))
    have aE := Zu av
    subst r
    refine ⟨_, ret1 rfl, ?_⟩
    exact ⟨ah, (Zt y z), u, rfl⟩
   refine W_cond_f aa i ?_
   replace i := Zk i
   refine W_skip (ib_normal (Ze (Zd (Za rfl rfl (Exec.add rfl a3 rfl (Za rfl rfl (Zm (v := Vi (IntKind.i64.wrap ((g : Int) + 1))) rfl rfl (Zb (Ze ?_)))))))))
   have aF := Zu c
   subst q
   refine ⟨_, rfl, ?_⟩; exact ⟨ah, (Zt y z), u, a1, a2, (Eq.trans rfl (wrap_up ar (by have h := must_some a6; simp at h; simp only [maxLen]; omega)))⟩
  intro aN aJ aS al ay
  obtain ⟨a7, az, ao, a4, ab, a9⟩ := al
  refine Zc (Zd (Za rfl rfl (Zq rfl a9 ab (Zb (Ze (Zc (W_false (Zx (decide_eq_false (by omega))) (W_exit (at_exit (at_exit (ib_here (Ze ?_))))))))))))
  refine ⟨_, .inl ay, ?_⟩; exact ⟨a7, az, ao, a4, ab⟩
 rintro aK aT ⟨aO, x, an⟩
 have hm := x.elim (au _) (aq _)
 clear x
 obtain ⟨a8, a0, ap, a5, aL⟩ := an
 refine (Ze (Zc (Zd (Za rfl rfl (Zm (v := Value.string (a)) rfl a5 (Za rfl rfl (Exec.len_str Tryz.underlying9 rfl rfl (Za rfl rfl (Exec.leq rfl rfl rfl (Za rfl rfl (Zo (v := Value.bool (decide ((a.size : Int) ≤ 256))) rfl rfl (Zb (Ze (W_ret ?_))))))))))))))
 have aG := Zu hm
 subst r
 refine ⟨_, ret1 rfl, ?_⟩
 exact ⟨a8, a0, ap, rfl⟩
theorem F91_2 : tyField Tryz.prog 91 2 = some 2 := by kernel_rfl
theorem A98 : tyAgg Tryz.prog 98 = some (true, 5) := by kernel_rfl
theorem Z98 : tyZero Tryz.prog 98 = some (Value.agg #[Value.slice none 0 0, Value.slice none 0 0, Value.slice none 0 0, Vi (0), Value.bool false]) := by kernel_rfl
theorem F98_1 : tyField Tryz.prog 98 1 = some 3 := by kernel_rfl
theorem F98_0 : tyField Tryz.prog 98 0 = some 0 := by kernel_rfl
theorem F91_4 : tyField Tryz.prog 91 4 = some 6 := by kernel_rfl
theorem A89 : tyAgg Tryz.prog 89 = some (false, 1) := by kernel_rfl
theorem S89 : tySlice Tryz.prog 89 = some (104, 4, 56) := by kernel_rfl
theorem A104 : tyAgg Tryz.prog 104 = some (true, 4) := by kernel_rfl
theorem Z104 : tyZero Tryz.prog 104 = some (Value.agg #[Vi (0), Value.string ⟨#[]⟩, Vi (0), Value.slice none 0 0]) := by kernel_rfl
theorem ground_operator_sim {w0 w : World} {s : PHeap} {H : List Res} {aj : Ground} {a : GOp} {i : Value} {j : Value} {l : Value} {m : Value} {n : Value} {af : Value} {ag : Value} {ah : Value} {t : Value} {y : Value} {r : Bool} (hm : ground_operator_p aj a = some r) (hS : St w0 s (H) w) (ay : SliceRep encAtom s i aj.Atoms) (a8 : SliceRep encGFluent s j aj.Fluents) (a9 : SliceRep (encInt .i64) s l aj.Init) (aA : SliceRep encCond s m aj.Goal) (aB : SliceRep encGOp s n aj.Ops) (bd : SliceRep (encInt .i64) s af a.Pre.Pos) (be : SliceRep (encInt .i64) s ag a.Pre.Neg) (bf : SliceRep encGTest s ah a.Pre.Tests) (au : SliceRep encGChange s t a.Changes) (aC : SliceRep encGAssign s y a.Assigns) :
  Calls Tryz.prog 36 #[Value.agg #[i, j, l, m, n], Value.agg #[Value.string (a.Name), Vi (a.Cost), af, ag, ah, t, y]] w fun e w' => ∃ v, e = .returned v ∧ ((fun (cr : Bool) => ∃ (aU : PHeap) , PHeap.le s aU ∧ St w0 aU (H) w' ∧ v = Value.bool (cr)) r) := by
 unfold ground_operator_p at hm
 refine calls_of_W Tryz.func36 rfl rfl (Zc (Zd (Za rfl rfl (Exec.box (cs := [i, j, l, m, n]) hS rfl rfl rfl ?_))))
 intro c di bt
 refine Za rfl rfl (Exec.box (cs := [Value.string (a.Name), Vi (a.Cost), af, ag, ah, t, y]) bt rfl rfl rfl ?_)
 intro z dj aa
 refine Za rfl rfl (Zo (v := Value.bool (false)) rfl rfl (Zb (Ze (Zc (Zc ?_)))))
 obtain ⟨ai, b, hm⟩ := Zg hm
 refine W_mid (M := fun f' w' => (fun (ai : Bool) => ∃ (aV : PHeap) , PHeap.le s aV ∧ St w0 aV (Res.box c 28 [i, j, l, m, n] :: Res.box z 91 [Value.string (a.Name), Vi (a.Cost), af, ag, ah, t, y] :: H) w' ∧ f' 2 = Value.pointer (some ⟨c, 0, none⟩) ∧ f' 3 = Value.pointer (some ⟨z, 0, none⟩) ∧ f' 36 = Value.bool (ai)) ai) ?_ ?_
 ·refine Zd (Za rfl rfl (Zp F91_3 rfl rfl rfl (Za rfl rfl (Zn (aa) A88 rfl rfl rfl (Za rfl rfl (Zr S88 rfl rfl au (Za rfl rfl (Exec.gtr rfl rfl rfl (Za rfl rfl (Zm (v := Value.bool (decide (256 < (a.Changes.length : Int)))) rfl rfl ?_))))))))))
  rcases ite_some b with ⟨ac, b⟩ | ⟨ac, b⟩
  ·refine WL_passes 22 (by rw [ac]; rfl) ?_
   refine Zb (Ze ?_)
   have c0 := Zu b
   subst ai
   exact ⟨s, (Zv _), (aa).f1, rfl, rfl, rfl⟩
  replace ac := Zk ac
  refine WL_run rfl (Zf rfl (Zx ac)) rfl (Zp F91_1 rfl rfl rfl (WL_run rfl (Zf rfl (Zx ac)) rfl (Zn (aa) A3 rfl rfl rfl (WL_run rfl (Zf rfl (Zx ac)) rfl (Zq rfl rfl rfl ?_)))))
  refine WL_passes 2 (by rw [ac]; rfl) ?_
  rcases ite_some b with ⟨ad, b⟩ | ⟨ad, b⟩
  ·refine WL_passes 17 (by rw [ad]; rfl) ?_
   refine Zb (Ze ?_)
   have c1 := Zu b
   subst ai
   exact ⟨s, (Zv _), (aa).f1, rfl, rfl, rfl⟩
  replace ad := Zk ad
  refine WL_run rfl (Zf rfl (Zx ad)) rfl (Zp F91_1 rfl rfl rfl (WL_run rfl (Zf rfl (Zx ad)) rfl (Zn (aa) A3 rfl rfl rfl (WL_run rfl (Zf rfl (Zx ad)) rfl (Exec.gtr rfl rfl rfl ?_)))))
  refine WL_passes 2 (by rw [ad]; rfl) ?_
  rcases ite_some b with ⟨u, b⟩ | ⟨u, b⟩
  ·refine WL_passes 12 (by rw [u]; rfl) ?_
   refine Zb (Ze ?_)
   have c2 := Zu b
   subst ai
   exact ⟨s, (Zv _), (aa).f1, rfl, rfl, rfl⟩
  replace u := Zk u
  refine WL_run rfl (Zf rfl (Zx u)) rfl (Zp F91_0 rfl rfl rfl (WL_run rfl (Zf rfl (Zx u)) rfl (Zn (aa) A9 rfl rfl rfl ?_)))
  obtain ⟨d2, ca, b⟩ := Zg b
  refine WL_run rfl (Zf rfl (Zx u)) rfl (Tc rfl rfl rfl (Zi rfl args_nil) (ground_named_sim ca aa ).r ?_)
  rintro _ dk ⟨ci, q, av, rfl⟩
  refine WL_run rfl (Zf rfl (Zx u)) rfl (Exec.not rfl rfl ?_)
  refine WL_passes 2 (by rw [u]; rfl) ?_
  rcases ite_some b with ⟨o, b⟩ | ⟨o, b⟩
  ·refine WL_passes 6 (by rw [o]; rfl) ?_
   refine Zb (Ze ?_)
   have c3 := Zu b
   subst ai
   exact ⟨ci, q, (av).f1, rfl, rfl, rfl⟩
  replace o := Zk o
  refine WL_run rfl (Zf rfl (Zx o)) rfl (Exec.load_box_agg (ds := [i, j, l, m, n]) ((av).f1) A28 rfl rfl rfl (WL_run rfl (Zf rfl (Zx o)) rfl (Zp F91_2 rfl rfl rfl (WL_run rfl (Zf rfl (Zx o)) rfl (Exec.load_box_agg (ds := [af, ag, ah]) (av) A84 rfl rfl rfl ?_)))))
  obtain ⟨ct, cb, b⟩ := Zg b
  refine WL_run rfl (Zf rfl (Zx o)) rfl (Tc rfl rfl rfl (Zi rfl (Zi rfl args_nil)) (ground_condition_sim cb av (ay.mono q) (a8.mono q) (a9.mono q) (aA.mono q) (aB.mono q) (bd.mono q) (be.mono q) (bf.mono q)).r ?_)
  rintro _ dl ⟨cj, bD, bu, rfl⟩
  refine WL_run rfl (Zf rfl (Zx o)) rfl (Exec.not rfl rfl (Za rfl rfl (Exec.pick_f (v := Value.bool (!ct)) rfl (Zx o) rfl (Zb (Ze ?_)))))
  have c4 := Zu b
  subst ai
  exact ⟨cj, (Zt q bD), (bu).f1, rfl, rfl, rfl⟩
 intro cA dm bp
 obtain ⟨a2, d, aF, bK, aM, aN⟩ := bp
 refine (Ze ?_)
 rcases ite_some hm with ⟨an, hm⟩ | ⟨an, hm⟩
 ·refine W_cond_t aN an (Zc ?_)
  cases hm
 refine W_cond_f aN an ?_
 replace an := Zk an
 refine W_skip (Ze (Zc (Zc (Zd (Za rfl rfl (Zp F91_3 rfl aM rfl (Za rfl rfl (Zn ((aF).f1) A88 rfl rfl rfl (Za rfl rfl (Zr S88 rfl rfl (au.mono d) (Za rfl rfl (Zm (v := Vi (0)) rfl rfl (Zb (Ze ?_))))))))))))))
 obtain ⟨aD, bj, cK, b9, b6⟩ := ctl_some hm
 refine W_mid (M := fun f' w' => ∃ s', (aD = .next s' ∨ aD = .brk s') ∧ (fun (_ : Unit) => ∃ (aW : PHeap) , PHeap.le a2 aW ∧ St w0 aW (Res.box c 28 [i, j, l, m, n] :: Res.box z 91 [Value.string (a.Name), Vi (a.Cost), af, ag, ah, t, y] :: H) w' ∧ f' 2 = Value.pointer (some ⟨c, 0, none⟩) ∧ f' 3 = Value.pointer (some ⟨z, 0, none⟩) ∧ f' 38 = t ∧ f' 39 = Vi ((a.Changes.length : Int))) s') ?_ ?_
 ·refine W_block (W_forC (fun k' s' f' w' => (fun (_ : Unit) => ∃ (aX : PHeap) , PHeap.le a2 aX ∧ St w0 aX (Res.box c 28 [i, j, l, m, n] :: Res.box z 91 [Value.string (a.Name), Vi (a.Cost), af, ag, ah, t, y] :: H) w' ∧ f' 2 = Value.pointer (some ⟨c, 0, none⟩) ∧ f' 3 = Value.pointer (some ⟨z, 0, none⟩) ∧ f' 38 = t ∧ f' 39 = Vi ((a.Changes.length : Int)) ∧ f' 40 = Vi (k' : Int)) s') bj ?_ ?_ ?_)
  ·have bv := (aF).f1
   exact ⟨a2, (Zv _), (bv).f1, bK, aM, rfl, rfl, rfl⟩
  ·intro aL da bi cB dn b8 bl x cM
   obtain ⟨a3, ae, aG, ap, a1, aw, ax, aq⟩ := bl
   refine Zc (Zd (Za rfl rfl (Zq rfl aq ax (Zb (Ze (Zc (W_true (Zx (decide_eq_true (by omega))) (W_skip (Ze (Zc (W_block (Zc (Zd ?_)))))))))))))
   obtain ⟨ar, cc, x⟩ := Zg x
   refine Za rfl rfl (Exec.index_rep S88 rfl aw aq (au.mono (Zt d ae)) cc ?_)
   intro cv cP bg
   refine Za rfl rfl (Zw (E := encGChange) aG A98 rfl rfl rfl bg ?_)
   intro dg cd
   obtain ⟨a5, a6, a7, rfl, aR, aS, aT⟩ := encGChange_val.1 cd
   refine Za rfl rfl (Exec.alloc (cs := [Value.slice none 0 0, Value.slice none 0 0, Value.slice none 0 0, Vi (0), Value.bool (false)]) aG Z98 rfl rfl ?_)
   intro cw dp bw
   refine Za rfl rfl (Exec.store_box (ds := [a5, a6, a7, Vi (ar.Atom), Value.bool (ar.Add)]) (es := [a5, a6, a7, Vi (ar.Atom), Value.bool (ar.Add)]) bw A98 rfl rfl rfl rfl (Zj (aR).one (Zj (aS).one (Zj (aT).one (Zj rfl (Zj rfl one_nil))))) (Nat.le_of_ble_eq_true rfl) rfl ?_)
   intro dq ab
   refine Zb (Ze (Zc ?_))
   obtain ⟨al, h, x⟩ := Zg x
   refine W_mid (M := fun f' w' => (fun (al : Bool) => ∃ (aY : PHeap) , PHeap.le a3 aY ∧ St w0 aY (Res.box c 28 [i, j, l, m, n] :: Res.box z 91 [Value.string (a.Name), Vi (a.Cost), af, ag, ah, t, y] :: H) w' ∧ f' 2 = Value.pointer (some ⟨c, 0, none⟩) ∧ f' 3 = Value.pointer (some ⟨z, 0, none⟩) ∧ f' 38 = t ∧ f' 39 = Vi ((a.Changes.length : Int)) ∧ f' 40 = Vi ((aL : Int)) ∧ f' 61 = Value.bool (al)) al) ?_ ?_
   ·refine Zd (Za rfl rfl (Zp F98_1 rfl rfl rfl (Za rfl rfl (Zn (ab) A3 rfl rfl rfl (Za rfl rfl (Zq rfl rfl rfl (Za rfl rfl (Zm (v := Value.bool (decide (ar.Atom < 0))) rfl rfl ?_))))))))
    rcases ite_some h with ⟨g, h⟩ | ⟨g, h⟩
    ·refine WL_passes 14 (by rw [g]; rfl) ?_
     refine Zb (Ze ?_)
     have c5 := Zu h
     subst al
     exact ⟨a3, (Zv _), (((ab).drop).f1).f1, ap, a1, aw, ax, aq, rfl⟩
    replace g := Zk g
    refine WL_run rfl (Zf rfl (Zx g)) rfl (Zp F98_1 rfl rfl rfl (WL_run rfl (Zf rfl (Zx g)) rfl (Zn (ab) A3 rfl rfl rfl (WL_run rfl (Zf rfl (Zx g)) rfl (Zp F28_0 rfl ap rfl (WL_run rfl (Zf rfl (Zx g)) rfl (Zn ((ab).f1) A22 rfl rfl rfl (WL_run rfl (Zf rfl (Zx g)) rfl (Zr S22 rfl rfl (ay.mono (Zt d ae)) (WL_run rfl (Zf rfl (Zx g)) rfl (Exec.geq rfl rfl rfl ?_)))))))))))
    refine WL_passes 2 (by rw [g]; rfl) ?_
    rcases ite_some h with ⟨p, h⟩ | ⟨p, h⟩
    ·refine WL_passes 6 (by rw [p]; rfl) ?_
     refine Zb (Ze ?_)
     have c6 := Zu h
     subst al
     exact ⟨a3, (Zv _), (((ab).drop).f1).f1, ap, a1, aw, ax, aq, rfl⟩
    replace p := Zk p
    refine WL_run rfl (Zf rfl (Zx p)) rfl (Exec.load_box_agg (ds := [i, j, l, m, n]) ((ab).f1) A28 rfl ap rfl (WL_run rfl (Zf rfl (Zx p)) rfl (Zp F98_0 rfl rfl rfl (WL_run rfl (Zf rfl (Zx p)) rfl (Exec.load_box_agg (ds := [a5, a6, a7]) (ab) A84 rfl rfl rfl ?_)))))
    obtain ⟨cu, ce, h⟩ := Zg h
    refine WL_run rfl (Zf rfl (Zx p)) rfl (Tc rfl rfl rfl (Zi rfl (Zi rfl args_nil)) (ground_condition_sim ce ab (ay.mono (Zt d ae)) (a8.mono (Zt d ae)) (a9.mono (Zt d ae)) (aA.mono (Zt d ae)) (aB.mono (Zt d ae)) aR aS aT).r ?_)
    rintro _ dr ⟨ck, bE, bx, rfl⟩
    refine WL_run rfl (Zf rfl (Zx p)) rfl (Exec.not rfl rfl (Za rfl rfl (Exec.pick_f (v := Value.bool (!cu)) rfl (Zx p) rfl (Zb (Ze ?_)))))
    have c7 := Zu h
    subst al
    exact ⟨ck, bE, (((bx).drop).f1).f1, ap, a1, aw, ax, aq, rfl⟩
   intro cC dt bq
   obtain ⟨cl, bF, bz, bL, bM, bN, bO, bP, aO⟩ := bq
   refine (Ze ?_)
   rcases ite_some x with ⟨ao, x⟩ | ⟨ao, x⟩
   ·refine W_cond_t aO ao (Zc ?_)
    cases x
   refine W_cond_f aO ao ?_
   replace ao := Zk ao
   refine W_skip (ib_normal (Ze (Zd (Za rfl rfl (Exec.add rfl bP rfl (Za rfl rfl (Zm (v := Vi (IntKind.i64.wrap ((aL : Int) + 1))) rfl rfl (Zb (Ze ?_)))))))))
   have c8 := Zu x
   subst bi
   refine ⟨_, rfl, ?_⟩; exact ⟨cl, (Zt ae bF), ((bz).f1).f1, bL, bM, bN, bO, (Eq.trans rfl (wrap_up b8 (SliceRep.le (au.mono d))))⟩
  intro db cD du bm bB
  obtain ⟨cm, bG, b0, bQ, bR, bS, aP, cp⟩ := bm
  refine Zc (Zd (Za rfl rfl (Zq rfl cp aP (Zb (Ze (Zc (W_false (Zx (decide_eq_false (by omega))) (W_exit (at_exit (at_exit (ib_here (Ze ?_))))))))))))
  refine ⟨_, .inl bB, ?_⟩; exact ⟨cm, bG, ((b0).f1).f1, bQ, bR, bS, aP⟩
 rintro cE dv ⟨dc, aJ, br⟩
 have hm := aJ.elim (b9 _) (b6 _)
 clear aJ
 obtain ⟨a4, a0, b1, bT, bU, cR, cS⟩ := br
 refine (Ze (Zc (Zd (Za rfl rfl (Exec.make_bmap (k := 3) (e := 4) b1 rfl ?_)))))
 intro am dw aH
 refine Za rfl rfl (Zo (v := Value.map (some am)) rfl rfl (Zb (Ze (Zc (Zc (Zd (Za rfl rfl (Zp F91_4 rfl bU rfl (Za rfl rfl (Zn ((aH).f2) A89 rfl rfl rfl (Za rfl rfl (Zr S89 rfl rfl (aC.mono (Zt d a0)) (Za rfl rfl (Zm (v := Vi (0)) rfl rfl (Zb (Ze ?_))))))))))))))))
 obtain ⟨aE, bk, cL, bA, b7⟩ := ctl_some hm
 refine W_mid (M := fun f' w' => ∃ s', (aE = .next s' ∨ aE = .brk s') ∧ (fun (_ : Unit) => ∃ (aZ : PHeap) , PHeap.le a4 aZ ∧ St w0 aZ (Res.box c 28 [i, j, l, m, n] :: Res.bmap Tryz.prog 3 4 am ([] : BMap) :: H) w' ∧ f' 2 = Value.pointer (some ⟨c, 0, none⟩) ∧ f' 7 = Value.map (some am) ∧ f' 65 = y ∧ f' 66 = Vi ((a.Assigns.length : Int))) s') ?_ ?_
 ·refine W_block (W_forC (fun k' s' f' w' => (fun (_ : Unit) => ∃ (ba : PHeap) , PHeap.le a4 ba ∧ St w0 ba (Res.box c 28 [i, j, l, m, n] :: Res.bmap Tryz.prog 3 4 am ([] : BMap) :: H) w' ∧ f' 2 = Value.pointer (some ⟨c, 0, none⟩) ∧ f' 7 = Value.map (some am) ∧ f' 65 = y ∧ f' 66 = Vi ((a.Assigns.length : Int)) ∧ f' 67 = Vi (k' : Int)) s') bk ?_ ?_ ?_)
  ·have b2 := ((aH).f2).drop
   exact ⟨a4, (Zv _), (b2).f1, bT, rfl, rfl, rfl, rfl⟩
  ·intro cO dd cz cF dx cJ bn az cN
   obtain ⟨cZ, bH, aI, cT, cU, bV, bW, bc⟩ := bn
   refine Zc (Zd (Za rfl rfl (Zq rfl bc bW (Zb (Ze (Zc (W_true (Zx (decide_eq_true (by omega))) (W_skip (Ze (Zc (W_block (Zc (Zd ?_)))))))))))))
   obtain ⟨ak, cf, az⟩ := Zg az
   refine Za rfl rfl (Exec.index_rep S89 rfl bV bc (aC.mono (Zt (Zt d a0) bH)) cf ?_)
   intro cx cQ bh
   refine Za rfl rfl (Zw (E := encGAssign) aI A104 rfl rfl rfl bh ?_)
   intro dh cg
   obtain ⟨bb, rfl, ch⟩ := encGAssign_val.1 cg
   refine Za rfl rfl (Exec.alloc (cs := [Vi (0), Value.string (⟨#[]⟩), Vi (0), Value.slice none 0 0]) aI Z104 rfl rfl ?_)
   intro cy dy b3
   refine Za rfl rfl (Exec.store_box (ds := [Vi (ak.Fluent), Value.string (ak.Value.Op), Vi (ak.Value.N), bb]) (es := [Vi (ak.Fluent), Value.string (ak.Value.Op), Vi (ak.Value.N), bb]) b3 A104 rfl rfl rfl rfl (Zj rfl (Zj rfl (Zj rfl (Zj (ch).one one_nil)))) (Nat.le_of_ble_eq_true rfl) rfl ?_)
   intro dz cI
   refine Zb (Ze (Zc (Zc ?_)))
   cases az
  intro de cG d0 bo bC
  obtain ⟨cn, bI, b4, bX, bY, bZ, aQ, cq⟩ := bo
  refine Zc (Zd (Za rfl rfl (Zq rfl cq aQ (Zb (Ze (Zc (W_false (Zx (decide_eq_false (by omega))) (W_exit (at_exit (at_exit (ib_here (Ze ?_))))))))))))
  refine ⟨_, .inl bC, ?_⟩; exact ⟨cn, bI, ((b4).f1).f1, bX, bY, bZ, aQ⟩
 rintro cH d1 ⟨df, aK, bs⟩
 have hm := aK.elim (bA _) (b7 _)
 clear aK
 obtain ⟨co, bJ, b5, cV, cW, cX, cY⟩ := bs
 refine (Ze (Zc (Zd (Za rfl rfl (Zo (v := Value.bool (true)) rfl rfl (Zb (Ze (W_ret ?_))))))))
 have c9 := Zu hm
 subst r
 refine ⟨_, ret1 rfl, ?_⟩
 exact ⟨co, (Zt (Zt d a0) bJ), ((b5).drop).drop, rfl⟩
theorem N35 : (Tryz.f35.name == "runtime.NumGoroutine") = false := by kernel_rfl
theorem ground_Valid_c3_sim {w0 w : World} {s : PHeap} {H : List Res} {a : GOp} {j : Ground} {b : Value} {c : Value} {d : Value} {f : Value} {g : Value} {i k : Nat} {r : Bool} (hm : ground_Valid_c3_p a j = some r) (hS : St w0 s (H) w) (m : SliceRep (encInt .i64) s b a.Pre.Pos) (n : SliceRep (encInt .i64) s c a.Pre.Neg) (o : SliceRep encGTest s d a.Pre.Tests) (p : SliceRep encGChange s f a.Changes) (q : SliceRep encGAssign s g a.Assigns) (t : At s i k encGround j) :
  Calls Tryz.prog 35 #[Value.agg #[Value.string (a.Name), Vi (a.Cost), b, c, d, f, g], Value.pointer (some ⟨i, k, none⟩)] w fun e w' => ∃ v, e = .returned v ∧ ((fun (ag : Bool) => ∃ (l : PHeap) , PHeap.le s l ∧ St w0 l (H) w' ∧ v = Value.bool (ag)) r) := by
 unfold ground_Valid_c3_p at hm
 refine calls_of_W Tryz.func35 rfl rfl (Zc (Zd (Za rfl rfl (Exec.box (cs := [Value.string (a.Name), Vi (a.Cost), b, c, d, f, g]) hS rfl rfl rfl ?_))))
 intro ai aq h
 refine Za rfl rfl (Zo (v := Value.bool (false)) rfl rfl (Zb (Ze (Zc (Zd (Za rfl rfl (Zw (E := encGround) h A28 rfl rfl rfl t ?_)))))))
 intro ap y
 obtain ⟨ak, al, am, an, ao, rfl, aa, ab, ac, ad, ae⟩ := encGround_val.1 y
 refine Za rfl rfl (Exec.load_box_agg (ds := [Value.string (a.Name), Vi (a.Cost), b, c, d, f, g]) (h) A91 rfl rfl rfl ?_)
 obtain ⟨ah, z, hm⟩ := Zg hm
 refine Za rfl rfl (Tc rfl rfl rfl (Zi rfl (Zi rfl args_nil)) (ground_operator_sim z h aa ab ac ad ae m n o p q).r ?_)
 rintro _ ar ⟨af, x, u, rfl⟩
 refine Za rfl rfl (Exec.not rfl rfl (Za rfl rfl (Zo (v := Value.bool (!ah)) rfl rfl (Zb (Ze (W_ret ?_))))))
 have aj := Zu hm
 subst r
 refine ⟨_, ret1 rfl, ?_⟩
 exact ⟨af, x, (u).drop, rfl⟩
theorem slices_IndexFunc_apiGOp_Valid_c3_sim {w0 w : World} {s : PHeap} {H : List Res} {l : (List GOp)} {o : Ground} {c : Value} {d i : Nat} {r : Int} (hm : slices_IndexFunc_apiGOp_Valid_c3_p l o = some r) (hS : St w0 s (H) w) (m : SliceRep encGOp s c l) (ah : At s d i encGround o) :
  Calls Tryz.prog 64 #[c, Value.func (.func 35) #[] #[Value.pointer (some ⟨d, i, none⟩)]] w fun e w' => ∃ v, e = .returned v ∧ ((fun (aD : Int) => ∃ (ad : PHeap) , PHeap.le s ad ∧ St w0 ad (H) w' ∧ v = Vi (aD)) r) := by
 unfold slices_IndexFunc_apiGOp_Valid_c3_p at hm
 refine calls_of_W Tryz.func64 rfl rfl (Zc (Zd (Za rfl rfl (Zo (v := Vi (0)) rfl rfl (Zb (Ze (Zc (Zc (Zd (Za rfl rfl (Zm (v := c) rfl rfl (Za rfl rfl (Zr S26 rfl rfl m (Za rfl rfl (Zm (v := Vi (0)) rfl rfl (Zb (Ze ?_)))))))))))))))))
 obtain ⟨p, aj, av, ar, ap⟩ := ctl_some hm
 refine W_mid (M := fun f' w' => ∃ s', (p = .next s' ∨ p = .brk s') ∧ (fun (_ : Unit) => ∃ (ae : PHeap) , PHeap.le s ae ∧ St w0 ae (H) w' ∧ f' 0 = c ∧ f' 1 = Value.func (.func 35) #[] #[Value.pointer (some ⟨d, i, none⟩)] ∧ f' 7 = Vi ((l.length : Int))) s') ?_ ?_
 ·refine W_block (W_forC (fun k' s' f' w' => (fun (_ : Unit) => ∃ (af : PHeap) , PHeap.le s af ∧ St w0 af (H) w' ∧ f' 0 = c ∧ f' 1 = Value.func (.func 35) #[] #[Value.pointer (some ⟨d, i, none⟩)] ∧ f' 7 = Vi ((l.length : Int)) ∧ f' 8 = Vi (k' : Int)) s') aj ?_ ?_ ?_)
  ·exact ⟨s, (Zv _), hS, rfl, rfl, rfl, rfl⟩
  ·intro b aR q aJ ba aq ak a aw
   obtain ⟨aQ, j, t, z, aa, ab, n⟩ := ak
   refine Zc (Zd (Za rfl rfl (Zq rfl n ab (Zb (Ze (Zc (W_true (Zx (decide_eq_true (by omega))) (W_skip (Ze (Zc (W_block (Zc (Zd (Za rfl rfl (Zm (v := Vi ((b : Int))) rfl n (Za rfl rfl (Zo (v := Vi ((b : Int))) rfl rfl (Zb (Ze (Zc (Zd (Za rfl rfl (Zm (v := Value.func (.func 35) #[] #[Value.pointer (some ⟨d, i, none⟩)]) rfl aa (Za rfl rfl (Zm (v := c) rfl z (Za rfl rfl (Zm (v := Vi ((b : Int))) rfl rfl ?_)))))))))))))))))))))))))))
   obtain ⟨be, a2, a⟩ := Zg a
   refine Za rfl rfl (Exec.index_rep S26 rfl rfl rfl (m.mono j) a2 ?_)
   intro aE aM ai
   refine Za rfl rfl (Zw (E := encGOp) t A91 rfl rfl rfl ai ?_)
   intro aZ a3
   obtain ⟨aU, aV, aW, aX, aY, rfl, a5, a6, a7, a8, a9⟩ := encGOp_val.1 a3
   obtain ⟨bf, a4, a⟩ := Zg a
   refine Za rfl rfl (Exec.callc rfl rfl Tryz.func35 rfl N35 (Zi rfl args_nil) rfl ((ground_Valid_c3_sim a4 t a5 a6 a7 a8 a9 (ah.mono j)).mono ?_))
   rintro _ bb ⟨_, rfl, ⟨ag, y, u, rfl⟩⟩
   refine ⟨_, rfl, ?_⟩
   refine Zb (Ze ?_)
   rcases ite_some a with ⟨g, a⟩ | ⟨g, a⟩
   ·refine W_cond_t rfl g (Zc (Zd (Za rfl rfl (Zm (v := Vi ((b : Int))) rfl rfl (Za rfl rfl (Zo (v := Vi ((b : Int))) rfl rfl (Zb (Ze (W_ret (ib_ret (at_ret (at_ret (ib_ret (at_ret (at_ret ?_)))))))))))))))
    have aF := Zu a
    subst q
    have au := av _ (aw (by intro _ h; cases h))
    have aG := Zu au
    subst r
    refine ⟨_, ret1 rfl, ?_⟩
    exact ⟨ag, (Zt j y), u, rfl⟩
   refine W_cond_f rfl g ?_
   replace g := Zk g
   refine W_skip (ib_normal (Ze (Zd (Za rfl rfl (Exec.add rfl n rfl (Za rfl rfl (Zm (v := Vi (IntKind.i64.wrap ((b : Int) + 1))) rfl rfl (Zb (Ze ?_)))))))))
   have aH := Zu a
   subst q
   refine ⟨_, rfl, ?_⟩; exact ⟨ag, (Zt j y), u, z, aa, ab, (Eq.trans rfl (wrap_up aq (SliceRep.le m)))⟩
  intro aS aK bc al ax
  obtain ⟨aA, ay, an, a0, a1, ac, aC⟩ := al
  refine Zc (Zd (Za rfl rfl (Zq rfl aC ac (Zb (Ze (Zc (W_false (Zx (decide_eq_false (by omega))) (W_exit (at_exit (at_exit (ib_here (Ze ?_))))))))))))
  refine ⟨_, .inl ax, ?_⟩; exact ⟨aA, ay, an, a0, a1, ac⟩
 rintro aL bd ⟨aT, x, am⟩
 have hm := x.elim (ar _) (ap _)
 clear x
 obtain ⟨aB, az, ao, aN, aO, aP⟩ := am
 refine (Ze (Zc (Zd (Za rfl rfl (Zo (v := Vi ((-1))) rfl rfl (Zb (Ze (W_ret ?_))))))))
 have aI := Zu hm
 subst r
 refine ⟨_, ret1 rfl, ?_⟩
 exact ⟨aB, az, ao, rfl⟩
theorem slices_ContainsFunc_apiGOp_Valid_c3_sim {w0 w : World} {s : PHeap} {H : List Res} {g : (List GOp)} {d : Ground} {c : Value} {a b : Nat} {r : Bool} (hm : slices_ContainsFunc_apiGOp_Valid_c3_p g d = some r) (hS : St w0 s (H) w) (h : SliceRep encGOp s c g) (i : At s a b encGround d) :
  Calls Tryz.prog 34 #[c, Value.func (.func 35) #[] #[Value.pointer (some ⟨a, b, none⟩)]] w fun e w' => ∃ v, e = .returned v ∧ ((fun (n : Bool) => ∃ (f : PHeap) , PHeap.le s f ∧ St w0 f (H) w' ∧ v = Value.bool (n)) r) := by
 unfold slices_ContainsFunc_apiGOp_Valid_c3_p at hm
 refine calls_of_W Tryz.func34 rfl rfl (Zc (Zd (Za rfl rfl (Zo (v := Value.bool (false)) rfl rfl (Zb (Ze (Zc (Zd (Za rfl rfl (Zm (v := c) rfl rfl (Za rfl rfl (Zm (v := Value.func (.func 35) #[] #[Value.pointer (some ⟨a, b, none⟩)]) rfl rfl ?_))))))))))))
 obtain ⟨o, l, hm⟩ := Zg hm
 refine Za rfl rfl (Tc rfl rfl rfl (Zi rfl (Zi rfl args_nil)) (slices_IndexFunc_apiGOp_Valid_c3_sim l hS h i).r ?_)
 rintro _ q ⟨m, k, j, rfl⟩
 refine Za rfl rfl (Exec.geq rfl rfl rfl (Za rfl rfl (Zo (v := Value.bool (decide (0 ≤ o))) rfl rfl (Zb (Ze (W_ret ?_))))))
 have p := Zu hm
 subst r
 refine ⟨_, ret1 rfl, ?_⟩
 exact ⟨m, k, j, rfl⟩
theorem ground_Valid_sim {w0 w : World} {s : PHeap} {H : List Res} {b : Ground} {aa : Value} {x : Value} {t : Value} {o : Value} {p : Value} {r : Bool} (hm : ground_Valid_p b = some r) (hS : St w0 s (H) w) (ad : SliceRep encAtom s aa b.Atoms) (ae : SliceRep encGFluent s x b.Fluents) (ak : SliceRep (encInt .i64) s t b.Init) (af : SliceRep encCond s o b.Goal) (al : SliceRep encGOp s p b.Ops) :
  Calls Tryz.prog 8 #[Value.agg #[aa, x, t, o, p]] w fun e w' => ∃ v, e = .returned v ∧ ((fun (aF : Bool) => ∃ (ap : PHeap) , PHeap.le s ap ∧ St w0 ap (H) w' ∧ v = Value.bool (aF)) r) := by
 unfold ground_Valid_p at hm
 refine calls_of_W Tryz.func8 rfl rfl (Zc (Zd (Za rfl rfl (Exec.box (cs := [aa, x, t, o, p]) hS rfl rfl rfl ?_))))
 intro am aP n
 refine Za rfl rfl (Zo (v := Value.bool (false)) rfl rfl (Zb (Ze (Zc (Zc (W_mid (M := fun f' w' => ∃ (aq : PHeap) , PHeap.le s aq ∧ St w0 aq (Res.box am 28 [aa, x, t, o, p] :: H) w' ∧ f' 1 = Value.pointer (some ⟨am, 0, none⟩) ∧ f' 24 = Value.bool (((decide (4096 < (b.Atoms.length : Int))) || ((decide (4096 < (b.Fluents.length : Int))) || ((decide (4096 < (b.Ops.length : Int))) || decide (64 < (b.Goal.length : Int))))))) ?_ ?_))))))
 ·refine Zd (Za rfl rfl (Zp F28_0 rfl rfl rfl (Za rfl rfl (Zn (n) A22 rfl rfl rfl (Za rfl rfl (Zr S22 rfl rfl ad (Za rfl rfl (Exec.gtr rfl rfl rfl (Za rfl rfl (Zm (v := Value.bool (decide (4096 < (b.Atoms.length : Int)))) rfl rfl ?_))))))))))
  by_cases c : (decide (4096 < (b.Atoms.length : Int))) = true
  ·refine WL_passes 17 (by rw [c]; rfl) ?_
   refine Zb (Ze ?_)
   exact ⟨s, (Zv _), n, rfl, (Zx (or_t c)).symm⟩
  replace c := Zk c
  refine WL_run rfl (Zf rfl (Zx c)) rfl (Zp F28_1 rfl rfl rfl (WL_run rfl (Zf rfl (Zx c)) rfl (Zn (n) A23 rfl rfl rfl (WL_run rfl (Zf rfl (Zx c)) rfl (Zr S23 rfl rfl ae (WL_run rfl (Zf rfl (Zx c)) rfl (Exec.gtr rfl rfl rfl ?_)))))))
  refine WL_passes 2 (by rw [c]; rfl) ?_
  by_cases g : (decide (4096 < (b.Fluents.length : Int))) = true
  ·refine WL_passes 11 (by rw [g]; rfl) ?_
   refine Zb (Ze ?_)
   exact ⟨s, (Zv _), n, rfl, (Zx (Eq.trans (or_f c) (or_t g))).symm⟩
  replace g := Zk g
  refine WL_run rfl (Zf rfl (Zx g)) rfl (Zp F28_4 rfl rfl rfl (WL_run rfl (Zf rfl (Zx g)) rfl (Zn (n) A26 rfl rfl rfl (WL_run rfl (Zf rfl (Zx g)) rfl (Zr S26 rfl rfl al (WL_run rfl (Zf rfl (Zx g)) rfl (Exec.gtr rfl rfl rfl ?_)))))))
  refine WL_passes 2 (by rw [g]; rfl) ?_
  by_cases i : (decide (4096 < (b.Ops.length : Int))) = true
  ·refine WL_passes 5 (by rw [i]; rfl) ?_
   refine Zb (Ze ?_)
   exact ⟨s, (Zv _), n, rfl, (Zx (Eq.trans (or_f c) (Eq.trans (or_f g) (or_t i)))).symm⟩
  replace i := Zk i
  refine WL_run rfl (Zf rfl (Zx i)) rfl (Zp F28_3 rfl rfl rfl (WL_run rfl (Zf rfl (Zx i)) rfl (Zn (n) A25 rfl rfl rfl (WL_run rfl (Zf rfl (Zx i)) rfl (Zr S25 rfl rfl af (WL_run rfl (Zf rfl (Zx i)) rfl (Exec.gtr rfl rfl rfl (Za rfl rfl (Exec.pick_f (v := Value.bool (decide (64 < (b.Goal.length : Int)))) rfl (Zx i) rfl (Zb (Ze ?_)))))))))))
  exact ⟨s, (Zv _), n, rfl, (Zx (Eq.trans (or_f c) (Eq.trans (or_f g) (or_f i)))).symm⟩
 intro aL aQ au
 obtain ⟨a8, l, an, q, ao⟩ := au
 refine (Ze ?_)
 rcases ite_some hm with ⟨z, hm⟩ | ⟨z, hm⟩
 ·refine W_cond_t ao z (Zc ?_)
  cases hm
 refine W_cond_f ao z ?_
 replace z := Zk z
 refine W_skip (Ze (Zc ?_))
 obtain ⟨u, a, hm⟩ := Zg hm
 refine W_mid (M := fun f' w' => (fun (u : Bool) => ∃ (ar : PHeap) , PHeap.le a8 ar ∧ St w0 ar (H) w' ∧ f' 2 = Value.bool (u)) u) ?_ ?_
 ·refine Zd (Za rfl rfl (Zp F28_1 rfl q rfl (Za rfl rfl (Zn (an) A23 rfl rfl rfl ?_))))
  obtain ⟨aE, a2, a⟩ := Zg a
  refine Za rfl rfl (Tc rfl rfl rfl (Zi rfl (Zi rfl args_nil)) (slices_ContainsFunc_apiGFluent_Valid_c1_sim a2 an (ae.mono l)).r ?_)
  rintro _ aR ⟨a9, d, ab, rfl⟩
  refine Za rfl rfl (Exec.not rfl rfl (Za rfl rfl (Zm (v := Value.bool (!aE)) rfl rfl ?_)))
  rcases ite_some a with ⟨h, a⟩ | ⟨h, a⟩
  ·refine WL_run rfl (Zf rfl (Zx h)) rfl (Zp F28_2 rfl q rfl (WL_run rfl (Zf rfl (Zx h)) rfl (Zn (ab) A24 rfl rfl rfl (WL_run rfl (Zf rfl (Zx h)) rfl (Zp F28_0 rfl q rfl (WL_run rfl (Zf rfl (Zx h)) rfl (Zn (ab) A22 rfl rfl rfl (WL_run rfl (Zf rfl (Zx h)) rfl (Zr S22 rfl rfl (ad.mono (Zt l d)) ?_)))))))))
   obtain ⟨aW, a3, a⟩ := Zg a
   refine WL_run rfl (Zf rfl (Zx h)) rfl (Tc rfl rfl rfl (Zi rfl (Zi rfl args_nil)) (ground_indices_sim a3 ab (ak.mono (Zt l d))).r ?_)
   rintro _ aS ⟨aA, m, ag, rfl⟩
   refine WL_passes 2 (by rw [h]; rfl) ?_
   rcases ite_some a with ⟨j, a⟩ | ⟨j, a⟩
   ·refine WL_run rfl (Zf rfl (Zx j)) rfl (Zp F28_3 rfl q rfl (WL_run rfl (Zf rfl (Zx j)) rfl (Zn (ag) A25 rfl rfl rfl ?_)))
    obtain ⟨aN, ai, aw, aj⟩ := St.freezeVar (E := encGround) (y := b) ag ⟨[aa], [x, t, o, p], rfl, ⟨_, rfl, (ad.mono (Zt (Zt l d) m))⟩, ⟨[x], [t, o, p], rfl, ⟨_, rfl, (ae.mono (Zt (Zt l d) m))⟩, ⟨[t], [o, p], rfl, ⟨_, rfl, (ak.mono (Zt (Zt l d) m))⟩, ⟨[o], [p], rfl, ⟨_, rfl, (af.mono (Zt (Zt l d) m))⟩, ⟨_, rfl, (al.mono (Zt (Zt l d) m))⟩⟩⟩⟩⟩
    refine WL_run rfl (Zf rfl (Zx j)) rfl (Exec.makeFunc rfl (Zi q args_nil) ?_)
    obtain ⟨aX, a4, a⟩ := Zg a
    refine WL_run rfl (Zf rfl (Zx j)) rfl (Tc rfl rfl rfl (Zi rfl (Zi rfl args_nil)) (slices_ContainsFunc_apiCond_Valid_c2_sim a4 aw (af.mono (Zt (Zt (Zt l d) m) ai)) aj).r ?_)
    rintro _ aT ⟨aB, ac, ah, rfl⟩
    refine WL_run rfl (Zf rfl (Zx j)) rfl (Exec.not rfl rfl ?_)
    refine WL_passes 2 (by rw [j]; rfl) ?_
    rcases ite_some a with ⟨k, a⟩ | ⟨k, a⟩
    ·refine WL_run rfl (Zf rfl (Zx k)) rfl (Zp F28_4 rfl q rfl (WL_run rfl (Zf rfl (Zx k)) rfl (Zw (E := (encSlice encGOp)) ah A26 rfl rfl rfl ((aj.sub (Sub.iso (Sub.snd (Sub.snd (Sub.snd (Sub.snd (Sub.refl _) rfl) rfl) rfl) rfl)) rfl).mono ac) ?_)))
     intro aO a5
     have a7 : SliceRep _ _ _ (b.Ops) := encSlice_val.1 a5
     refine WL_run rfl (Zf rfl (Zx k)) rfl (Exec.makeFunc rfl (Zi q args_nil) ?_)
     obtain ⟨aY, a6, a⟩ := Zg a
     refine WL_run rfl (Zf rfl (Zx k)) rfl (Tc rfl rfl rfl (Zi rfl (Zi rfl args_nil)) (slices_ContainsFunc_apiGOp_Valid_c3_sim a6 ah a7 (aj.mono ac)).r ?_)
     rintro _ aU ⟨aC, az, ax, rfl⟩
     refine WL_run rfl (Zf rfl (Zx k)) rfl (Exec.not rfl rfl ?_)
     refine WL_passes 2 (by rw [k]; rfl) ?_
     refine Zb (Ze ?_)
     have aG := Zu a
     subst u
     exact ⟨aC, (Zt (Zt (Zt (Zt d m) ai) ac) az), ax, rfl⟩
    replace k := Zk k
    refine WL_passes 7 (by rw [k]; rfl) ?_
    refine Zb (Ze ?_)
    have aH := Zu a
    subst u
    exact ⟨aB, (Zt (Zt (Zt d m) ai) ac), ah, rfl⟩
   replace j := Zk j
   refine WL_passes 14 (by rw [j]; rfl) ?_
   refine Zb (Ze ?_)
   have aI := Zu a
   subst u
   exact ⟨aA, (Zt d m), (ag).drop, rfl⟩
  replace h := Zk h
  refine WL_passes 22 (by rw [h]; rfl) ?_
  refine Zb (Ze ?_)
  have aJ := Zu a
  subst u
  exact ⟨a9, d, (ab).drop, rfl⟩
 intro aM aV av
 obtain ⟨aD, a0, ay, a1⟩ := av
 refine (Ze (W_ret ?_))
 have aK := Zu hm
 subst r
 refine ⟨_, ret1 rfl, ?_⟩
 exact ⟨aD, (Zt l a0), ay, a1⟩
theorem S41 : tySlice Tryz.prog 41 = some (24, 1, 24) := by kernel_rfl
theorem F58_0 : tyField Tryz.prog 58 0 = some 0 := by kernel_rfl
theorem slices_Index_int_sim {w0 w : World} {s : PHeap} {H : List Res} {i : (List Int)} {g : Int} {c : Value} {r : Int} (hm : slices_Index_int_p i g = some r) (hS : St w0 s (H) w) (j : SliceRep (encInt .i64) s c i) :
  Calls Tryz.prog 100 #[c, Vi (g)] w fun e w' => ∃ v, e = .returned v ∧ ((fun (a2 : Int) => ∃ (z : PHeap) , PHeap.le s z ∧ St w0 z (H) w' ∧ v = Vi (a2)) r) := by
 unfold slices_Index_int_p at hm
 refine calls_of_W Tryz.func100 rfl rfl (Zc (Zd (Za rfl rfl (Zo (v := Vi (0)) rfl rfl (Zb (Ze (Zc (Zc (Zd (Za rfl rfl (Zm (v := c) rfl rfl (Za rfl rfl (Zr S24 rfl rfl j (Za rfl rfl (Zm (v := Vi (0)) rfl rfl (Zb (Ze ?_)))))))))))))))))
 obtain ⟨o, ae, ao, am, ak⟩ := ctl_some hm
 refine W_mid (M := fun f' w' => ∃ s', (o = .next s' ∨ o = .brk s') ∧ (fun (_ : Unit) => ∃ (aa : PHeap) , PHeap.le s aa ∧ St w0 aa (H) w' ∧ f' 0 = c ∧ f' 1 = Vi (g) ∧ f' 7 = Vi ((i.length : Int))) s') ?_ ?_
 ·refine W_block (W_forC (fun k' s' f' w' => (fun (_ : Unit) => ∃ (ab : PHeap) , PHeap.le s ab ∧ St w0 ab (H) w' ∧ f' 0 = c ∧ f' 1 = Vi (g) ∧ f' 7 = Vi ((i.length : Int)) ∧ f' 8 = Vi (k' : Int)) s') ae ?_ ?_ ?_)
  ·exact ⟨s, (Zv _), hS, rfl, rfl, rfl, rfl⟩
  ·intro b aF p a8 aJ al af a ap
   obtain ⟨ac, m, l, t, u, x, n⟩ := af
   refine Zc (Zd (Za rfl rfl (Zq rfl n x (Zb (Ze (Zc (W_true (Zx (decide_eq_true (by omega))) (W_skip (Ze (Zc (W_block (Zc (Zd (Za rfl rfl (Zm (v := Vi ((b : Int))) rfl n (Za rfl rfl (Zo (v := Vi ((b : Int))) rfl rfl (Zb (Ze (Zc (Zd (Za rfl rfl (Zm (v := Vi (g)) rfl u (Za rfl rfl (Zm (v := c) rfl t (Za rfl rfl (Zm (v := Vi ((b : Int))) rfl rfl ?_)))))))))))))))))))))))))))
   obtain ⟨aM, ax, a⟩ := Zg a
   refine Za rfl rfl (Exec.index_rep S24 rfl rfl rfl (j.mono m) ax ?_)
   intro a3 aB ad
   refine Za rfl rfl (Zw (E := (encInt .i64)) l A3 rfl rfl rfl ad ?_)
   intro aI ay
   obtain rfl := encInt_val.1 ay
   refine Za rfl rfl (Exec.eql rfl rfl rfl (Zb (Ze ?_)))
   rcases ite_some a with ⟨d, a⟩ | ⟨d, a⟩
   ·refine W_cond_t rfl d (Zc (Zd (Za rfl rfl (Zm (v := Vi ((b : Int))) rfl rfl (Za rfl rfl (Zo (v := Vi ((b : Int))) rfl rfl (Zb (Ze (W_ret (ib_ret (at_ret (at_ret (ib_ret (at_ret (at_ret ?_)))))))))))))))
    have a4 := Zu a
    subst p
    have an := ao _ (ap (by intro _ h; cases h))
    have a5 := Zu an
    subst r
    refine ⟨_, ret1 rfl, ?_⟩
    exact ⟨ac, m, l, rfl⟩
   refine W_cond_f rfl d ?_
   replace d := Zk d
   refine W_skip (ib_normal (Ze (Zd (Za rfl rfl (Exec.add rfl n rfl (Za rfl rfl (Zm (v := Vi (IntKind.i64.wrap ((b : Int) + 1))) rfl rfl (Zb (Ze ?_)))))))))
   have a6 := Zu a
   subst p
   refine ⟨_, rfl, ?_⟩; exact ⟨ac, m, l, t, u, x, (Eq.trans rfl (wrap_up al (SliceRep.le j)))⟩
  intro aG a9 aK ag aq
  obtain ⟨az, ar, ai, av, aw, y, a1⟩ := ag
  refine Zc (Zd (Za rfl rfl (Zq rfl a1 y (Zb (Ze (Zc (W_false (Zx (decide_eq_false (by omega))) (W_exit (at_exit (at_exit (ib_here (Ze ?_))))))))))))
  refine ⟨_, .inl aq, ?_⟩; exact ⟨az, ar, ai, av, aw, y⟩
 rintro aA aL ⟨aH, q, ah⟩
 have hm := q.elim (am _) (ak _)
 clear q
 obtain ⟨a0, au, aj, aC, aD, aE⟩ := ah
 refine (Ze (Zc (Zd (Za rfl rfl (Zo (v := Vi ((-1))) rfl rfl (Zb (Ze (W_ret ?_))))))))
 have a7 := Zu hm
 subst r
 refine ⟨_, ret1 rfl, ?_⟩
 exact ⟨a0, au, aj, rfl⟩
theorem slices_Contains_int_sim {w0 w : World} {s : PHeap} {H : List Res} {d : (List Int)} {a : Int} {b : Value} {r : Bool} (hm : slices_Contains_int_p d a = some r) (hS : St w0 s (H) w) (f : SliceRep (encInt .i64) s b d) :
  Calls Tryz.prog 85 #[b, Vi (a)] w fun e w' => ∃ v, e = .returned v ∧ ((fun (k : Bool) => ∃ (c : PHeap) , PHeap.le s c ∧ St w0 c (H) w' ∧ v = Value.bool (k)) r) := by
 unfold slices_Contains_int_p at hm
 refine calls_of_W Tryz.func85 rfl rfl (Zc (Zd (Za rfl rfl (Zo (v := Value.bool (false)) rfl rfl (Zb (Ze (Zc (Zd (Za rfl rfl (Zm (v := b) rfl rfl (Za rfl rfl (Zm (v := Vi (a)) rfl rfl ?_))))))))))))
 obtain ⟨l, i, hm⟩ := Zg hm
 refine Za rfl rfl (Tc rfl rfl rfl (Zi rfl (Zi rfl args_nil)) (slices_Index_int_sim i hS f).r ?_)
 rintro _ n ⟨j, h, g, rfl⟩
 refine Za rfl rfl (Exec.geq rfl rfl rfl (Za rfl rfl (Zo (v := Value.bool (decide (0 ≤ l))) rfl rfl (Zb (Ze (W_ret ?_))))))
 have m := Zu hm
 subst r
 refine ⟨_, ret1 rfl, ?_⟩
 exact ⟨j, h, g, rfl⟩
theorem invariant_Holds_sim {w0 w : World} {s : PHeap} {H : List Res} {ab : GState} {m : (List Int)} {h : Value} {i : Value} {j : Value} {r : Bool} (hm : invariant_Holds_p ab m = some r) (hS : St w0 s (H) w) (aj : SliceRep (encInt .i64) s h ab.True) (aG : SliceRep (encInt .i64) s i ab.Values) (p : SliceRep (encInt .i64) s j m) :
  Calls Tryz.prog 69 #[Value.agg #[h, i], j] w fun e w' => ∃ v, e = .returned v ∧ ((fun (aF : Bool) => ∃ (ag : PHeap) , PHeap.le s ag ∧ St w0 ag (H) w' ∧ v = Value.bool (aF)) r) := by
 unfold invariant_Holds_p at hm
 refine calls_of_W Tryz.func69 rfl rfl (Zc (Zd (Za rfl rfl (Exec.box (cs := [h, i]) hS rfl rfl rfl ?_))))
 intro l aV ap
 refine Za rfl rfl (Zo (v := Value.bool (false)) rfl rfl (Zb (Ze (Zc (Zd (Za rfl rfl (Exec.make_bmap (k := 3) (e := 4) ap rfl ?_)))))))
 intro a aW aq
 refine Za rfl rfl (Zo (v := Value.map (some a)) rfl rfl (Zb (Ze (Zc (Zc (Zd (Za rfl rfl (Zm (v := j) rfl rfl (Za rfl rfl (Zr S24 rfl rfl p (Za rfl rfl (Zm (v := Vi (0)) rfl rfl (Zb (Ze ?_))))))))))))))
 obtain ⟨n, al, hm⟩ := Zg hm
 refine W_block (W_forS (fun k' s' f' w' => (fun (n : BMap) => ∃ (ah : PHeap) , PHeap.le s ah ∧ St w0 ah (Res.box l 58 [h, i] :: Res.bmap Tryz.prog 3 4 a n :: H) w' ∧ f' 2 = Value.pointer (some ⟨l, 0, none⟩) ∧ f' 5 = Value.map (some a) ∧ f' 9 = j ∧ f' 10 = Vi ((m.length : Int)) ∧ f' 11 = Vi (k' : Int)) s') al ?_ ?_ ?_)
 ·have ar := (aq).f1
  exact ⟨s, (Zv _), ar, rfl, rfl, rfl, rfl, rfl⟩
 ·intro af n aB aM aX aw am b
  obtain ⟨aT, t, q, u, x, y, z, o⟩ := am
  refine Zc (Zd (Za rfl rfl (Zq rfl o z (Zb (Ze (Zc (W_true (Zx (decide_eq_true (by omega))) (W_skip (Ze (Zc (W_block (Zc (Zd ?_)))))))))))))
  obtain ⟨ac, a7, b⟩ := Zg b
  refine Za rfl rfl (Exec.index_rep S24 rfl y o (p.mono t) a7 ?_)
  intro aH aQ ak
  refine Za rfl rfl (Zw (E := (encInt .i64)) q A3 rfl rfl rfl ak ?_)
  intro aU a8
  obtain rfl := encInt_val.1 a8
  refine Za rfl rfl (Zo (v := Vi (ac)) rfl rfl (Zb (Ze (Zc (Zd (Za rfl rfl (Zp F58_0 rfl u rfl (Za rfl rfl (Zn (q) A24 rfl rfl rfl (Za rfl rfl (Zm (v := Vi (ac)) rfl rfl ?_)))))))))))
  obtain ⟨bc, a9, b⟩ := Zg b
  refine Za rfl rfl (Tc rfl rfl rfl (Zi rfl (Zi rfl args_nil)) (slices_Contains_int_sim a9 q (aj.mono t)).r ?_)
  rintro _ aY ⟨aa, ax, ad, rfl⟩
  refine Zb (Ze ?_)
  obtain ⟨g, c, b⟩ := Zg b
  refine W_mid (M := fun f' w' => (fun (g : BMap) => ∃ (ai : PHeap) , PHeap.le aa ai ∧ St w0 ai (Res.box l 58 [h, i] :: Res.bmap Tryz.prog 3 4 a g :: H) w' ∧ f' 2 = Value.pointer (some ⟨l, 0, none⟩) ∧ f' 5 = Value.map (some a) ∧ f' 9 = j ∧ f' 10 = Vi ((m.length : Int)) ∧ f' 11 = Vi ((af : Int))) g) ?_ ?_
  ·rcases ite_some c with ⟨d, c⟩ | ⟨d, c⟩
   ·refine W_cond_t rfl d (Zd (Za rfl rfl (Zm (v := Value.map (some a)) rfl x (Za rfl rfl (Zm (v := Vi (ac)) rfl rfl ?_)))))
    obtain ⟨aP, aA, c⟩ := Zg c
    refine Za rfl rfl (Exec.bmap_put (ad).f1 ⟨Tryz.underlying107, Tryz.underlying3, Tryz.underlying4⟩ rfl rfl rfl rfl aA ?_)
    intro aZ au
    refine Zb (Ze ?_)
    have aI := Zu c
    subst g
    exact ⟨aa, (Zv _), (au).f1, u, x, y, z, o⟩
   refine W_cond_f rfl d ?_
   replace d := Zk d
   refine W_skip (Ze ?_)
   have aJ := Zu c
   subst g
   exact ⟨aa, (Zv _), ((ad).f1).f1, u, x, y, z, o⟩
  intro aN ba ao
  obtain ⟨aC, ay, av, a0, a1, a2, a3, a4⟩ := ao
  refine (ib_normal (Ze (Zd (Za rfl rfl (Exec.add rfl a4 rfl (Za rfl rfl (Zm (v := Vi (IntKind.i64.wrap ((af : Int) + 1))) rfl rfl (Zb (Ze ?_)))))))))
  have aK := Zu b
  subst aB
  exact ⟨aC, (Zt (Zt t ax) ay), ((av).f1).f1, a0, a1, a2, a3, (Eq.trans rfl (wrap_up aw (SliceRep.le p)))⟩
 intro aO bb an
 obtain ⟨aD, az, ae, aR, a5, aS, a6, aE⟩ := an
 refine Zc (Zd (Za rfl rfl (Zq rfl aE a6 (Zb (Ze (Zc (W_false (Zx (decide_eq_false (by omega))) (W_exit (at_exit (at_exit (ib_here (Ze (Zc (Zd (Za rfl rfl (Zm (v := Value.map (some a)) rfl a5 (Za rfl rfl (Exec.bmap_len ((ae).f1) ⟨Tryz.underlying107, Tryz.underlying3, Tryz.underlying4⟩ rfl rfl (Za rfl rfl (Exec.leq rfl rfl rfl (Za rfl rfl (Zo (v := Value.bool (decide ((n.length : Int) ≤ 1))) rfl rfl (Zb (Ze (W_ret ?_)))))))))))))))))))))))))
 have aL := Zu hm
 subst r
 refine ⟨_, ret1 rfl, ?_⟩
 exact ⟨aD, az, ((ae).drop).drop, rfl⟩
theorem Z91 : tyZero Tryz.prog 91 = some (Value.agg #[Value.string ⟨#[]⟩, Vi (0), Value.slice none 0 0, Value.slice none 0 0, Value.slice none 0 0, Value.slice none 0 0, Value.slice none 0 0]) := by kernel_rfl
theorem cmp_isNaN_int_sim {w0 w : World} {s : PHeap} {H : List Res} {a : Int}  {r : Bool} (hm : cmp_isNaN_int_p a = some r) (hS : St w0 s (H) w)  :
  Calls Tryz.prog 118 #[Vi (a)] w fun e w' => ∃ v, e = .returned v ∧ ((fun (c : Bool) => ∃ (b : PHeap) , PHeap.le s b ∧ St w0 b (H) w' ∧ v = Value.bool (c)) r) := by
 unfold cmp_isNaN_int_p at hm
 refine calls_of_W Tryz.func118 rfl rfl (Zc (Zd (Za rfl rfl (Zo (v := Value.bool (false)) rfl rfl (Zb (Ze (Zc (Zd (Za rfl rfl (Zm (v := Vi (a)) rfl rfl (Za rfl rfl (Zm (v := Vi (a)) rfl rfl (Za rfl rfl (Exec.neq rfl rfl rfl (Za rfl rfl (Zo (v := Value.bool (!decide (a = a))) rfl rfl (Zb (Ze (W_ret ?_)))))))))))))))))))
 have d := Zu hm
 subst r
 refine ⟨_, ret1 rfl, ?_⟩
 exact ⟨s, (Zv _), hS, rfl⟩
theorem cmp_Less_int_sim {w0 w : World} {s : PHeap} {H : List Res} {a : Int} {c : Int}  {r : Bool} (hm : cmp_Less_int_p a c = some r) (hS : St w0 s (H) w)  :
  Calls Tryz.prog 101 #[Vi (a), Vi (c)] w fun e w' => ∃ v, e = .returned v ∧ ((fun (x : Bool) => ∃ (k : PHeap) , PHeap.le s k ∧ St w0 k (H) w' ∧ v = Value.bool (x)) r) := by
 unfold cmp_Less_int_p at hm
 refine calls_of_W Tryz.func101 rfl rfl (Zc (Zd (Za rfl rfl (Zo (v := Value.bool (false)) rfl rfl (Zb (Ze (Zc (W_mid (M := fun f' w' => ∃ (l : PHeap) , PHeap.le s l ∧ St w0 l (H) w' ∧ f' 4 = Value.bool ((bif (cmp_isNaN_int_t a) then ((!(cmp_isNaN_int_t c)) || decide (a < c)) else decide (a < c)))) ?_ ?_))))))))
 ·refine Zd (Za rfl rfl (Zm (v := Vi (a)) rfl rfl (Za rfl rfl (Tc rfl rfl rfl (Zi rfl args_nil) (cmp_isNaN_int_sim (cmp_isNaN_int_tot a) hS ).r ?_))))
  rintro _ aa ⟨t, g, h, rfl⟩
  refine Za rfl rfl (Zm (v := Value.bool ((cmp_isNaN_int_t a))) rfl rfl ?_)
  by_cases b : (cmp_isNaN_int_t a) = true
  ·refine WL_run rfl (Zf rfl (Zx b)) rfl (Zm (v := Vi (c)) rfl rfl (WL_run rfl (Zf rfl (Zx b)) rfl (Tc rfl rfl rfl (Zi rfl args_nil) (cmp_isNaN_int_sim (cmp_isNaN_int_tot c) h ).r ?_)))
   rintro _ ab ⟨m, j, i, rfl⟩
   refine WL_run rfl (Zf rfl (Zx b)) rfl (Exec.not rfl rfl ?_)
   refine WL_passes 2 (by rw [b]; rfl) ?_
   by_cases d : (!(cmp_isNaN_int_t c)) = true
   ·refine WL_passes 5 (by rw [d]; rfl) ?_
    refine Zb (Ze ?_)
    exact ⟨m, (Zt g j), i, (Zx (Eq.trans (cnd_t b) (or_t d))).symm⟩
   replace d := Zk d
   refine WL_run rfl (Zf rfl (Zx d)) rfl (Zm (v := Vi (a)) rfl rfl (WL_run rfl (Zf rfl (Zx d)) rfl (Zm (v := Vi (c)) rfl rfl (WL_run rfl (Zf rfl (Zx d)) rfl (Zq rfl rfl rfl ?_)))))
   refine WL_passes 2 (by rw [d]; rfl) ?_
   refine Zb (Ze ?_)
   exact ⟨m, (Zt g j), i, (Zx (Eq.trans (cnd_t b) (or_f d))).symm⟩
  replace b := Zk b
  refine WL_passes 5 (by rw [b]; rfl) ?_
  refine WL_run rfl (Zf rfl rfl) rfl (Zm (v := Vi (a)) rfl rfl (WL_run rfl (Zf rfl rfl) rfl (Zm (v := Vi (c)) rfl rfl (WL_run rfl (Zf rfl rfl) rfl (Zq rfl rfl rfl (WL_passes 2 rfl (Zb (Ze ?_))))))))
  exact ⟨t, g, h, (Zx (cnd_f b)).symm⟩
 intro z ac n
 obtain ⟨u, p, o, q⟩ := n
 refine (Ze (W_ret ?_))
 have y := Zu hm
 subst r
 refine ⟨_, ret1 rfl, ?_⟩
 exact ⟨u, p, o, q⟩
theorem slices_isNaN_int_sim {w0 w : World} {s : PHeap} {H : List Res} {a : Int}  {r : Bool} (hm : slices_isNaN_int_p a = some r) (hS : St w0 s (H) w)  :
  Calls Tryz.prog 102 #[Vi (a)] w fun e w' => ∃ v, e = .returned v ∧ ((fun (c : Bool) => ∃ (b : PHeap) , PHeap.le s b ∧ St w0 b (H) w' ∧ v = Value.bool (c)) r) := by
 unfold slices_isNaN_int_p at hm
 refine calls_of_W Tryz.func102 rfl rfl (Zc (Zd (Za rfl rfl (Zo (v := Value.bool (false)) rfl rfl (Zb (Ze (Zc (Zd (Za rfl rfl (Zm (v := Vi (a)) rfl rfl (Za rfl rfl (Zm (v := Vi (a)) rfl rfl (Za rfl rfl (Exec.neq rfl rfl rfl (Za rfl rfl (Zo (v := Value.bool (!decide (a = a))) rfl rfl (Zb (Ze (W_ret ?_)))))))))))))))))))
 have d := Zu hm
 subst r
 refine ⟨_, ret1 rfl, ?_⟩
 exact ⟨s, (Zv _), hS, rfl⟩
theorem slices_BinarySearch_int_sim {w0 w : World} {s : PHeap} {H : List Res} {l : (List Int)} {c : Int} {m : Value} {r : Int × Bool} (hm : slices_BinarySearch_int_p l c = some r) (hS : St w0 s (H) w) (y : SliceRep (encInt .i64) s m l) :
  Calls Tryz.prog 86 #[m, Vi (c)] w fun e w' => ∃ v, e = .returned v ∧ ((un2 fun (bh : Int) (bi : Bool) => ∃ (a0 : PHeap) , PHeap.le s a0 ∧ St w0 a0 (H) w' ∧ v = Value.tuple #[Vi (bh), Value.bool (bi)]) r) := by
 unfold slices_BinarySearch_int_p at hm
 refine calls_of_W Tryz.func86 rfl rfl (Zc (Zd (Za rfl rfl (Zo (v := Vi (0)) rfl rfl (Za rfl rfl (Zo (v := Value.bool (false)) rfl rfl (Zb (Ze (Zc (Zd (Za rfl rfl (Zm (v := m) rfl rfl (Za rfl rfl (Zr S24 rfl rfl y (Za rfl rfl (Zo (v := Vi ((l.length : Int))) rfl rfl (Zb (Ze (Zc (Zd (Za rfl rfl (Zm (v := Vi ((l.length : Int))) rfl rfl (Za rfl rfl (Zo (v := Vi (0)) rfl rfl (Za rfl rfl (Zo (v := Vi ((l.length : Int))) rfl rfl (Zb (Ze (Zc ?_)))))))))))))))))))))))))))))
 obtain ⟨am, a8, b0, aH, aG⟩ := ctl_some hm
 refine W_mid (M := fun f' w' => ∃ s', (am = .next s' ∨ am = .brk s') ∧ (un2 fun (i : Int) (au : Int) => ∃ (a1 : PHeap) , PHeap.le s a1 ∧ St w0 a1 (H) w' ∧ f' 0 = m ∧ f' 1 = Vi (c) ∧ f' 6 = Vi ((l.length : Int)) ∧ f' 7 = Vi (i) ∧ f' 8 = Vi (au)) s') ?_ ?_
 ·refine W_block (W_while (fun s' f' w' => (un2 fun (j : Int) (k : Int) => ∃ (a2 : PHeap) , PHeap.le s a2 ∧ St w0 a2 (H) w' ∧ f' 0 = m ∧ f' 1 = Vi (c) ∧ f' 6 = Vi ((l.length : Int)) ∧ f' 7 = Vi (j) ∧ f' 8 = Vi (k)) s') a8 ?_ ?_)
  ·exact ⟨s, (Zv _), hS, rfl, rfl, rfl, rfl, rfl⟩
  intro be an bv b8 a9 g aI
  obtain ⟨j, k⟩ := be
  replace g := un2_eq g
  obtain ⟨aZ, ag, af, z, aa, ai, ab, ac⟩ := a9
  refine Zc (Zc (Zd (Za rfl rfl (Zm (v := Vi (j)) rfl ab (Za rfl rfl (Zm (v := Vi (k)) rfl ac (Za rfl rfl (Zq rfl rfl rfl (Zb (Ze ?_))))))))))
  rcases ite_some g with ⟨t, g⟩ | ⟨t, g⟩
  ·refine W_cond_t rfl t (W_skip (Ze (W_block (Zc (Zd (Za rfl rfl (Zm (v := Vi (j)) rfl ab (Za rfl rfl (Zm (v := Vi (k)) rfl ac (Za rfl rfl (Exec.add rfl rfl rfl ?_)))))))))))
   refine Za rfl rfl (Exec.convert_int (by rw [Tryz.underlying3]; rfl) Tryz.underlying159 rfl rfl ?_)
   refine Za rfl rfl (Exec.shr_const (n := 1) rfl (by decide) rfl rfl rfl ?_)
   refine Za rfl rfl (Exec.convert_int (by rw [Tryz.underlying159]; rfl) Tryz.underlying3 rfl rfl ?_)
   refine Za rfl rfl (Zo (v := Vi (IntKind.i64.wrap ((IntKind.u64.wrap (IntKind.i64.wrap (j + k))).fdiv (2 ^ 1)))) rfl rfl (Zb (Ze (Zc (Zd (Za rfl rfl (Zm (v := m) rfl z (Za rfl rfl (Zm (v := Vi (IntKind.i64.wrap ((IntKind.u64.wrap (IntKind.i64.wrap (j + k))).fdiv (2 ^ 1)))) rfl rfl ?_)))))))))
   obtain ⟨bg, aV, g⟩ := Zg g
   refine Za rfl rfl (Exec.index_rep S24 rfl rfl rfl (y.mono ag) aV ?_)
   intro bj b1 a5
   refine Za rfl rfl (Zw (E := (encInt .i64)) af A3 rfl rfl rfl a5 ?_)
   intro b5 aW
   obtain rfl := encInt_val.1 aW
   refine Za rfl rfl (Zm (v := Vi (c)) rfl aa (Za rfl rfl (Tc rfl rfl rfl (Zi rfl (Zi rfl args_nil)) (cmp_Less_int_sim (cmp_Less_int_tot bg c) af ).r ?_)))
   rintro _ b9 ⟨aj, aJ, ao, rfl⟩
   refine Zb (Ze ?_)
   obtain ⟨ae, x, g⟩ := Zg g
   refine W_mid (M := fun f' w' => (un2 fun (ar : Int) (av : Int) => ∃ (a3 : PHeap) , PHeap.le aj a3 ∧ St w0 a3 (H) w' ∧ f' 0 = m ∧ f' 1 = Vi (c) ∧ f' 6 = Vi ((l.length : Int)) ∧ f' 7 = Vi (ar) ∧ f' 8 = Vi (av)) ae) ?_ ?_
   ·rcases ite_some x with ⟨u, x⟩ | ⟨u, x⟩
    ·refine W_cond_t rfl u (Zd (Za rfl rfl (Zm (v := Vi (IntKind.i64.wrap ((IntKind.u64.wrap (IntKind.i64.wrap (j + k))).fdiv (2 ^ 1)))) rfl rfl (Za rfl rfl (Exec.add rfl rfl rfl (Za rfl rfl (Zo (v := Vi (IntKind.i64.wrap ((IntKind.i64.wrap ((IntKind.u64.wrap (IntKind.i64.wrap (j + k))).fdiv (2 ^ 1))) + 1))) rfl rfl (Zb (Ze ?_)))))))))
     have bm := Zu x
     subst ae
     exact ⟨aj, (Zv _), ao, z, aa, ai, rfl, ac⟩
    refine W_cond_f rfl u ?_
    replace u := Zk u
    refine Zd (Za rfl rfl (Zm (v := Vi (IntKind.i64.wrap ((IntKind.u64.wrap (IntKind.i64.wrap (j + k))).fdiv (2 ^ 1)))) rfl rfl (Za rfl rfl (Zo (v := Vi (IntKind.i64.wrap ((IntKind.u64.wrap (IntKind.i64.wrap (j + k))).fdiv (2 ^ 1)))) rfl rfl (Zb (Ze ?_))))))
    have bn := Zu x
    subst ae
    exact ⟨aj, (Zv _), ao, z, aa, ai, ab, rfl⟩
   intro bw bA aA
   obtain ⟨ar, av⟩ := ae
   replace g := un2_eq g
   obtain ⟨ba, aK, aD, aN, aO, aP, aQ, aR⟩ := aA
   refine (ib_normal (Ze ?_))
   have bo := Zu g
   subst an
   refine ⟨_, rfl, ?_⟩; exact ⟨ba, (Zt (Zt ag aJ) aK), aD, aN, aO, aP, aQ, aR⟩
  refine W_cond_f rfl t ?_
  replace t := Zk t
  refine W_exit (at_exit (at_exit (ib_here (Ze ?_))))
  have bp := Zu g
  subst an
  refine ⟨_, .inr (aI (by intro _ h; cases h)), ?_⟩; exact ⟨aZ, ag, af, z, aa, ai, ab, ac⟩
 rintro bx bB ⟨bf, aq, aB⟩
 have hm := aq.elim (aH _) (aG _)
 clear aq
 obtain ⟨i, au⟩ := bf
 replace hm := un2_eq hm
 obtain ⟨ak, ah, q, ax, ay, aS, ad, b4⟩ := aB
 refine (Ze (Zc ?_))
 obtain ⟨p, b, hm⟩ := Zg hm
 refine W_mid (M := fun f' w' => (fun (p : Bool) => ∃ (a4 : PHeap) , PHeap.le ak a4 ∧ St w0 a4 (H) w' ∧ f' 4 = Vi (i) ∧ f' 5 = Value.bool (p)) p) ?_ ?_
 ·refine Zd (Za rfl rfl (Zm (v := Vi (i)) rfl ad (Za rfl rfl (Zm (v := Vi (i)) rfl ad (Za rfl rfl (Zm (v := Vi ((l.length : Int))) rfl aS (Za rfl rfl (Zq rfl rfl rfl (Za rfl rfl (Zm (v := Value.bool (decide (i < (l.length : Int)))) rfl rfl ?_))))))))))
  rcases ite_some b with ⟨a, b⟩ | ⟨a, b⟩
  ·refine WL_run rfl (Zf rfl (Zx a)) rfl (Zm (v := m) rfl ax (WL_run rfl (Zf rfl (Zx a)) rfl (Zm (v := Vi (i)) rfl ad ?_)))
   obtain ⟨al, az, b⟩ := Zg b
   refine WL_run rfl (Zf rfl (Zx a)) rfl (Exec.index_rep S24 rfl rfl rfl (y.mono ah) az ?_)
   intro bk b2 a6
   refine WL_run rfl (Zf rfl (Zx a)) rfl (Zw (E := (encInt .i64)) q A3 rfl rfl rfl a6 ?_)
   intro b6 aX
   obtain rfl := encInt_val.1 aX
   refine WL_run rfl (Zf rfl (Zx a)) rfl (Zm (v := Vi (c)) rfl ay (WL_run rfl (Zf rfl (Zx a)) rfl (Exec.eql rfl rfl rfl (WL_run rfl (Zf rfl (Zx a)) rfl (Zm (v := Value.bool (decide (al = c))) rfl rfl ?_)))))
   rcases ite_some b with ⟨d, b⟩ | ⟨d, b⟩
   ·refine WL_passes 9 (by rw [d]; rfl) ?_
    refine WL_run rfl (Zf rfl (Zx a)) rfl (Zs (v := Value.bool (true)) rfl rfl rfl (Za rfl rfl (Zs (v := Value.bool (true)) rfl (Zx a) rfl (Za rfl rfl (Zo (v := Vi (i)) rfl rfl (Za rfl rfl (Zo (v := Value.bool (true)) rfl rfl (Zb (Ze ?_)))))))))
    have bq := Zu b
    subst p
    exact ⟨ak, (Zv _), q, rfl, rfl⟩
   replace d := Zk d
   refine WL_run rfl (Zf rfl (Zx d)) rfl (Zm (v := m) rfl ax (WL_run rfl (Zf rfl (Zx d)) rfl (Zm (v := Vi (i)) rfl ad (WL_run rfl (Zf rfl (Zx d)) rfl (Exec.index_rep S24 rfl rfl rfl (y.mono ah) az ?_)))))
   intro bl b3 a7
   refine WL_run rfl (Zf rfl (Zx d)) rfl (Zw (E := (encInt .i64)) q A3 rfl rfl rfl a7 ?_)
   intro b7 aY
   obtain rfl := encInt_val.1 aY
   refine WL_run rfl (Zf rfl (Zx d)) rfl (Tc rfl rfl rfl (Zi rfl args_nil) (slices_isNaN_int_sim (slices_isNaN_int_tot al) q ).r ?_)
   rintro _ bC ⟨bb, aw, ap, rfl⟩
   refine WL_run rfl (Zf rfl (Zx d)) rfl (Zm (v := Value.bool ((slices_isNaN_int_t al))) rfl rfl ?_)
   rcases ite_some b with ⟨o, b⟩ | ⟨o, b⟩
   ·refine WL_run rfl (Zf rfl (Zx o)) rfl (Zm (v := Vi (c)) rfl ay (WL_run rfl (Zf rfl (Zx o)) rfl (Tc rfl rfl rfl (Zi rfl args_nil) (slices_isNaN_int_sim (slices_isNaN_int_tot c) ap ).r ?_)))
    rintro _ bD ⟨bc, aL, aE, rfl⟩
    refine WL_run rfl (Zf rfl (Zx d)) rfl (Zs (v := Value.bool ((slices_isNaN_int_t c))) rfl (Zx o) rfl (WL_run rfl (Zf rfl (Zx a)) rfl (Exec.pick_f (v := Value.bool ((slices_isNaN_int_t c))) rfl (Zx d) rfl (Za rfl rfl (Zs (v := Value.bool ((slices_isNaN_int_t c))) rfl (Zx a) rfl (Za rfl rfl (Zo (v := Vi (i)) rfl rfl (Za rfl rfl (Zo (v := Value.bool ((slices_isNaN_int_t c))) rfl rfl (Zb (Ze ?_)))))))))))
    have br := Zu b
    subst p
    exact ⟨bc, (Zt aw aL), aE, rfl, rfl⟩
   replace o := Zk o
   refine WL_passes 2 (by rw [o]; rfl) ?_
   refine WL_run rfl (Zf rfl (Zx d)) rfl (Exec.pick_f (v := Value.bool (false)) rfl rfl rfl (WL_run rfl (Zf rfl (Zx a)) rfl (Exec.pick_f (v := Value.bool (false)) rfl (Zx d) rfl (Za rfl rfl (Zs (v := Value.bool (false)) rfl (Zx a) rfl (Za rfl rfl (Zo (v := Vi (i)) rfl rfl (Za rfl rfl (Zo (v := Value.bool (false)) rfl rfl (Zb (Ze ?_)))))))))))
   have bs := Zu b
   subst p
   exact ⟨bb, aw, ap, rfl, rfl⟩
  replace a := Zk a
  refine WL_passes 18 (by rw [a]; rfl) ?_
  refine Za rfl rfl (Zo (v := Vi (i)) rfl rfl (Za rfl rfl (Zo (v := Value.bool (false)) rfl rfl (Zb (Ze ?_)))))
  have bt := Zu b
  subst p
  exact ⟨ak, (Zv _), q, rfl, rfl⟩
 intro bz bE aC
 obtain ⟨bd, aM, aF, aT, aU⟩ := aC
 refine (Ze (W_ret ?_))
 have bu := Zu hm
 subst r
 refine ⟨_, ret2 rfl, ?_⟩
 exact ⟨bd, (Zt ah aM), aF, (tup2 aT aU)⟩
theorem F98_2 : tyField Tryz.prog 98 2 = some 4 := by kernel_rfl
theorem A4 : tyAgg Tryz.prog 4 = some (false, 1) := by kernel_rfl
theorem Z150 : tyZero Tryz.prog 150 = some (Value.agg #[Value.map none, Value.map none]) := by kernel_rfl
theorem A150 : tyAgg Tryz.prog 150 = some (true, 2) := by kernel_rfl
theorem F150_0 : tyField Tryz.prog 150 0 = some 0 := by kernel_rfl
theorem A107 : tyAgg Tryz.prog 107 = some (false, 1) := by kernel_rfl
theorem F150_1 : tyField Tryz.prog 150 1 = some 1 := by kernel_rfl
theorem N103 : (Tryz.f103.name == "runtime.NumGoroutine") = false := by kernel_rfl
theorem invariant_situation_c1_sim {w0 w : World} {s : PHeap} {H : List Res} {d : Cond} {l : invariant_literals} {i : Value} {j : Value} {o : Value} {c : Nat} {a : Nat} {b : Nat} {r : BMap × BMap} (hm : invariant_situation_c1_p d l = some r) (hS : St w0 s (Res.box c 150 [Value.map (some a), Value.map (some b)] :: Res.bmap Tryz.prog 3 4 a l.pos :: Res.bmap Tryz.prog 3 4 b l.neg :: H) w) (p : SliceRep (encInt .i64) s i d.Pos) (q : SliceRep (encInt .i64) s j d.Neg) (aV : SliceRep encGTest s o d.Tests) :
  Calls Tryz.prog 103 #[Value.agg #[i, j, o], Value.pointer (some ⟨c, 0, none⟩)] w fun e w' => ∃ v, e = .returned v ∧ ((un2 fun (aA : BMap) (aB : BMap) => ∃ (al : PHeap) , PHeap.le s al ∧ St w0 al (Res.box c 150 [Value.map (some a), Value.map (some b)] :: Res.bmap Tryz.prog 3 4 a aA :: Res.bmap Tryz.prog 3 4 b aB :: H) w' ∧ v = Value.tuple #[]) r) := by
 unfold invariant_situation_c1_p at hm
 refine calls_of_W Tryz.func103 rfl rfl (Zc (Zd (Za rfl rfl (Exec.box (cs := [i, j, o]) hS rfl rfl rfl ?_))))
 intro aa bo ab
 refine Zb (Ze (Zc (Zc (Zd (Za rfl rfl (Zp F84_0 rfl rfl rfl (Za rfl rfl (Zn (ab) A24 rfl rfl rfl (Za rfl rfl (Zr S24 rfl rfl p (Za rfl rfl (Zm (v := Vi (0)) rfl rfl (Zb (Ze ?_))))))))))))))
 obtain ⟨m, av, hm⟩ := Zg hm
 refine W_block (W_forS (fun k' s' f' w' => (fun (m : BMap) => ∃ (am : PHeap) , PHeap.le s am ∧ St w0 am (Res.box c 150 [Value.map (some a), Value.map (some b)] :: Res.bmap Tryz.prog 3 4 a m :: Res.bmap Tryz.prog 3 4 b l.neg :: Res.box aa 84 [i, j, o] :: H) w' ∧ f' 1 = Value.pointer (some ⟨c, 0, none⟩) ∧ f' 2 = Value.pointer (some ⟨aa, 0, none⟩) ∧ f' 8 = i ∧ f' 9 = Vi ((d.Pos.length : Int)) ∧ f' 10 = Vi (k' : Int)) s') av ?_ ?_ ?_)
 ·have a1 := (ab).f3
  exact ⟨s, (Zv _), ((a1).f3).f3, rfl, rfl, rfl, rfl, rfl⟩
 ·intro a8 m aO bb bp a6 ax g
  obtain ⟨aP, ad, t, af, aD, ag, ah, y⟩ := ax
  refine Zc (Zd (Za rfl rfl (Zq rfl y ah (Zb (Ze (Zc (W_true (Zx (decide_eq_true (by omega))) (W_skip (Ze (Zc (W_block (Zc (Zd ?_)))))))))))))
  obtain ⟨ap, aI, g⟩ := Zg g
  refine Za rfl rfl (Exec.index_rep S24 rfl ag y (p.mono ad) aI ?_)
  intro aW bh ar
  refine Za rfl rfl (Zw (E := (encInt .i64)) t A3 rfl rfl rfl ar ?_)
  intro bm aJ
  obtain rfl := encInt_val.1 aJ
  refine Za rfl rfl (Zo (v := Vi (ap)) rfl rfl (Zb (Ze (Zd (Za rfl rfl (Zp F150_0 rfl af rfl (Za rfl rfl (Zn (t) A107 rfl rfl rfl (Za rfl rfl (Zm (v := Vi (ap)) rfl rfl ?_))))))))))
  obtain ⟨bf, aK, g⟩ := Zg g
  refine Za rfl rfl (Exec.bmap_put (t).f1 ⟨Tryz.underlying107, Tryz.underlying3, Tryz.underlying4⟩ rfl rfl rfl rfl aK ?_)
  intro bq a2
  refine Zb (ib_normal (Ze (Zd (Za rfl rfl (Exec.add rfl y rfl (Za rfl rfl (Zm (v := Vi (IntKind.i64.wrap ((a8 : Int) + 1))) rfl rfl (Zb (Ze ?_)))))))))
  have aY := Zu g
  subst aO
  exact ⟨aP, ad, ((((a2).f3).f3).f2).f3, af, aD, ag, ah, (Eq.trans rfl (wrap_up a6 (SliceRep.le p)))⟩
 intro bc br ay
 obtain ⟨an, n, ac, aE, aF, bj, aG, aT⟩ := ay
 refine Zc (Zd (Za rfl rfl (Zq rfl aT aG (Zb (Ze (Zc (W_false (Zx (decide_eq_false (by omega))) (W_exit (at_exit (at_exit (ib_here (Ze (Zc (Zd (Za rfl rfl (Zp F84_1 rfl aF rfl (Za rfl rfl (Zn ((ac).f3) A24 rfl rfl rfl (Za rfl rfl (Zr S24 rfl rfl (q.mono n) (Za rfl rfl (Zm (v := Vi (0)) rfl rfl (Zb (Ze ?_))))))))))))))))))))))))
 obtain ⟨x, aw, hm⟩ := Zg hm
 refine W_block (W_forS (fun k' s' f' w' => (fun (x : BMap) => ∃ (ao : PHeap) , PHeap.le an ao ∧ St w0 ao (Res.box c 150 [Value.map (some a), Value.map (some b)] :: Res.bmap Tryz.prog 3 4 a m :: Res.bmap Tryz.prog 3 4 b x :: H) w' ∧ f' 1 = Value.pointer (some ⟨c, 0, none⟩) ∧ f' 19 = j ∧ f' 20 = Vi ((d.Neg.length : Int)) ∧ f' 21 = Vi (k' : Int)) s') aw ?_ ?_ ?_)
 ·have a3 := ((ac).f3).drop
  exact ⟨an, (Zv _), (((a3).f2).f2).f2, aE, rfl, rfl, rfl⟩
 ·intro a9 x aQ bd bs a7 az h
  obtain ⟨aR, ae, u, ai, aj, ak, z⟩ := az
  refine Zc (Zd (Za rfl rfl (Zq rfl z ak (Zb (Ze (Zc (W_true (Zx (decide_eq_true (by omega))) (W_skip (Ze (Zc (W_block (Zc (Zd ?_)))))))))))))
  obtain ⟨aq, aL, h⟩ := Zg h
  refine Za rfl rfl (Exec.index_rep S24 rfl aj z (q.mono (Zt n ae)) aL ?_)
  intro aX bi au
  refine Za rfl rfl (Zw (E := (encInt .i64)) u A3 rfl rfl rfl au ?_)
  intro bn aM
  obtain rfl := encInt_val.1 aM
  refine Za rfl rfl (Zo (v := Vi (aq)) rfl rfl (Zb (Ze (Zd (Za rfl rfl (Zp F150_1 rfl ai rfl (Za rfl rfl (Zn (u) A107 rfl rfl rfl (Za rfl rfl (Zm (v := Vi (aq)) rfl rfl ?_))))))))))
  obtain ⟨bg, aN, h⟩ := Zg h
  refine Za rfl rfl (Exec.bmap_put (u).f2 ⟨Tryz.underlying107, Tryz.underlying3, Tryz.underlying4⟩ rfl rfl rfl rfl aN ?_)
  intro bt a4
  refine Zb (ib_normal (Ze (Zd (Za rfl rfl (Exec.add rfl z rfl (Za rfl rfl (Zm (v := Vi (IntKind.i64.wrap ((a9 : Int) + 1))) rfl rfl (Zb (Ze ?_)))))))))
  have aZ := Zu h
  subst aQ
  exact ⟨aR, ae, ((a4).f2).f2, ai, aj, ak, (Eq.trans rfl (wrap_up a7 (SliceRep.le (q.mono n))))⟩
 intro be bu a0
 obtain ⟨aS, aC, a5, bk, bl, aH, aU⟩ := a0
 refine Zc (Zd (Za rfl rfl (Zq rfl aU aH (Zb (Ze (Zc (W_false (Zx (decide_eq_false (by omega))) (W_exit (at_exit (at_exit (ib_here ?_)))))))))))
 have ba := Zu hm
 subst r
 refine ⟨_, retG0 rfl, ?_⟩
 exact ⟨aS, (Zt n aC), (((a5).f2).f2).f2, rfl⟩
theorem Z4 : tyZero Tryz.prog 4 = some (Value.bool false) := by kernel_rfl
theorem invariant_situation_sim {w0 w : World} {s : PHeap} {H : List Res} {i : GOp} {ar : (List GChange)} {j : Int} {ac : (List Int)} {aj : Value} {ak : Value} {al : Value} {aA : Value} {aB : Value} {am : Value} {t : Value} {r : Bool × invariant_literals} (hm : invariant_situation_p i ar j ac = some r) (hS : St w0 s (H) w) (bo : SliceRep (encInt .i64) s aj i.Pre.Pos) (bp : SliceRep (encInt .i64) s ak i.Pre.Neg) (bq : SliceRep encGTest s al i.Pre.Tests) (c8 : SliceRep encGChange s aA i.Changes) (c9 : SliceRep encGAssign s aB i.Assigns) (ap : SliceRep encGChange s am ar) (aq : SliceRep (encInt .i64) s t ac) :
  Calls Tryz.prog 87 #[Value.agg #[Value.string (i.Name), Vi (i.Cost), aj, ak, al, aA, aB], am, Vi (j), t] w fun e w' => ∃ v, e = .returned v ∧ ((un2 fun (c7 : Bool) (bn : invariant_literals) => ∃ (bb : PHeap) (bl : Nat) (bm : Nat), PHeap.le s bb ∧ St w0 bb (Res.bmap Tryz.prog 3 4 bl bn.pos :: Res.bmap Tryz.prog 3 4 bm bn.neg :: H) w' ∧ v = Value.tuple #[Value.agg #[Value.map (some bl), Value.map (some bm)], Value.bool (c7)]) r) := by
 unfold invariant_situation_p at hm
 refine calls_of_W Tryz.func87 rfl rfl (Zc (Zd (Za rfl rfl (Exec.box (cs := [Value.string (i.Name), Vi (i.Cost), aj, ak, al, aA, aB]) hS rfl rfl rfl ?_))))
 intro cA dn b3
 refine Za rfl rfl (Exec.alloc (cs := [Value.map none, Value.map none]) b3 Z150 rfl rfl ?_)
 intro h dp b4
 refine Za rfl rfl (Zo (v := Value.bool (false)) rfl rfl (Zb (Ze (Zc (Zd (Za rfl rfl (Exec.make_bmap (k := 3) (e := 4) b4 rfl ?_)))))))
 intro a dq b5
 refine Za rfl rfl (Exec.make_bmap (k := 3) (e := 4) b5 rfl ?_)
 intro b dr b6
 refine Za rfl rfl (Exec.build rfl (parts_cons (c := [Value.map (some a)]) (cells_of rfl rfl) (parts_cons (c := [Value.map (some b)]) (cells_of rfl rfl) parts_nil)) (v := Value.agg #[Value.map (some a), Value.map (some b)]) (fun _ => by kernel_rfl) (Za rfl rfl (Exec.alloc (cs := [Value.map none, Value.map none]) b6 Z150 rfl rfl ?_)))
 intro g dt b7
 refine Za rfl rfl (Exec.store_box (ds := [Value.map (some a), Value.map (some b)]) (es := [Value.map (some a), Value.map (some b)]) b7 A150 rfl rfl rfl rfl (Zj rfl (Zj rfl one_nil)) (Nat.le_of_ble_eq_true rfl) rfl ?_)
 intro du aE
 refine Zb (Ze (Zc (Zd (Za rfl rfl (Exec.makeFunc rfl (Zi rfl args_nil) (Za rfl rfl (Zo (v := Value.func (.func 103) #[] #[Value.pointer (some ⟨g, 0, none⟩)]) rfl rfl (Zb (Ze (Zc (Zd (Za rfl rfl (Zm (v := Value.func (.func 103) #[] #[Value.pointer (some ⟨g, 0, none⟩)]) rfl rfl (Za rfl rfl (Zp F91_2 rfl rfl rfl (Za rfl rfl (Exec.load_box_agg (ds := [aj, ak, al]) ((aE).f4) A84 rfl rfl rfl ?_)))))))))))))))))
 obtain ⟨c1, cm, hm⟩ := Zg hm
 obtain ⟨cV, cW⟩ := c1
 replace hm := un2_eq hm
 refine Za rfl rfl (Exec.callc rfl rfl Tryz.func103 rfl N103 (Zi rfl args_nil) rfl ((invariant_situation_c1_sim cm (((aE).f1).f2).f2 bo bp bq).mono ?_))
 rintro _ dv ⟨_, rfl, ⟨bc, q, b8, rfl⟩⟩
 refine ⟨_, rfl, ?_⟩
 refine Zb (Ze (Zc (Zc (Zd (Za rfl rfl (Zm (v := am) rfl rfl (Za rfl rfl (Zr S88 rfl rfl (ap.mono q) (Za rfl rfl (Zm (v := Vi (0)) rfl rfl (Zb (Ze ?_))))))))))))
 obtain ⟨c2, bt, hm⟩ := Zg hm
 refine W_block (W_forS (fun k' s' f' w' => (un2 fun (aw : BMap) (ae : BMap) => ∃ (bd : PHeap) , PHeap.le bc bd ∧ St w0 bd (Res.box h 150 [Value.map none, Value.map none] :: Res.box g 150 [Value.map (some a), Value.map (some b)] :: Res.bmap Tryz.prog 3 4 a aw :: Res.bmap Tryz.prog 3 4 b ae :: H) w' ∧ f' 2 = Vi (j) ∧ f' 3 = t ∧ f' 8 = Value.pointer (some ⟨h, 0, none⟩) ∧ f' 10 = Value.pointer (some ⟨g, 0, none⟩) ∧ f' 11 = Value.func (.func 103) #[] #[Value.pointer (some ⟨g, 0, none⟩)] ∧ f' 25 = am ∧ f' 26 = Vi ((ar.length : Int)) ∧ f' 27 = Vi (k' : Int)) s') bt ?_ ?_ ?_)
 ·have b9 := ((b8).f4).drop
  exact ⟨bc, (Zv _), ((((b9).f2).f2).f2).f3, rfl, rfl, rfl, rfl, rfl, rfl, rfl, rfl⟩
 ·intro bR c3 cw cN dw bN bv l
  obtain ⟨aw, ae⟩ := c3
  replace l := un2_eq l
  obtain ⟨di, aN, aF, bV, bW, bX, bY, aQ, aR, aS, aC⟩ := bv
  refine Zc (Zd (Za rfl rfl (Zq rfl aC aS (Zb (Ze (Zc (W_true (Zx (decide_eq_true (by omega))) (W_skip (Ze (Zc (W_block (Zc (Zd ?_)))))))))))))
  obtain ⟨an, cn, l⟩ := Zg l
  refine Za rfl rfl (Exec.index_rep S88 rfl aR aC (ap.mono (Zt q aN)) cn ?_)
  intro cB db br
  refine Za rfl rfl (Zw (E := encGChange) aF A98 rfl rfl rfl br ?_)
  intro dk co
  obtain ⟨a7, a8, a9, rfl, aX, aY, aZ⟩ := encGChange_val.1 co
  refine Za rfl rfl (Exec.alloc (cs := [Value.slice none 0 0, Value.slice none 0 0, Value.slice none 0 0, Vi (0), Value.bool (false)]) aF Z98 rfl rfl ?_)
  intro cC dx bA
  refine Za rfl rfl (Exec.store_box (ds := [a7, a8, a9, Vi (an.Atom), Value.bool (an.Add)]) (es := [a7, a8, a9, Vi (an.Atom), Value.bool (an.Add)]) bA A98 rfl rfl rfl rfl (Zj (aX).one (Zj (aY).one (Zj (aZ).one (Zj rfl (Zj rfl one_nil))))) (Nat.le_of_ble_eq_true rfl) rfl ?_)
  intro dy aG
  refine Zb (Ze (Zd (Za rfl rfl (Zm (v := Value.func (.func 103) #[] #[Value.pointer (some ⟨g, 0, none⟩)]) rfl aQ (Za rfl rfl (Zp F98_0 rfl rfl rfl (Za rfl rfl (Exec.load_box_agg (ds := [a7, a8, a9]) (aG) A84 rfl rfl rfl ?_))))))))
  obtain ⟨c4, cp, l⟩ := Zg l
  obtain ⟨cX, cY⟩ := c4
  replace l := un2_eq l
  refine Za rfl rfl (Exec.callc rfl rfl Tryz.func103 rfl N103 (Zi rfl args_nil) rfl ((invariant_situation_c1_sim cp (((aG).f4).f4).f4 aX aY aZ).mono ?_))
  rintro _ dz ⟨_, rfl, ⟨cx, bS, bB, rfl⟩⟩
  refine ⟨_, rfl, ?_⟩
  refine Zb (ib_normal (Ze (Zd (Za rfl rfl (Exec.add rfl aC rfl (Za rfl rfl (Zm (v := Vi (IntKind.i64.wrap ((bR : Int) + 1))) rfl rfl (Zb (Ze ?_)))))))))
  have cF := Zu l
  subst cw
  exact ⟨cx, (Zt aN bS), ((((((bB).f3).drop).f2).f2).f2).f3, bV, bW, bX, bY, aQ, aR, aS, (Eq.trans rfl (wrap_up bN (SliceRep.le (ap.mono q))))⟩
 intro cO d0 bw
 obtain ⟨aw, ae⟩ := c2
 replace hm := un2_eq hm
 obtain ⟨a5, af, au, ai, aT, aU, ax, dd, de, bZ, c5⟩ := bw
 refine Zc (Zd (Za rfl rfl (Zq rfl c5 bZ (Zb (Ze (Zc (W_false (Zx (decide_eq_false (by omega))) (W_exit (at_exit (at_exit (ib_here (Ze (Zc (Zc (Zd (Za rfl rfl (Zm (v := Vi (j)) rfl ai (Za rfl rfl (Exec.geq rfl rfl rfl (Zb (Ze ?_)))))))))))))))))))))
 obtain ⟨n, o, hm⟩ := Zg hm
 refine W_mid (M := fun f' w' => (fun (n : BMap) => ∃ (be : PHeap) , PHeap.le a5 be ∧ St w0 be (Res.box h 150 [Value.map none, Value.map none] :: Res.box g 150 [Value.map (some a), Value.map (some b)] :: Res.bmap Tryz.prog 3 4 a n :: Res.bmap Tryz.prog 3 4 b ae :: H) w' ∧ f' 2 = Vi (j) ∧ f' 3 = t ∧ f' 8 = Value.pointer (some ⟨h, 0, none⟩) ∧ f' 10 = Value.pointer (some ⟨g, 0, none⟩)) n) ?_ ?_
 ·rcases ite_some o with ⟨u, o⟩ | ⟨u, o⟩
  ·refine W_cond_t rfl u (Zd (Za rfl rfl (Zp F150_0 rfl ax rfl (Za rfl rfl (Zn ((au).f1) A107 rfl rfl rfl (Za rfl rfl (Zm (v := Vi (j)) rfl ai ?_)))))))
   obtain ⟨cZ, cq, o⟩ := Zg o
   refine Za rfl rfl (Exec.bmap_put (au).f2 ⟨Tryz.underlying107, Tryz.underlying3, Tryz.underlying4⟩ rfl rfl rfl rfl cq ?_)
   intro d1 bC
   refine Zb (Ze ?_)
   have cG := Zu o
   subst n
   exact ⟨a5, (Zv _), ((((bC).f3).f1).f3).f3, ai, aT, aU, ax⟩
  refine W_cond_f rfl u ?_
  replace u := Zk u
  refine W_skip (Ze ?_)
  have cH := Zu o
  subst n
  exact ⟨a5, (Zv _), ((((au).f3).f3).f3).f3, ai, aT, aU, ax⟩
 intro cP d2 b1
 obtain ⟨bf, ag, bD, ca, cb, cc, cd⟩ := b1
 refine (Ze (Zc (Zc (Zd (Za rfl rfl (Zm (v := t) rfl cb (Za rfl rfl (Zr S24 rfl rfl (aq.mono (Zt (Zt q af) ag)) (Za rfl rfl (Zm (v := Vi (0)) rfl rfl (Zb (Ze ?_))))))))))))
 obtain ⟨ah, bu, hm⟩ := Zg hm
 refine W_block (W_forS (fun k' s' f' w' => (fun (ah : BMap) => ∃ (bg : PHeap) , PHeap.le bf bg ∧ St w0 bg (Res.box h 150 [Value.map none, Value.map none] :: Res.box g 150 [Value.map (some a), Value.map (some b)] :: Res.bmap Tryz.prog 3 4 a n :: Res.bmap Tryz.prog 3 4 b ah :: H) w' ∧ f' 2 = Vi (j) ∧ f' 8 = Value.pointer (some ⟨h, 0, none⟩) ∧ f' 10 = Value.pointer (some ⟨g, 0, none⟩) ∧ f' 41 = t ∧ f' 42 = Vi ((ac.length : Int)) ∧ f' 43 = Vi (k' : Int)) s') bu ?_ ?_ ?_)
 ·have bE := (bD).f3
  exact ⟨bf, (Zv _), (((bE).f3).f3).f3, ca, cc, cd, rfl, rfl, rfl⟩
 ·intro aM ah cy cQ d3 bO bx z
  obtain ⟨a6, aO, ad, ay, aV, az, a0, a1, ao⟩ := bx
  refine Zc (Zd (Za rfl rfl (Zq rfl ao a1 (Zb (Ze (Zc (W_true (Zx (decide_eq_true (by omega))) (W_skip (Ze (Zc (W_block (Zc (Zd ?_)))))))))))))
  obtain ⟨aD, cr, z⟩ := Zg z
  refine Za rfl rfl (Exec.index_rep S24 rfl a0 ao (aq.mono (Zt (Zt (Zt q af) ag) aO)) cr ?_)
  intro cD dc bs
  refine Za rfl rfl (Zw (E := (encInt .i64)) ad A3 rfl rfl rfl bs ?_)
  intro dl ct
  obtain rfl := encInt_val.1 ct
  refine Za rfl rfl (Zo (v := Vi (aD)) rfl rfl (Zb (Ze (Zc (Zd (Za rfl rfl (Zm (v := Vi (aD)) rfl rfl (Za rfl rfl (Zm (v := Vi (j)) rfl ay (Za rfl rfl (Exec.neq rfl rfl rfl (Zb (Ze ?_)))))))))))))
  obtain ⟨aa, p, z⟩ := Zg z
  refine W_mid (M := fun f' w' => (fun (aa : BMap) => ∃ (bh : PHeap) , PHeap.le a6 bh ∧ St w0 bh (Res.box h 150 [Value.map none, Value.map none] :: Res.box g 150 [Value.map (some a), Value.map (some b)] :: Res.bmap Tryz.prog 3 4 a n :: Res.bmap Tryz.prog 3 4 b aa :: H) w' ∧ f' 2 = Vi (j) ∧ f' 8 = Value.pointer (some ⟨h, 0, none⟩) ∧ f' 10 = Value.pointer (some ⟨g, 0, none⟩) ∧ f' 41 = t ∧ f' 42 = Vi ((ac.length : Int)) ∧ f' 43 = Vi ((aM : Int))) aa) ?_ ?_
  ·rcases ite_some p with ⟨x, p⟩ | ⟨x, p⟩
   ·refine W_cond_t rfl x (Zd (Za rfl rfl (Zp F150_1 rfl az rfl (Za rfl rfl (Zn ((ad).f1) A107 rfl rfl rfl (Za rfl rfl (Zm (v := Vi (aD)) rfl rfl ?_)))))))
    obtain ⟨da, cu, p⟩ := Zg p
    refine Za rfl rfl (Exec.bmap_put (ad).f3 ⟨Tryz.underlying107, Tryz.underlying3, Tryz.underlying4⟩ rfl rfl rfl rfl cu ?_)
    intro d4 bF
    refine Zb (Ze ?_)
    have cI := Zu p
    subst aa
    exact ⟨a6, (Zv _), (((bF).f3).f3).f3, ay, aV, az, a0, a1, ao⟩
   refine W_cond_f rfl x ?_
   replace x := Zk x
   refine W_skip (Ze ?_)
   have cJ := Zu p
   subst aa
   exact ⟨a6, (Zv _), ((((ad).f3).f3).f3).f3, ay, aV, az, a0, a1, ao⟩
  intro cR d5 b2
  obtain ⟨cz, bT, bG, ce, cf, cg, ch, ci, cj⟩ := b2
  refine (ib_normal (Ze (Zd (Za rfl rfl (Exec.add rfl cj rfl (Za rfl rfl (Zm (v := Vi (IntKind.i64.wrap ((aM : Int) + 1))) rfl rfl (Zb (Ze ?_)))))))))
  have cK := Zu z
  subst cy
  exact ⟨cz, (Zt aO bT), ((((bG).f3).f3).f3).f3, ce, cf, cg, ch, ci, (Eq.trans rfl (wrap_up bO (SliceRep.le (aq.mono (Zt (Zt q af) ag)))))⟩
 intro cS d6 bz
 obtain ⟨bi, bU, aH, df, ck, aW, dg, cl, c6⟩ := bz
 refine Zc (Zd (Za rfl rfl (Zq rfl c6 cl (Zb (Ze (Zc (W_false (Zx (decide_eq_false (by omega))) (W_exit (at_exit (at_exit (ib_here (Ze (Zc (Zc (Zd (Za rfl rfl (Zp F150_0 rfl aW rfl (Za rfl rfl (Zn ((aH).f1) A107 rfl rfl rfl (Za rfl rfl (Exec.bmap_range (aH).f2 ⟨Tryz.underlying107, Tryz.underlying3, Tryz.underlying4⟩ rfl rfl ?_)))))))))))))))))))))
 intro ba d7 bH
 refine Zb (Ze (W_block (W_rangeC (fun d' s' f' w' => (fun (_ : Unit) => ∃ (bj : PHeap) , PHeap.le bi bj ∧ St w0 bj (Res.box h 150 [Value.map none, Value.map none] :: Res.box g 150 [Value.map (some a), Value.map (some b)] :: Res.brange Tryz.prog 3 4 a ba n d' :: Res.bmap Tryz.prog 3 4 b ah :: H) w' ∧ f' 8 = Value.pointer (some ⟨h, 0, none⟩) ∧ f' 10 = Value.pointer (some ⟨g, 0, none⟩) ∧ f' 56 = Value.pointer (some ⟨ba, 0, none⟩)) s') hm ?_ ?_)))
 ·have bI := (bH).f3
  exact ⟨bi, (Zv _), (((bI).f1).f3).f3, ck, aW, rfl⟩
 intro cE dj cT d8 b0 bL bQ
 obtain ⟨bk, aP, bJ, a2, a3, a4⟩ := b0
 refine Zc (Zd (Za rfl rfl (Exec.brange_next (bJ).f2 ⟨Tryz.underlying107, Tryz.underlying3, Tryz.underlying4⟩ rfl a4 ?_ ?_)))
 ·intro bK aI
  have bP := bL bK
  refine Za rfl rfl (Exec.extract (v := Value.bool (false)) rfl rfl rfl (Zb (Ze (Zc (W_false rfl (W_exit (at_exit (at_exit (ib_here (Ze (Zc (Zd (Za rfl rfl (Exec.load_box_agg (ds := [Value.map (some a), Value.map (some b)]) ((aI).f2) A150 rfl a3 rfl (Za rfl rfl (Exec.store_box (ds := [Value.map (some a), Value.map (some b)]) (es := [Value.map (some a), Value.map (some b)]) (aI).f1 A150 rfl a2 rfl rfl (Zj rfl (Zj rfl one_nil)) (Nat.le_of_ble_eq_true rfl) rfl ?_))))))))))))))))
  intro d9 aJ
  refine Za rfl rfl (Zo (v := Value.bool (true)) rfl rfl (Zb (Ze (W_ret ?_))))
  have cL := Zu bP
  subst r
  refine ⟨_, retG2 rfl ⟨_, _, a2, cellRes (aJ) A150⟩ rfl, ?_⟩
  exact ⟨bk, a, b, (Zt (Zt (Zt (Zt q af) ag) bU) aP), (((((aJ).drop).f1).drop).f1).f1, (tup2 rfl rfl)⟩
 intro ab dm dA aK aL av bM
 obtain ⟨c0, m, cU⟩ := bQ ab aK aL
 have hm8684k := m
 refine Za rfl rfl (Exec.extract (v := Value.bool (true)) rfl rfl rfl (Zb (Ze (Zc (W_true rfl (W_skip (Ze (W_block (Zc (Zd (Za rfl rfl (Exec.entry rfl a4 bM (Za rfl rfl (Exec.extract (v := Vi (ab)) rfl rfl rfl (Za rfl rfl (Zo (v := Vi (ab)) rfl rfl (Zb (Ze (Zc (Zd (Za rfl rfl (Zp F150_1 rfl a3 rfl (Za rfl rfl (Zn ((av).f2) A107 rfl rfl rfl (Za rfl rfl (Zm (v := Vi (ab)) rfl rfl ?_))))))))))))))))))))))))))
 obtain ⟨dh, cv, m⟩ := Zg m
 refine Za rfl rfl (Exec.bmap_get ((av).f3) ⟨Tryz.underlying107, Tryz.underlying3, Tryz.underlying4⟩ Z4 rfl rfl rfl cv (Zb (Ze ?_)))
 rcases ite_some m with ⟨y, m⟩ | ⟨y, m⟩
 ·refine W_cond_t rfl y (Zc ?_)
  cases m
 refine W_cond_f rfl y ?_
 replace y := Zk y
 refine W_skip (ib_normal (Ze ?_))
 have cM := Zu m
 subst c0
 exact ⟨ab, _, aK, aL, hm8684k, ⟨bk, aP, ((((av).f3).f1).f3).f3, a2, a3, a4⟩⟩
theorem invariant_literals_deletes_o_sim {w0 w : World} {s : PHeap} {H : List Res} {b : invariant_literals} {c : GOp} {n : Int} {d : Nat} {g : Nat} {aq : Value} {ar : Value} {au : Value} {o : Value} {av : Value} {r : Bool} (hm : invariant_literals_deletes_o_p b c n = some r) (hS : St w0 s (Res.bmap Tryz.prog 3 4 d b.pos :: Res.bmap Tryz.prog 3 4 g b.neg :: H) w) (bR : SliceRep (encInt .i64) s aq c.Pre.Pos) (bS : SliceRep (encInt .i64) s ar c.Pre.Neg) (bT : SliceRep encGTest s au c.Pre.Tests) (ag : SliceRep encGChange s o c.Changes) (bU : SliceRep encGAssign s av c.Assigns) :
  Calls Tryz.prog 88 #[Value.agg #[Value.map (some d), Value.map (some g)], Value.agg #[Value.string (c.Name), Vi (c.Cost), aq, ar, au, o, av], Vi (n)] w fun e w' => ∃ v, e = .returned v ∧ ((fun (bQ : Bool) => ∃ (aB : PHeap) , PHeap.le s aB ∧ St w0 aB (Res.bmap Tryz.prog 3 4 d b.pos :: Res.bmap Tryz.prog 3 4 g b.neg :: H) w' ∧ v = Value.bool (bQ)) r) := by
 unfold invariant_literals_deletes_o_p at hm
 refine calls_of_W Tryz.func88 rfl rfl (Zc (Zd (Za rfl rfl (Exec.box (cs := [Value.map (some d), Value.map (some g)]) hS rfl rfl rfl ?_))))
 intro m cV aY
 refine Za rfl rfl (Exec.box (cs := [Value.string (c.Name), Vi (c.Cost), aq, ar, au, o, av]) aY rfl rfl rfl ?_)
 intro bV cW ay
 refine Za rfl rfl (Zo (v := Value.bool (false)) rfl rfl (Zb (Ze (Zc (Zc (Zd (Za rfl rfl (Zp F91_3 rfl rfl rfl (Za rfl rfl (Zn (ay) A88 rfl rfl rfl (Za rfl rfl (Zr S88 rfl rfl ag (Za rfl rfl (Zm (v := Vi (0)) rfl rfl (Zb (Ze ?_))))))))))))))))
 obtain ⟨aw, aN, bm, bk, bi⟩ := ctl_some hm
 refine W_mid (M := fun f' w' => ∃ s', (aw = .next s' ∨ aw = .brk s') ∧ (fun (_ : Unit) => ∃ (aC : PHeap) , PHeap.le s aC ∧ St w0 aC (Res.bmap Tryz.prog 3 4 d b.pos :: Res.bmap Tryz.prog 3 4 g b.neg :: Res.box m 150 [Value.map (some d), Value.map (some g)] :: H) w' ∧ f' 2 = Vi (n) ∧ f' 3 = Value.pointer (some ⟨m, 0, none⟩) ∧ f' 15 = o ∧ f' 16 = Vi ((c.Changes.length : Int))) s') ?_ ?_
 ·refine W_block (W_forC (fun k' s' f' w' => (fun (_ : Unit) => ∃ (aD : PHeap) , PHeap.le s aD ∧ St w0 aD (Res.bmap Tryz.prog 3 4 d b.pos :: Res.bmap Tryz.prog 3 4 g b.neg :: Res.box m 150 [Value.map (some d), Value.map (some g)] :: H) w' ∧ f' 2 = Vi (n) ∧ f' 3 = Value.pointer (some ⟨m, 0, none⟩) ∧ f' 15 = o ∧ f' 16 = Vi ((c.Changes.length : Int)) ∧ f' 17 = Vi (k' : Int)) s') aN ?_ ?_ ?_)
  ·have aZ := (ay).drop
   exact ⟨s, (Zv _), ((aZ).f2).f2, rfl, rfl, rfl, rfl, rfl⟩
  ·intro aa cL ax cd cX bj aQ l bn
   obtain ⟨ae, ak, az, ab, am, ac, ad, y⟩ := aQ
   refine Zc (Zd (Za rfl rfl (Zq rfl y ad (Zb (Ze (Zc (W_true (Zx (decide_eq_true (by omega))) (W_skip (Ze (Zc (W_block (Zc (Zd ?_)))))))))))))
   obtain ⟨a, bC, l⟩ := Zg l
   refine Za rfl rfl (Exec.index_rep S88 rfl ac y (ag.mono ak) bC ?_)
   intro bW cp aK
   refine Za rfl rfl (Zw (E := encGChange) az A98 rfl rfl rfl aK ?_)
   intro cS bD
   obtain ⟨u, x, af, rfl, an, ao, aA⟩ := encGChange_val.1 bD
   refine Za rfl rfl (Exec.alloc (cs := [Value.slice none 0 0, Value.slice none 0 0, Value.slice none 0 0, Vi (0), Value.bool (false)]) az Z98 rfl rfl ?_)
   intro z cY ba
   refine Za rfl rfl (Exec.store_box (ds := [u, x, af, Vi (a.Atom), Value.bool (a.Add)]) (es := [u, x, af, Vi (a.Atom), Value.bool (a.Add)]) ba A98 rfl rfl rfl rfl (Zj (an).one (Zj (ao).one (Zj (aA).one (Zj rfl (Zj rfl one_nil))))) (Nat.le_of_ble_eq_true rfl) rfl ?_)
   intro cZ p
   refine Zb (Ze (Zc (Zc (W_mid (M := fun f' w' => ∃ (aE : PHeap) , PHeap.le ae aE ∧ St w0 aE (Res.bmap Tryz.prog 3 4 d b.pos :: Res.bmap Tryz.prog 3 4 g b.neg :: Res.box m 150 [Value.map (some d), Value.map (some g)] :: Res.box z 98 [u, x, af, Vi (a.Atom), Value.bool (a.Add)] :: H) w' ∧ f' 2 = Vi (n) ∧ f' 3 = Value.pointer (some ⟨m, 0, none⟩) ∧ f' 8 = Value.pointer (some ⟨z, 0, none⟩) ∧ f' 15 = o ∧ f' 16 = Vi ((c.Changes.length : Int)) ∧ f' 17 = Vi ((aa : Int)) ∧ f' 35 = Value.bool ((a.Add || ((!decide (a.Atom = n)) || decide (0 < (a.When.Tests.length : Int)))))) ?_ ?_))))
   ·refine Zd (Za rfl rfl (Zp F98_2 rfl rfl rfl (Za rfl rfl (Zn (p) A4 rfl rfl rfl (Za rfl rfl (Zm (v := Value.bool (a.Add)) rfl rfl ?_))))))
    by_cases i : a.Add = true
    ·refine WL_passes 12 (by rw [i]; rfl) ?_
     refine Zb (Ze ?_)
     exact ⟨ae, (Zv _), (((p).f3).f3).f3, ab, am, rfl, ac, ad, y, (Zx (or_t i)).symm⟩
    replace i := Zk i
    refine WL_run rfl (Zf rfl (Zx i)) rfl (Zp F98_1 rfl rfl rfl (WL_run rfl (Zf rfl (Zx i)) rfl (Zn (p) A3 rfl rfl rfl (WL_run rfl (Zf rfl (Zx i)) rfl (Zm (v := Vi (n)) rfl ab (WL_run rfl (Zf rfl (Zx i)) rfl (Exec.neq rfl rfl rfl ?_)))))))
    refine WL_passes 2 (by rw [i]; rfl) ?_
    by_cases j : (!decide (a.Atom = n)) = true
    ·refine WL_passes 6 (by rw [j]; rfl) ?_
     refine Zb (Ze ?_)
     exact ⟨ae, (Zv _), (((p).f3).f3).f3, ab, am, rfl, ac, ad, y, (Zx (Eq.trans (or_f i) (or_t j))).symm⟩
    replace j := Zk j
    refine WL_run rfl (Zf rfl (Zx j)) rfl (Zp F98_0 rfl rfl rfl (WL_run rfl (Zf rfl (Zx j)) rfl (Zp F84_2 rfl rfl rfl (WL_run rfl (Zf rfl (Zx j)) rfl (Zn (p) A82 rfl rfl rfl (WL_run rfl (Zf rfl (Zx j)) rfl (Zr S82 rfl rfl aA (WL_run rfl (Zf rfl (Zx j)) rfl (Exec.gtr rfl rfl rfl (Za rfl rfl (Exec.pick_f (v := Value.bool (decide (0 < (a.When.Tests.length : Int)))) rfl (Zx j) rfl (Zb (Ze ?_)))))))))))))
    exact ⟨ae, (Zv _), (((p).f3).f3).f3, ab, am, rfl, ac, ad, y, (Zx (Eq.trans (or_f i) (or_f j))).symm⟩
   intro ce da aW
   obtain ⟨ap, q, ah, a2, a3, a4, a5, a6, a7, a8⟩ := aW
   refine (Ze ?_)
   rcases ite_some l with ⟨t, l⟩ | ⟨t, l⟩
   ·refine W_cond_t a8 t (W_exit (at_exit (ib_here (Ze (Zd (Za rfl rfl (Exec.add rfl a7 rfl (Za rfl rfl (Zm (v := Vi (IntKind.i64.wrap ((aa : Int) + 1))) rfl rfl (Zb (Ze ?_)))))))))))
    have bZ := Zu l
    subst ax
    refine ⟨_, rfl, ?_⟩; exact ⟨ap, (Zt ak q), (((((ah).f3).drop).f2).f2).f2, a2, a3, a5, a6, (Eq.trans rfl (wrap_up bj (SliceRep.le ag)))⟩
   refine W_cond_f a8 t ?_
   replace t := Zk t
   refine W_skip (Ze (Zc (Zd (Za rfl rfl (Zo (v := Value.bool (true)) rfl rfl (Zb (Ze (Zc (Zc (Zd (Za rfl rfl (Zp F98_0 rfl a4 rfl (Za rfl rfl (Zp F84_0 rfl rfl rfl (Za rfl rfl (Zn ((ah).f3) A24 rfl rfl rfl (Za rfl rfl (Zr S24 rfl rfl (an.mono q) (Za rfl rfl (Zm (v := Vi (0)) rfl rfl (Zb (Ze ?_))))))))))))))))))))))
   obtain ⟨cM, aO, l⟩ := Zg l
   refine W_block (W_forS (fun k' s' f' w' => (fun (_ : Unit) => ∃ (aF : PHeap) , PHeap.le ap aF ∧ St w0 aF (Res.bmap Tryz.prog 3 4 d b.pos :: Res.bmap Tryz.prog 3 4 g b.neg :: Res.box m 150 [Value.map (some d), Value.map (some g)] :: Res.box z 98 [u, x, af, Vi (a.Atom), Value.bool (a.Add)] :: H) w' ∧ f' 2 = Vi (n) ∧ f' 3 = Value.pointer (some ⟨m, 0, none⟩) ∧ f' 8 = Value.pointer (some ⟨z, 0, none⟩) ∧ f' 9 = Value.bool (true) ∧ f' 15 = o ∧ f' 16 = Vi ((c.Changes.length : Int)) ∧ f' 17 = Vi ((aa : Int)) ∧ f' 38 = u ∧ f' 39 = Vi ((a.When.Pos.length : Int)) ∧ f' 40 = Vi (k' : Int)) s') aO ?_ ?_ ?_)
   ·have bb := (ah).f3
    exact ⟨ap, (Zv _), (((bb).f3).f3).f3, a2, a3, a4, rfl, a5, a6, a7, rfl, rfl, rfl⟩
   ·intro cn cN cH cf db cl aR ai
    obtain ⟨cI, bp, bc, ct, cu, cv, cw, cx, cy, cz, bu, bv, aI⟩ := aR
    refine Zc (Zd (Za rfl rfl (Zq rfl aI bv (Zb (Ze (Zc (W_true (Zx (decide_eq_true (by omega))) (W_skip (Ze (Zc (W_block (Zc (Zd ?_)))))))))))))
    obtain ⟨bL, bE, ai⟩ := Zg ai
    refine Za rfl rfl (Exec.index_rep S24 rfl bu aI (an.mono (Zt q bp)) bE ?_)
    intro bX cq aL
    refine Za rfl rfl (Zw (E := (encInt .i64)) bc A3 rfl rfl rfl aL ?_)
    intro cT bF
    obtain rfl := encInt_val.1 bF
    refine Za rfl rfl (Zo (v := Vi (bL)) rfl rfl (Zb (Ze ?_)))
    cases ai
   intro cg dc aS
   obtain ⟨aG, al, a0, bw, bx, bz, b0, b1, b2, b3, c0, b4, bM⟩ := aS
   refine Zc (Zd (Za rfl rfl (Zq rfl bM b4 (Zb (Ze (Zc (W_false (Zx (decide_eq_false (by omega))) (W_exit (at_exit (at_exit (ib_here (Ze (Zc (Zc (Zd (Za rfl rfl (Zp F98_0 rfl bz rfl (Za rfl rfl (Zp F84_1 rfl rfl rfl (Za rfl rfl (Zn ((a0).f3) A24 rfl rfl rfl (Za rfl rfl (Zr S24 rfl rfl (ao.mono (Zt q al)) (Za rfl rfl (Zm (v := Vi (0)) rfl rfl (Zb (Ze ?_)))))))))))))))))))))))))))
   obtain ⟨cO, aP, l⟩ := Zg l
   refine W_block (W_forS (fun k' s' f' w' => (fun (_ : Unit) => ∃ (aH : PHeap) , PHeap.le aG aH ∧ St w0 aH (Res.bmap Tryz.prog 3 4 d b.pos :: Res.bmap Tryz.prog 3 4 g b.neg :: Res.box m 150 [Value.map (some d), Value.map (some g)] :: H) w' ∧ f' 2 = Vi (n) ∧ f' 3 = Value.pointer (some ⟨m, 0, none⟩) ∧ f' 9 = Value.bool (true) ∧ f' 15 = o ∧ f' 16 = Vi ((c.Changes.length : Int)) ∧ f' 17 = Vi ((aa : Int)) ∧ f' 54 = x ∧ f' 55 = Vi ((a.When.Neg.length : Int)) ∧ f' 56 = Vi (k' : Int)) s') aP ?_ ?_ ?_)
   ·have bd := ((a0).f3).drop
    exact ⟨aG, (Zv _), (((bd).f2).f2).f2, bw, bx, b0, b1, b2, b3, rfl, rfl, rfl⟩
   ·intro co cP cJ ch dd cm aT aj
    obtain ⟨cK, bq, be, c1, c2, c3, c4, c5, c6, b5, b6, aJ⟩ := aT
    refine Zc (Zd (Za rfl rfl (Zq rfl aJ b6 (Zb (Ze (Zc (W_true (Zx (decide_eq_true (by omega))) (W_skip (Ze (Zc (W_block (Zc (Zd ?_)))))))))))))
    obtain ⟨bN, bG, aj⟩ := Zg aj
    refine Za rfl rfl (Exec.index_rep S24 rfl b5 aJ (ao.mono (Zt (Zt q al) bq)) bG ?_)
    intro bY cr aM
    refine Za rfl rfl (Zw (E := (encInt .i64)) be A3 rfl rfl rfl aM ?_)
    intro cU bH
    obtain rfl := encInt_val.1 bH
    refine Za rfl rfl (Zo (v := Vi (bN)) rfl rfl (Zb (Ze ?_)))
    cases aj
   intro ci de aU
   obtain ⟨bI, br, bf, c7, c8, b7, c9, cA, cB, cC, b8, bO⟩ := aU
   refine Zc (Zd (Za rfl rfl (Zq rfl bO b8 (Zb (Ze (Zc (W_false (Zx (decide_eq_false (by omega))) (W_exit (at_exit (at_exit (ib_here (Ze (Zc (Zd (Za rfl rfl (Zm (v := Value.bool (true)) rfl b7 (Zb (Ze (W_true rfl (Zc (Zd (Za rfl rfl (Zo (v := Value.bool (true)) rfl rfl (Zb (Ze (W_ret (ib_ret (at_ret (at_ret (ib_ret (at_ret (at_ret ?_))))))))))))))))))))))))))))))))
   have ca := Zu l
   subst ax
   have bl := bm _ (bn (by intro _ h; cases h))
   have cb := Zu bl
   subst r
   refine ⟨_, ret1 rfl, ?_⟩
   exact ⟨bI, (Zt (Zt (Zt ak q) al) br), ((((bf).f2).drop).f1).f1, rfl⟩
  intro cQ cj df aV bo
  obtain ⟨bJ, bs, bg, b9, bA, bB, a9, bP⟩ := aV
  refine Zc (Zd (Za rfl rfl (Zq rfl bP a9 (Zb (Ze (Zc (W_false (Zx (decide_eq_false (by omega))) (W_exit (at_exit (at_exit (ib_here (Ze ?_))))))))))))
  refine ⟨_, .inl bo, ?_⟩; exact ⟨bJ, bs, (((bg).f2).f2).f2, b9, bA, bB, a9⟩
 rintro ck dg ⟨cR, a1, aX⟩
 have hm := a1.elim (bk _) (bi _)
 clear a1
 obtain ⟨bK, bt, bh, cD, cE, cF, cG⟩ := aX
 refine (Ze (Zc (Zd (Za rfl rfl (Zo (v := Value.bool (false)) rfl rfl (Zb (Ze (W_ret ?_))))))))
 have cc := Zu hm
 subst r
 refine ⟨_, ret1 rfl, ?_⟩
 exact ⟨bK, bt, ((((bh).f2).drop).f1).f1, rfl⟩
end Go.Pw
