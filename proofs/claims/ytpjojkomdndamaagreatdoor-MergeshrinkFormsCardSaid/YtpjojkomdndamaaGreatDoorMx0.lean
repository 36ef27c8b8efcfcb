/- -/
import Derived.Test.YtpjojkomdndamaaGreatDoorL33
import Derived.Test.YtpjojkomdndamaaGreatDoorLC
import Derived.Test.YtpjojkomdndamaaGreatDoorMxP
import Derived.Test.YtpjojkomdndamaaGreatDoorL8
import Derived.Test.YtpjojkomdndamaaGreatDoorL9
import Derived.Test.YtpjojkomdndamaaGreatDoorL12
import Derived.Test.YtpjojkomdndamaaGreatDoorLB
import Derived.Test.YtpjojkomdndamaaGreatDoorL19
import Derived.Test.YtpjojkomdndamaaGreatDoorL23
import Derived.Test.YtpjojkomdndamaaGreatDoorL26
import Derived.Test.YtpjojkomdndamaaGreatDoorProg
import Derived.KernelRfl
set_option maxRecDepth 100000
set_option maxHeartbeats 4000000
set_option linter.unusedVariables false
namespace Go.Pw
open Go.Proofs
theorem QnN : Qhi Tryz.prog 204 [0, 1, 163, 180, 181, 182, 183, 184, 185, 186, 187, 188, 189, 190, 191, 192, 193, 194, 195, 196, 197, 198, 199, 200, 201, 202] = true := by kernel_rfl
theorem Tc {ρ : Operand → Value} {o : Oper} {w : World} {K : Value → World → Prop} {Q : Value → World → Prop} {f : FuncId} {args : List Operand} {ts : Array TypeId} {vs : List Value} (ho : o.op = .call { callee := .value (.func f), args := args.toArray, argTypes := ts }) (hc : ρ (.func f) = .func (.func f) #[] #[]) (hlt : Qno 204 [0, 1, 163, 180, 181, 182, 183, 184, 185, 186, 187, 188, 189, 190, 191, 192, 193, 194, 195, 196, 197, 198, 199, 200, 201, 202] f = true) (hargs : List.map ρ args = vs) (h : Calls Tryz.prog f vs.toArray w fun e w' => ∃ v, e = .returned v ∧ Q v w') (hk : ∀ v w', Q v w' → K v w') : Exec Tryz.prog ρ o w K := QjF QnN ho hc hlt hargs h hk
theorem Z26 : JL Tryz.prog 26 = some (Value.agg #[Value.slice none 0 0, Value.slice none 0 0, Value.slice none 0 0, Value.slice none 0 0]) := by kernel_rfl
theorem A26 : JU Tryz.prog 26 = some (true, 4) := by kernel_rfl
theorem QaC {w0 w : World} {s : PHeap} {H : List Res} {r : Task} (hm : Y0 = some r) (hS : St w0 s (H) w) :
  Calls Tryz.prog 29 #[] w fun e w' => ∃ v, e = .returned v ∧ ((fun (y25 : Task) => ∃ (x : PHeap) (aj : Value) (ak : Value) (al : Value) (am : Value), PHeap.le s x ∧ St w0 x (H) w' ∧ v = Value.agg #[aj, ak, al, am] ∧ SliceRep (Qa .i64) x aj y25.Vars ∧ SliceRep (Qa .i64) x ak y25.Init ∧ SliceRep encFact x al y25.Goal ∧ SliceRep encOp x am y25.Ops) r) := by
 unfold Y0 at hm
 refine Qw Tryz.func29 Z Z (Zc (Zd (O Z Z (Exec.alloc (cs := [Vn, Vn, Vn, Vn]) hS Z26 Z Z ?_))))
 intro ba bn an
 refine Zb (V (Zc (Zd (O Z Z (Exec.buildSlice (Te := 3) (cs := [U 2, U 3]) an Z (Qc (c := [U 2]) (Qh Z Z) (Qc (c := [U 3]) (Qh Z Z) Qu)) (fun _ => by kernel_rfl) ?_)))))
 intro y bo ao
 have ap := St.boxArr (E := (Qa .i64)) (xs := [2, 3]) ao ⟨[U 2], [U 3], rfl, rfl, ⟨[U 3], [], rfl, rfl, rfl⟩⟩ (by simp [maxLen])
 obtain ⟨bc, aQ, aq, af⟩ := ap.freezeArr
 refine O Z Z (Exec.buildSlice (Te := 3) (cs := [U 0, U 0]) aq Z (Qc (c := [U 0]) (Qh Z Z) (Qc (c := [U 0]) (Qh Z Z) Qu)) (fun _ => by kernel_rfl) ?_)
 intro z bp ar
 have au := St.boxArr (E := (Qa .i64)) (xs := [0, 0]) ar ⟨[U 0], [U 0], rfl, rfl, ⟨[U 0], [], rfl, rfl, rfl⟩⟩ (by simp [maxLen])
 obtain ⟨bd, ad, av, ag⟩ := au.freezeArr
 refine O Z Z (Exec.build Z (Qc (c := [U 1]) (Qh Z Z) (Qc (c := [U 1]) (Qh Z Z) Qu)) (v := Value.agg #[U 1, U 1]) (fun _ => by kernel_rfl) (O Z Z (Exec.buildSlice (Te := 90) (cs := [U 1, U 1]) av Z (Qc (c := [U 1, U 1]) (Qh Z Z) Qu) (fun _ => by kernel_rfl) ?_)))
 intro aa bq aw
 have ax := St.boxArr (E := encFact) (xs := [(⟨1, 1⟩ : Fact)]) aw ⟨[U 1, U 1], [], rfl, ⟨[U 1], [U 1], rfl, rfl, rfl⟩, rfl⟩ (by simp [maxLen])
 obtain ⟨be, ac, ay, ah⟩ := ax.freezeArr
 refine O Z Z (Exec.build Z (Qc (c := [U 0]) (Qh Z Z) (Qc (c := [U 0]) (Qh Z Z) Qu)) (v := Value.agg #[U 0, U 0]) (fun _ => by kernel_rfl) (O Z Z (Exec.buildSlice (Te := 90) (cs := [U 0, U 0]) ay Z (Qc (c := [U 0, U 0]) (Qh Z Z) Qu) (fun _ => by kernel_rfl) ?_)))
 intro o br az
 have a0 := St.boxArr (E := encFact) (xs := [(⟨0, 0⟩ : Fact)]) az ⟨[U 0, U 0], [], rfl, ⟨[U 0], [U 0], rfl, rfl, rfl⟩, rfl⟩ (by simp [maxLen])
 obtain ⟨bf, t, a1, aR⟩ := a0.freezeArr
 refine O Z Z (Exec.build Z (Qc (c := [U 0]) (Qh Z Z) (Qc (c := [U 1]) (Qh Z Z) Qu)) (v := Value.agg #[Vn, U 0, U 1]) (fun _ => by kernel_rfl) (O Z Z (Exec.buildSlice (Te := 95) (cs := [Vn, U 0, U 1]) a1 Z (Qc (c := [Vn, U 0, U 1]) (Qh Z Z) Qu) (fun _ => by kernel_rfl) ?_)))
 intro p bs a2
 have a3 := St.boxArr (E := encEffect) (xs := [(⟨[], 0, 1⟩ : Effect)]) a2 ⟨[Vn, U 0, U 1], [], rfl, ⟨[Vn], [U 0, U 1], rfl, ⟨_, rfl, (SliceRep.nil _ _)⟩, ⟨[U 0], [U 1], rfl, rfl, rfl⟩⟩, rfl⟩ (by simp [maxLen])
 obtain ⟨bg, q, a4, aS⟩ := a3.freezeArr
 refine O Z Z (Exec.build Z (Qc (c := [U 1]) (Qh Z Z) (Qc (c := [Vs (some ⟨o, 0, none⟩) 1 1]) (Qh Z Z) (Qc (c := [Vs (some ⟨p, 0, none⟩) 1 1]) (Qh Z Z) Qu))) (v := Value.agg #[Value.string (⟨#[]⟩), U 1, Vs (some ⟨o, 0, none⟩) 1 1, Vs (some ⟨p, 0, none⟩) 1 1]) (fun _ => by kernel_rfl) (O Z Z (Exec.build Z (Qc (c := [U 0]) (Qh Z Z) (Qc (c := [U 1]) (Qh Z Z) Qu)) (v := Value.agg #[U 0, U 1]) (fun _ => by kernel_rfl) (O Z Z (Exec.buildSlice (Te := 90) (cs := [U 0, U 1]) a4 Z (Qc (c := [U 0, U 1]) (Qh Z Z) Qu) (fun _ => by kernel_rfl) ?_)))))
 intro l bt a5
 have a6 := St.boxArr (E := encFact) (xs := [(⟨0, 1⟩ : Fact)]) a5 ⟨[U 0, U 1], [], rfl, ⟨[U 0], [U 1], rfl, rfl, rfl⟩, rfl⟩ (by simp [maxLen])
 obtain ⟨bh, n, a7, aT⟩ := a6.freezeArr
 refine O Z Z (Exec.build Z (Qc (c := [U 0]) (Qh Z Z) (Qc (c := [U 0]) (Qh Z Z) Qu)) (v := Value.agg #[Vn, U 0, U 0]) (fun _ => by kernel_rfl) (O Z Z (Exec.buildSlice (Te := 95) (cs := [Vn, U 0, U 0]) a7 Z (Qc (c := [Vn, U 0, U 0]) (Qh Z Z) Qu) (fun _ => by kernel_rfl) ?_)))
 intro m bu a8
 have a9 := St.boxArr (E := encEffect) (xs := [(⟨[], 0, 0⟩ : Effect)]) a8 ⟨[Vn, U 0, U 0], [], rfl, ⟨[Vn], [U 0, U 0], rfl, ⟨_, rfl, (SliceRep.nil _ _)⟩, ⟨[U 0], [U 0], rfl, rfl, rfl⟩⟩, rfl⟩ (by simp [maxLen])
 obtain ⟨bi, k, aA, aU⟩ := a9.freezeArr
 refine O Z Z (Exec.build Z (Qc (c := [U 1]) (Qh Z Z) (Qc (c := [Vs (some ⟨l, 0, none⟩) 1 1]) (Qh Z Z) (Qc (c := [Vs (some ⟨m, 0, none⟩) 1 1]) (Qh Z Z) Qu))) (v := Value.agg #[Value.string (⟨#[]⟩), U 1, Vs (some ⟨l, 0, none⟩) 1 1, Vs (some ⟨m, 0, none⟩) 1 1]) (fun _ => by kernel_rfl) (O Z Z (Exec.build Z (Qc (c := [U 0]) (Qh Z Z) (Qc (c := [U 0]) (Qh Z Z) Qu)) (v := Value.agg #[U 0, U 0]) (fun _ => by kernel_rfl) (O Z Z (Exec.build Z (Qc (c := [U 1]) (Qh Z Z) (Qc (c := [U 0]) (Qh Z Z) Qu)) (v := Value.agg #[U 1, U 0]) (fun _ => by kernel_rfl) (O Z Z (Exec.buildSlice (Te := 90) (cs := [U 0, U 0, U 1, U 0]) aA Z (Qc (c := [U 0, U 0]) (Qh Z Z) (Qc (c := [U 1, U 0]) (Qh Z Z) Qu)) (fun _ => by kernel_rfl) ?_)))))))
 intro i bv aB
 have aC := St.boxArr (E := encFact) (xs := [(⟨0, 0⟩ : Fact), (⟨1, 0⟩ : Fact)]) aB ⟨[U 0, U 0], [U 1, U 0], rfl, ⟨[U 0], [U 0], rfl, rfl, rfl⟩, ⟨[U 1, U 0], [], rfl, ⟨[U 1], [U 0], rfl, rfl, rfl⟩, rfl⟩⟩ (by simp [maxLen])
 obtain ⟨bj, h, aD, aV⟩ := aC.freezeArr
 refine O Z Z (Exec.build Z (Qc (c := [U 1]) (Qh Z Z) (Qc (c := [U 2]) (Qh Z Z) Qu)) (v := Value.agg #[Vn, U 1, U 2]) (fun _ => by kernel_rfl) (O Z Z (Exec.buildSlice (Te := 95) (cs := [Vn, U 1, U 2]) aD Z (Qc (c := [Vn, U 1, U 2]) (Qh Z Z) Qu) (fun _ => by kernel_rfl) ?_)))
 intro j bw aE
 have aF := St.boxArr (E := encEffect) (xs := [(⟨[], 1, 2⟩ : Effect)]) aE ⟨[Vn, U 1, U 2], [], rfl, ⟨[Vn], [U 1, U 2], rfl, ⟨_, rfl, (SliceRep.nil _ _)⟩, ⟨[U 1], [U 2], rfl, rfl, rfl⟩⟩, rfl⟩ (by simp [maxLen])
 obtain ⟨bk, d, aG, aW⟩ := aF.freezeArr
 refine O Z Z (Exec.build Z (Qc (c := [U 1]) (Qh Z Z) (Qc (c := [Vs (some ⟨i, 0, none⟩) 2 2]) (Qh Z Z) (Qc (c := [Vs (some ⟨j, 0, none⟩) 1 1]) (Qh Z Z) Qu))) (v := Value.agg #[Value.string (⟨#[]⟩), U 1, Vs (some ⟨i, 0, none⟩) 2 2, Vs (some ⟨j, 0, none⟩) 1 1]) (fun _ => by kernel_rfl) (O Z Z (Exec.build Z (Qc (c := [U 0]) (Qh Z Z) (Qc (c := [U 1]) (Qh Z Z) Qu)) (v := Value.agg #[U 0, U 1]) (fun _ => by kernel_rfl) (O Z Z (Exec.build Z (Qc (c := [U 1]) (Qh Z Z) (Qc (c := [U 2]) (Qh Z Z) Qu)) (v := Value.agg #[U 1, U 2]) (fun _ => by kernel_rfl) (O Z Z (Exec.buildSlice (Te := 90) (cs := [U 0, U 1, U 1, U 2]) aG Z (Qc (c := [U 0, U 1]) (Qh Z Z) (Qc (c := [U 1, U 2]) (Qh Z Z) Qu)) (fun _ => by kernel_rfl) ?_)))))))
 intro f bx aH
 have aI := St.boxArr (E := encFact) (xs := [(⟨0, 1⟩ : Fact), (⟨1, 2⟩ : Fact)]) aH ⟨[U 0, U 1], [U 1, U 2], rfl, ⟨[U 0], [U 1], rfl, rfl, rfl⟩, ⟨[U 1, U 2], [], rfl, ⟨[U 1], [U 2], rfl, rfl, rfl⟩, rfl⟩⟩ (by simp [maxLen])
 obtain ⟨bl, b, aJ, aX⟩ := aI.freezeArr
 refine O Z Z (Exec.build Z (Qc (c := [U 1]) (Qh Z Z) (Qc (c := [U 1]) (Qh Z Z) Qu)) (v := Value.agg #[Vn, U 1, U 1]) (fun _ => by kernel_rfl) (O Z Z (Exec.buildSlice (Te := 95) (cs := [Vn, U 1, U 1]) aJ Z (Qc (c := [Vn, U 1, U 1]) (Qh Z Z) Qu) (fun _ => by kernel_rfl) ?_)))
 intro g bz aK
 have aL := St.boxArr (E := encEffect) (xs := [(⟨[], 1, 1⟩ : Effect)]) aK ⟨[Vn, U 1, U 1], [], rfl, ⟨[Vn], [U 1, U 1], rfl, ⟨_, rfl, (SliceRep.nil _ _)⟩, ⟨[U 1], [U 1], rfl, rfl, rfl⟩⟩, rfl⟩ (by simp [maxLen])
 obtain ⟨bm, a, aM, aY⟩ := aL.freezeArr
 refine O Z Z (Exec.build Z (Qc (c := [U 1]) (Qh Z Z) (Qc (c := [Vs (some ⟨f, 0, none⟩) 2 2]) (Qh Z Z) (Qc (c := [Vs (some ⟨g, 0, none⟩) 1 1]) (Qh Z Z) Qu))) (v := Value.agg #[Value.string (⟨#[]⟩), U 1, Vs (some ⟨f, 0, none⟩) 2 2, Vs (some ⟨g, 0, none⟩) 1 1]) (fun _ => by kernel_rfl) (O Z Z (Exec.buildSlice (Te := 60) (cs := [Value.string (⟨#[]⟩), U 1, Vs (some ⟨o, 0, none⟩) 1 1, Vs (some ⟨p, 0, none⟩) 1 1, Value.string (⟨#[]⟩), U 1, Vs (some ⟨l, 0, none⟩) 1 1, Vs (some ⟨m, 0, none⟩) 1 1, Value.string (⟨#[]⟩), U 1, Vs (some ⟨i, 0, none⟩) 2 2, Vs (some ⟨j, 0, none⟩) 1 1, Value.string (⟨#[]⟩), U 1, Vs (some ⟨f, 0, none⟩) 2 2, Vs (some ⟨g, 0, none⟩) 1 1]) aM Z (Qc (c := [Value.string (⟨#[]⟩), U 1, Vs (some ⟨o, 0, none⟩) 1 1, Vs (some ⟨p, 0, none⟩) 1 1]) (Qh Z Z) (Qc (c := [Value.string (⟨#[]⟩), U 1, Vs (some ⟨l, 0, none⟩) 1 1, Vs (some ⟨m, 0, none⟩) 1 1]) (Qh Z Z) (Qc (c := [Value.string (⟨#[]⟩), U 1, Vs (some ⟨i, 0, none⟩) 2 2, Vs (some ⟨j, 0, none⟩) 1 1]) (Qh Z Z) (Qc (c := [Value.string (⟨#[]⟩), U 1, Vs (some ⟨f, 0, none⟩) 2 2, Vs (some ⟨g, 0, none⟩) 1 1]) (Qh Z Z) Qu)))) (fun _ => by kernel_rfl) ?_)))
 intro ab b0 aN
 have aO := St.boxArr (E := encOp) (xs := [(⟨⟨#[]⟩, 1, [(⟨0, 0⟩ : Fact)], [(⟨[], 0, 1⟩ : Effect)]⟩ : Op), (⟨⟨#[]⟩, 1, [(⟨0, 1⟩ : Fact)], [(⟨[], 0, 0⟩ : Effect)]⟩ : Op), (⟨⟨#[]⟩, 1, [(⟨0, 0⟩ : Fact), (⟨1, 0⟩ : Fact)], [(⟨[], 1, 2⟩ : Effect)]⟩ : Op), (⟨⟨#[]⟩, 1, [(⟨0, 1⟩ : Fact), (⟨1, 2⟩ : Fact)], [(⟨[], 1, 1⟩ : Effect)]⟩ : Op)]) aN ⟨[Value.string (⟨#[]⟩), U 1, Vs (some ⟨o, 0, none⟩) 1 1, Vs (some ⟨p, 0, none⟩) 1 1], [Value.string (⟨#[]⟩), U 1, Vs (some ⟨l, 0, none⟩) 1 1, Vs (some ⟨m, 0, none⟩) 1 1, Value.string (⟨#[]⟩), U 1, Vs (some ⟨i, 0, none⟩) 2 2, Vs (some ⟨j, 0, none⟩) 1 1, Value.string (⟨#[]⟩), U 1, Vs (some ⟨f, 0, none⟩) 2 2, Vs (some ⟨g, 0, none⟩) 1 1], rfl, ⟨[Value.string (⟨#[]⟩)], [U 1, Vs (some ⟨o, 0, none⟩) 1 1, Vs (some ⟨p, 0, none⟩) 1 1], rfl, rfl, ⟨[U 1], [Vs (some ⟨o, 0, none⟩) 1 1, Vs (some ⟨p, 0, none⟩) 1 1], rfl, rfl, ⟨[Vs (some ⟨o, 0, none⟩) 1 1], [Vs (some ⟨p, 0, none⟩) 1 1], rfl, ⟨_, rfl, (aR.mono (Zt (Zt (Zt (Zt (Zt (Zt q n) k) h) d) b) a))⟩, ⟨_, rfl, (aS.mono (Zt (Zt (Zt (Zt (Zt n k) h) d) b) a))⟩⟩⟩⟩, ⟨[Value.string (⟨#[]⟩), U 1, Vs (some ⟨l, 0, none⟩) 1 1, Vs (some ⟨m, 0, none⟩) 1 1], [Value.string (⟨#[]⟩), U 1, Vs (some ⟨i, 0, none⟩) 2 2, Vs (some ⟨j, 0, none⟩) 1 1, Value.string (⟨#[]⟩), U 1, Vs (some ⟨f, 0, none⟩) 2 2, Vs (some ⟨g, 0, none⟩) 1 1], rfl, ⟨[Value.string (⟨#[]⟩)], [U 1, Vs (some ⟨l, 0, none⟩) 1 1, Vs (some ⟨m, 0, none⟩) 1 1], rfl, rfl, ⟨[U 1], [Vs (some ⟨l, 0, none⟩) 1 1, Vs (some ⟨m, 0, none⟩) 1 1], rfl, rfl, ⟨[Vs (some ⟨l, 0, none⟩) 1 1], [Vs (some ⟨m, 0, none⟩) 1 1], rfl, ⟨_, rfl, (aT.mono (Zt (Zt (Zt (Zt k h) d) b) a))⟩, ⟨_, rfl, (aU.mono (Zt (Zt (Zt h d) b) a))⟩⟩⟩⟩, ⟨[Value.string (⟨#[]⟩), U 1, Vs (some ⟨i, 0, none⟩) 2 2, Vs (some ⟨j, 0, none⟩) 1 1], [Value.string (⟨#[]⟩), U 1, Vs (some ⟨f, 0, none⟩) 2 2, Vs (some ⟨g, 0, none⟩) 1 1], rfl, ⟨[Value.string (⟨#[]⟩)], [U 1, Vs (some ⟨i, 0, none⟩) 2 2, Vs (some ⟨j, 0, none⟩) 1 1], rfl, rfl, ⟨[U 1], [Vs (some ⟨i, 0, none⟩) 2 2, Vs (some ⟨j, 0, none⟩) 1 1], rfl, rfl, ⟨[Vs (some ⟨i, 0, none⟩) 2 2], [Vs (some ⟨j, 0, none⟩) 1 1], rfl, ⟨_, rfl, (aV.mono (Zt (Zt d b) a))⟩, ⟨_, rfl, (aW.mono (Zt b a))⟩⟩⟩⟩, ⟨[Value.string (⟨#[]⟩), U 1, Vs (some ⟨f, 0, none⟩) 2 2, Vs (some ⟨g, 0, none⟩) 1 1], [], rfl, ⟨[Value.string (⟨#[]⟩)], [U 1, Vs (some ⟨f, 0, none⟩) 2 2, Vs (some ⟨g, 0, none⟩) 1 1], rfl, rfl, ⟨[U 1], [Vs (some ⟨f, 0, none⟩) 2 2, Vs (some ⟨g, 0, none⟩) 1 1], rfl, rfl, ⟨[Vs (some ⟨f, 0, none⟩) 2 2], [Vs (some ⟨g, 0, none⟩) 1 1], rfl, ⟨_, rfl, (aX.mono a)⟩, ⟨_, rfl, aY⟩⟩⟩⟩, rfl⟩⟩⟩⟩ (by simp [maxLen])
 obtain ⟨aZ, u, aP, ai⟩ := aO.freezeArr
 refine O Z Z (Exec.build Z (Qc (c := [Vs (some ⟨y, 0, none⟩) 2 2]) (Qh Z Z) (Qc (c := [Vs (some ⟨z, 0, none⟩) 2 2]) (Qh Z Z) (Qc (c := [Vs (some ⟨aa, 0, none⟩) 1 1]) (Qh Z Z) (Qc (c := [Vs (some ⟨ab, 0, none⟩) 4 4]) (Qh Z Z) Qu)))) (v := Value.agg #[Vs (some ⟨y, 0, none⟩) 2 2, Vs (some ⟨z, 0, none⟩) 2 2, Vs (some ⟨aa, 0, none⟩) 1 1, Vs (some ⟨ab, 0, none⟩) 4 4]) (fun _ => by kernel_rfl) (O Z Z (Qe (ds := [Vs (some ⟨y, 0, none⟩) 2 2, Vs (some ⟨z, 0, none⟩) 2 2, Vs (some ⟨aa, 0, none⟩) 1 1, Vs (some ⟨ab, 0, none⟩) 4 4]) (es := [Vs (some ⟨y, 0, none⟩) 2 2, Vs (some ⟨z, 0, none⟩) 2 2, Vs (some ⟨aa, 0, none⟩) 1 1, Vs (some ⟨ab, 0, none⟩) 4 4]) aP A26 Z Z Z Z (Zj ((af.mono (Zt (Zt (Zt (Zt (Zt (Zt (Zt (Zt (Zt (Zt ad ac) t) q) n) k) h) d) b) a) u))).one (Zj ((ag.mono (Zt (Zt (Zt (Zt (Zt (Zt (Zt (Zt (Zt ac t) q) n) k) h) d) b) a) u))).one (Zj ((ah.mono (Zt (Zt (Zt (Zt (Zt (Zt (Zt (Zt t q) n) k) h) d) b) a) u))).one (Zj ai.one Q5)))) (Nat.le_of_ble_eq_true Z) Z ?_)))
 intro b1 ae
 refine Zb (V (Q0 ?_))
 have bb := Zu hm
 subst r
 refine ⟨_, QnL Z ⟨_, _, Z, Kj (ae) A26⟩, ?_⟩
 exact ⟨aZ, (Vs (some ⟨y, 0, none⟩) 2 2), (Vs (some ⟨z, 0, none⟩) 2 2), (Vs (some ⟨aa, 0, none⟩) 1 1), (Vs (some ⟨ab, 0, none⟩) 4 4), (Zt (Zt (Zt (Zt (Zt (Zt (Zt (Zt (Zt (Zt (Zt aQ ad) ac) t) q) n) k) h) d) b) a) u), ae.drop, Z, (af.mono (Zt (Zt (Zt (Zt (Zt (Zt (Zt (Zt (Zt (Zt ad ac) t) q) n) k) h) d) b) a) u)), (ag.mono (Zt (Zt (Zt (Zt (Zt (Zt (Zt (Zt (Zt ac t) q) n) k) h) d) b) a) u)), (ah.mono (Zt (Zt (Zt (Zt (Zt (Zt (Zt (Zt t q) n) k) h) d) b) a) u)), ai⟩
theorem Yu : Jt Tryz.prog 26 0 = some 0 := by kernel_rfl
theorem A22 : JU Tryz.prog 22 = some (false, 1) := by kernel_rfl
theorem JG : Je Tryz.prog 22 = some (3, 1, 8) := by kernel_rfl
theorem Qbz : Jt Tryz.prog 26 3 = some 3 := by kernel_rfl
theorem A24 : JU Tryz.prog 24 = some (false, 1) := by kernel_rfl
theorem S24 : Je Tryz.prog 24 = some (60, 4, 72) := by kernel_rfl
theorem A60 : JU Tryz.prog 60 = some (true, 4) := by kernel_rfl
theorem Z60 : JL Tryz.prog 60 = some (Value.agg #[Value.string ⟨#[]⟩, U 0, Value.slice none 0 0, Value.slice none 0 0]) := by kernel_rfl
theorem Qfb : Jt Tryz.prog 60 3 = some 3 := by kernel_rfl
theorem A58 : JU Tryz.prog 58 = some (false, 1) := by kernel_rfl
theorem S58 : Je Tryz.prog 58 = some (95, 3, 40) := by kernel_rfl
theorem Qln : Jt Tryz.prog 26 2 = some 2 := by kernel_rfl
theorem A23 : JU Tryz.prog 23 = some (false, 1) := by kernel_rfl
theorem QjO : Jt Tryz.prog 60 2 = some 2 := by kernel_rfl
theorem S98 : Je Tryz.prog 98 = some (23, 1, 24) := by kernel_rfl
theorem Z23 : JL Tryz.prog 23 = some (Value.slice none 0 0) := by kernel_rfl
theorem A95 : JU Tryz.prog 95 = some (true, 3) := by kernel_rfl
theorem Z95 : JL Tryz.prog 95 = some (Value.agg #[Value.slice none 0 0, U 0, U 0]) := by kernel_rfl
theorem QjM : Jt Tryz.prog 95 0 = some 0 := by kernel_rfl
theorem Qb1 {w0 w : World} {s : PHeap} {H : List Res} {a : Task} {ab : Value} {ac : Value} {g : Value} {n : Value} {r : (List (List Fact))} (hm : K9 a = some r) (hS : St w0 s (H) w) (bs : SliceRep (Qa .i64) s ab a.Vars) (bt : SliceRep (Qa .i64) s ac a.Init) (af : SliceRep encFact s g a.Goal) (q : SliceRep encOp s n a.Ops) :
  Calls Tryz.prog 49 #[Value.agg #[ab, ac, g, n]] w fun e w' => ∃ v, e = .returned v ∧ ((fun (br : (List (List Fact))) => ∃ (z : PHeap) (a0 : Value), PHeap.le s z ∧ St w0 z (H) w' ∧ v = a0 ∧ SliceRep (QM encFact) z a0 br) r) := by
 unfold K9 at hm
 refine Qw Tryz.func49 Z Z (Zc (Zd (O Z Z (Exec.box (cs := [ab, ac, g, n]) hS Z Z Z ?_))))
 intro bu bI ah
 refine O Z Z (Zo (v := Vn) Z Z (Zb (V (Zc (Zd (O Z Z (Zp Qln Z Z Z (O Z Z (Zn (ah) A23 Z Z Z (O Z Z (Exec.buildSlice (Te := 23) (cs := [g]) ah Z (Qc (c := [g]) (Qh Z (QX af.one)) Qu) (fun _ => by kernel_rfl) ?_)))))))))))
 intro ag bJ ai
 refine O Z Z (Zo (v := Vs (some ⟨ag, 0, none⟩) 1 1) Z Z (Zb (V (Zc (Zc (Zd (O Z Z (Zp Qbz Z Z Z (O Z Z (Zn (ai.f1) A24 Z Z Z (O Z Z (Zr S24 Z Z q (O Z Z (Zm (v := U 0) Z Z (Zb (V ?_))))))))))))))))
 obtain ⟨u, a5, hm⟩ := Zg hm
 refine Qo (JZ (fun k' s' f' w' => (fun (u : (List (List Fact))) => ∃ (ax : PHeap) (b : Value), PHeap.le s ax ∧ St w0 ax (Res.arr (QM encFact) 23 b u :: H) w' ∧ f' 3 = b ∧ f' 12 = n ∧ f' 13 = U ((a.Ops.length : Int)) ∧ f' 14 = U (k' : Int)) s') a5 ?_ ?_ ?_)
 ·have aB := St.boxArr (E := (QM encFact)) (xs := [a.Goal]) ai ⟨[g], [], rfl, ⟨_, rfl, af⟩, rfl⟩ (by simp [maxLen])
  exact ⟨s, (Vs (some ⟨ag, 0, none⟩) 1 1), (Zv _), (aB.f1).drop, Z, Z, Z, Z⟩
 ·intro ao u bk b5 bK aL a7 d
  obtain ⟨ay, b, ap, aj, aR, ar, au, ad⟩ := a7
  refine Zc (Zd (O Z Z (Zq Z ad au (Zb (V (Zc (QL (Zx (decide_eq_true (by omega))) (Qq (V (Zc (Qo (Zc (Zd ?_)))))))))))))
  obtain ⟨i, bd, d⟩ := Zg d
  refine O Z Z (Qy S24 Z ar ad (q.mono ap) bd ?_)
  intro bv bB a3
  refine O Z Z (Zw (E := encOp) aj A60 Z Z Z a3 ?_)
  intro bG be
  obtain ⟨l, aa, rfl, x, p⟩ := YH.1 be
  refine O Z Z (Exec.alloc (cs := [Value.string (⟨#[]⟩), U 0, Vn, Vn]) aj Z60 Z Z ?_)
  intro bw bL aC
  refine O Z Z (Qe (ds := [Value.string (i.Name), U (i.Cost), l, aa]) (es := [Value.string (i.Name), U (i.Cost), l, aa]) aC A60 Z Z Z Z (Zj Z (Zj Z (Zj x.one (Zj p.one Q5)))) (Nat.le_of_ble_eq_true Z) Z ?_)
  intro bM ak
  refine Zb (V (Zc (Zd (O Z Z (Zm (v := b) Z aR (O Z Z (Zp QjO Z Z Z (O Z Z (Zn (ak) A23 Z Z Z (O Z Z (Exec.buildSlice (Te := 23) (cs := [l]) ak Z (Qc (c := [l]) (Qh Z (QX x.one)) Qu) (fun _ => by kernel_rfl) ?_)))))))))))
  intro bx bN aD
  obtain ⟨b9, bf, d⟩ := Zg d
  refine O Z Z (QZ (E := (QM encFact)) (ys := [i.Pre]) aD.f2 S98 Z23 Z (by decide) Z Z Z Z ⟨[l], [], Z, ⟨_, Z, x⟩, Z⟩ Z bf ?_)
  intro a1 bO al
  refine O Z Z (Zo (v := a1) Z Z (Zb (V (Zc (Zd (O Z Z (Zp Qfb Z Z Z (O Z Z (Zn (al.f1) A58 Z Z Z (O Z Z (Zr S58 Z Z p (O Z Z (Zm (v := U 0) Z Z (Zb (V ?_)))))))))))))))
  obtain ⟨t, a6, d⟩ := Zg d
  refine Qo (JZ (fun k' s' f' w' => (fun (t : (List (List Fact))) => ∃ (az : PHeap) (h : Value), PHeap.le ay az ∧ St w0 az (Res.arr (QM encFact) 23 h t :: H) w' ∧ f' 3 = h ∧ f' 12 = n ∧ f' 13 = U ((a.Ops.length : Int)) ∧ f' 14 = U ((ao : Int)) ∧ f' 24 = aa ∧ f' 25 = U ((i.Effs.length : Int)) ∧ f' 26 = U (k' : Int)) s') a6 ?_ ?_ ?_)
  ·have aE := (al.f1).drop
   exact ⟨ay, a1, (Zv _), aE, Z, ar, au, ad, Z, Z, Z⟩
  ·intro aN t bl b6 bP aM a8 j
   obtain ⟨bm, h, aq, am, aS, aT, aU, aV, av, aw, ae⟩ := a8
   refine Zc (Zd (O Z Z (Zq Z ae aw (Zb (V (Zc (QL (Zx (decide_eq_true (by omega))) (Qq (V (Zc (Qo (Zc (Zd ?_)))))))))))))
   obtain ⟨o, bg, j⟩ := Zg j
   refine O Z Z (Qy S58 Z av ae (p.mono aq) bg ?_)
   intro bz bC a4
   refine O Z Z (Zw (E := encEffect) am A95 Z Z Z a4 ?_)
   intro bH bh
   obtain ⟨m, rfl, y⟩ := Qac.1 bh
   refine O Z Z (Exec.alloc (cs := [Vn, U 0, U 0]) am Z95 Z Z ?_)
   intro b0 bQ aF
   refine O Z Z (Qe (ds := [m, U (o.Var), U (o.Val)]) (es := [m, U (o.Var), U (o.Val)]) aF A95 Z Z Z Z (Zj y.one (Zj Z (Zj Z Q5))) (Nat.le_of_ble_eq_true Z) Z ?_)
   intro bR an
   refine Zb (V (Zd (O Z Z (Zm (v := h) Z aS (O Z Z (Zp QjM Z Z Z (O Z Z (Zn (an) A23 Z Z Z (O Z Z (Exec.buildSlice (Te := 23) (cs := [m]) an Z (Qc (c := [m]) (Qh Z (QX y.one)) Qu) (fun _ => by kernel_rfl) ?_))))))))))
   intro b1 bS aG
   obtain ⟨bA, bi, j⟩ := Zg j
   refine O Z Z (QZ (E := (QM encFact)) (ys := [o.When]) aG.f2 S98 Z23 Z (by decide) Z Z Z Z ⟨[m], [], Z, ⟨_, Z, y⟩, Z⟩ Z bi ?_)
   intro a2 bT aH
   refine O Z Z (Zo (v := a2) Z Z (Zb (Qz (V (Zd (O Z Z (Exec.add Z ae Z (O Z Z (Zm (v := U (IntKind.i64.wrap ((aN : Int) + 1))) Z Z (Zb (V ?_)))))))))))
   have b2 := Zu j
   subst bl
   exact ⟨bm, a2, aq, (aH.f1).drop, Z, aT, aU, aV, av, aw, (Eq.trans Z (QF aM (SliceRep.le p)))⟩
  intro b7 bU a9
  obtain ⟨bn, h, aO, aI, aW, aX, aY, aZ, bD, ba, bp⟩ := a9
  refine Zc (Zd (O Z Z (Zq Z bp ba (Zb (V (Zc (QB (Zx (decide_eq_false (by omega))) (QJ (Qn (Qn (Q9 (Qz (V (Zd (O Z Z (Exec.add Z aZ Z (O Z Z (Zm (v := U (IntKind.i64.wrap ((ao : Int) + 1))) Z Z (Zb (V ?_))))))))))))))))))))
  have b3 := Zu d
  subst bk
  exact ⟨bn, h, (Zt ap aO), aI, aW, aX, aY, (Eq.trans Z (QF aL (SliceRep.le q)))⟩
 intro b8 bV aA
 obtain ⟨bF, b, aP, aJ, bb, bE, bc, bq⟩ := aA
 refine Zc (Zd (O Z Z (Zq Z bq bc (Zb (V (Zc (QB (Zx (decide_eq_false (by omega))) (QJ (Qn (Qn (Q9 (V (Zc (Zd (O Z Z (Zm (v := b) Z bb (O Z Z (Zo (v := b) Z Z (Zb (V (Q0 ?_)))))))))))))))))))))
 have b4 := Zu hm
 subst r
 refine ⟨_, QW Z, ?_⟩
 obtain ⟨bo, aQ, aK, bj⟩ := aJ.freezeArr
 exact ⟨bo, b, (Zt aP aQ), aK, Z, bj⟩
theorem S23 : Je Tryz.prog 23 = some (90, 2, 16) := by kernel_rfl
theorem N71 : (Tryz.f71.name == "runtime.NumGoroutine") = false := by kernel_rfl
theorem Qe6 {w0 w : World} {s : PHeap} {H : List Res} {a : (List Fact)} {b : Value} {r : Bool} (hm : Yx a = some r) (hS : St w0 s (H) w) (d : SliceRep encFact s b a) :
  Calls Tryz.prog 71 #[b] w fun e w' => ∃ v, e = .returned v ∧ ((fun (f : Bool) => ∃ (c : PHeap) , PHeap.le s c ∧ St w0 c (H) w' ∧ v = Value.bool (f)) r) := by
 unfold Yx at hm
 refine Qw Tryz.func71 Z Z (Zc (Zd (O Z Z (Zo (v := Vb false) Z Z (Zb (V (Zc (Zd (O Z Z (Zm (v := b) Z Z (O Z Z (Zr S23 Z Z d (O Z Z (Exec.gtr Z Z Z (O Z Z (Zo (v := Vb (decide (64 < (a.length : Int)))) Z Z (Zb (V (Q0 ?_)))))))))))))))))))
 have g := Zu hm
 subst r
 refine ⟨_, QW Z, ?_⟩
 exact ⟨s, (Zv _), hS, Z⟩
theorem Qdv {w0 w : World} {s : PHeap} {H : List Res} {g : (List (List Fact))} {c : Value} {r : Int} (hm : KR g = some r) (hS : St w0 s (H) w) (i : SliceRep (QM encFact) s c g) :
  Calls Tryz.prog 92 #[c, Value.func (.func 71) #[] #[]] w fun e w' => ∃ v, e = .returned v ∧ ((fun (a5 : Int) => ∃ (aa : PHeap) , PHeap.le s aa ∧ St w0 aa (H) w' ∧ v = U a5) r) := by
 unfold KR at hm
 refine Qw Tryz.func92 Z Z (Zc (Zd (O Z Z (Zo (v := U 0) Z Z (Zb (V (Zc (Zc (Zd (O Z Z (Zm (v := c) Z Z (O Z Z (Zr S98 Z Z i (O Z Z (Zm (v := U 0) Z Z (Zb (V ?_)))))))))))))))))
 obtain ⟨m, af, ap, an, al⟩ := QN hm
 refine QK (M := fun f' w' => ∃ s', (m = .next s' ∨ m = .brk s') ∧ (fun (_ : Unit) => ∃ (ab : PHeap) , PHeap.le s ab ∧ St w0 ab (H) w' ∧ f' 0 = c ∧ f' 1 = Value.func (.func 71) #[] #[] ∧ f' 7 = U ((g.length : Int))) s') ?_ ?_
 ·refine Qo (JI (fun k' s' f' w' => (fun (_ : Unit) => ∃ (ac : PHeap) , PHeap.le s ac ∧ St w0 ac (H) w' ∧ f' 0 = c ∧ f' 1 = Value.func (.func 71) #[] #[] ∧ f' 7 = U ((g.length : Int)) ∧ f' 8 = U (k' : Int)) s') af ?_ ?_ ?_)
  ·exact ⟨s, (Zv _), hS, Z, Z, Z, Z⟩
  ·intro b aJ n aB aN am ag a aq
   obtain ⟨aI, j, o, u, x, y, l⟩ := ag
   refine Zc (Zd (O Z Z (Zq Z l y (Zb (V (Zc (QL (Zx (decide_eq_true (by omega))) (Qq (V (Zc (Qo (Zc (Zd (O Z Z (Zm (v := U ((b : Int))) Z l (O Z Z (Zo (v := U ((b : Int))) Z Z (Zb (V (Zc (Zd (O Z Z (Zm (v := Value.func (.func 71) #[] #[]) Z x (O Z Z (Zm (v := c) Z u (O Z Z (Zm (v := U ((b : Int))) Z Z ?_)))))))))))))))))))))))))))
   obtain ⟨a3, ay, a⟩ := Zg a
   refine O Z Z (Qy S98 Z Z Z (i.mono j) ay ?_)
   intro a6 aE ae
   refine O Z Z (Zw (E := (QM encFact)) o A23 Z Z Z ae ?_)
   intro aM az
   have a0 := K3.1 az
   refine O Z Z (QjD Z Z Tryz.func71 Z N71 (Zi Z Qk) ((Qe6 (Qcd a3) o a0).mono ?_))
   rintro _ aO ⟨_, rfl, ⟨ad, t, p, rfl⟩⟩
   refine ⟨_, Z, ?_⟩
   refine Zb (V ?_)
   rcases Qf a with ⟨d, a⟩ | ⟨d, a⟩
   ·refine Qr Z d (Zc (Zd (O Z Z (Zm (v := U ((b : Int))) Z Z (O Z Z (Zo (v := U ((b : Int))) Z Z (Zb (V (Q0 (QC (Qi (Qi (QC (Qi (Qi ?_)))))))))))))))
    have a7 := Zu a
    subst n
    have ao := ap _ (aq (by intro _ h; cases h))
    have a8 := Zu ao
    subst r
    refine ⟨_, QW Z, ?_⟩
    exact ⟨ad, (Zt j t), p, Z⟩
   refine Qs Z d ?_
   replace d := Zk d
   refine Qq (Qz (V (Zd (O Z Z (Exec.add Z l Z (O Z Z (Zm (v := U (IntKind.i64.wrap ((b : Int) + 1))) Z Z (Zb (V ?_)))))))))
   have a9 := Zu a
   subst n
   refine ⟨_, Z, ?_⟩; exact ⟨ad, (Zt j t), p, u, x, y, (Eq.trans Z (QF am (SliceRep.le i)))⟩
  intro aK aC aP ah ar
  obtain ⟨a1, au, aj, aw, ax, z, a4⟩ := ah
  refine Zc (Zd (O Z Z (Zq Z a4 z (Zb (V (Zc (QB (Zx (decide_eq_false (by omega))) (QJ (Qn (Qn (Q9 (V ?_))))))))))))
  refine ⟨_, .inl ar, ?_⟩; exact ⟨a1, au, aj, aw, ax, z⟩
 rintro aD aQ ⟨aL, q, ai⟩
 have hm := q.elim (an _) (al _)
 clear q
 obtain ⟨a2, av, ak, aF, aG, aH⟩ := ai
 refine (V (Zc (Zd (O Z Z (Zo (v := U ((-1))) Z Z (Zb (V (Q0 ?_))))))))
 have aA := Zu hm
 subst r
 refine ⟨_, QW Z, ?_⟩
 exact ⟨a2, av, ak, Z⟩
theorem QeC {w0 w : World} {s : PHeap} {H : List Res} {c : (List (List Fact))} {a : Value} {r : Bool} (hm : Y3 c = some r) (hS : St w0 s (H) w) (d : SliceRep (QM encFact) s a c) :
  Calls Tryz.prog 70 #[a, Value.func (.func 71) #[] #[]] w fun e w' => ∃ v, e = .returned v ∧ ((fun (j : Bool) => ∃ (b : PHeap) , PHeap.le s b ∧ St w0 b (H) w' ∧ v = Value.bool (j)) r) := by
 unfold Y3 at hm
 refine Qw Tryz.func70 Z Z (Zc (Zd (O Z Z (Zo (v := Vb false) Z Z (Zb (V (Zc (Zd (O Z Z (Zm (v := a) Z Z (O Z Z (Zm (v := Value.func (.func 71) #[] #[]) Z Z ?_))))))))))))
 obtain ⟨k, h, hm⟩ := Zg hm
 refine O Z Z (Tc Z Z Z (Zi Z (Zi Z Qk)) (Qdv h hS d).r ?_)
 rintro _ m ⟨i, g, f, rfl⟩
 refine O Z Z (Exec.geq Z Z Z (O Z Z (Zo (v := Vb (decide (0 ≤ k))) Z Z (Zb (V (Q0 ?_))))))
 have l := Zu hm
 subst r
 refine ⟨_, QW Z, ?_⟩
 exact ⟨i, g, f, Z⟩
theorem Qgz {w0 w : World} {s : PHeap} {H : List Res} {a : Task} {i : Value} {j : Value} {l : Value} {d : Value} {r : Bool} (hm : Qa1 a = some r) (hS : St w0 s (H) w) (ac : SliceRep (Qa .i64) s i a.Vars) (ay : SliceRep (Qa .i64) s j a.Init) (az : SliceRep encFact s l a.Goal) (n : SliceRep encOp s d a.Ops) :
  Calls Tryz.prog 48 #[Value.agg #[i, j, l, d]] w fun e w' => ∃ v, e = .returned v ∧ ((fun (aY : Bool) => ∃ (ao : PHeap) , PHeap.le s ao ∧ St w0 ao (H) w' ∧ v = Value.bool (aY)) r) := by
 unfold Qa1 at hm
 refine Qw Tryz.func48 Z Z (Zc (Zd (O Z Z (Exec.box (cs := [i, j, l, d]) hS Z Z Z ?_))))
 intro m bu t
 refine O Z Z (Zo (v := Vb false) Z Z (Zb (V (Zc (Zc (QK (M := fun f' w' => ∃ (ap : PHeap) , PHeap.le s ap ∧ St w0 ap (Res.box m 26 [i, j, l, d] :: H) w' ∧ f' 1 = Vq m ∧ f' 14 = Vb (((decide (64 < (a.Vars.length : Int))) || decide (4096 < (a.Ops.length : Int))))) ?_ ?_))))))
 ·refine Zd (O Z Z (Zp Yu Z Z Z (O Z Z (Zn (t) A22 Z Z Z (O Z Z (Zr JG Z Z ac (O Z Z (Exec.gtr Z Z Z (O Z Z (Zm (v := Vb (decide (64 < (a.Vars.length : Int)))) Z Z ?_))))))))))
  by_cases b : (decide (64 < (a.Vars.length : Int))) = true
  ·refine Qx 5 (by rw [b]; rfl) ?_
   refine Zb (V ?_)
   exact ⟨s, (Zv _), t, Z, (Zx (Qd7 b)).symm⟩
  replace b := Zk b
  refine Qj Z (Zf Z (Zx b)) Z (Zp Qbz Z Z Z (Qj Z (Zf Z (Zx b)) Z (Zn (t) A24 Z Z Z (Qj Z (Zf Z (Zx b)) Z (Zr S24 Z Z n (Qj Z (Zf Z (Zx b)) Z (Exec.gtr Z Z Z (O Z Z (Q8 (v := Vb (decide (4096 < (a.Ops.length : Int)))) Z (Zx b) Z (Zb (V ?_)))))))))))
  exact ⟨s, (Zv _), t, Z, (Zx (YV b)).symm⟩
 intro bg bv a3
 obtain ⟨u, c, y, ai, aj⟩ := a3
 refine (V ?_)
 rcases Qf hm with ⟨o, hm⟩ | ⟨o, hm⟩
 ·refine Qr aj o (Zc (Zd (O Z Z (Zo (v := Vb true) Z Z (Zb (V (Q0 (Qi ?_))))))))
  have bb := Zu hm
  subst r
  refine ⟨_, QW Z, ?_⟩
  exact ⟨u, c, y.drop, Z⟩
 refine Qs aj o ?_
 replace o := Zk o
 refine Qq (V (Zc (Zc (Zd (O Z Z (Zp Qbz Z ai Z (O Z Z (Zn (y) A24 Z Z Z (O Z Z (Zr S24 Z Z (n.mono c) (O Z Z (Zm (v := U 0) Z Z (Zb (V ?_))))))))))))))
 obtain ⟨ad, a0, aD, aB, a9⟩ := QN hm
 refine QK (M := fun f' w' => ∃ s', (ad = .next s' ∨ ad = .brk s') ∧ (fun (_ : Unit) => ∃ (aq : PHeap) , PHeap.le u aq ∧ St w0 aq (Res.box m 26 [i, j, l, d] :: H) w' ∧ f' 1 = Vq m ∧ f' 16 = d ∧ f' 17 = U ((a.Ops.length : Int))) s') ?_ ?_
 ·refine Qo (JI (fun k' s' f' w' => (fun (_ : Unit) => ∃ (ar : PHeap) , PHeap.le u ar ∧ St w0 ar (Res.box m 26 [i, j, l, d] :: H) w' ∧ f' 1 = Vq m ∧ f' 16 = d ∧ f' 17 = U ((a.Ops.length : Int)) ∧ f' 18 = U (k' : Int)) s') a0 ?_ ?_ ?_)
  ·exact ⟨u, (Zv _), y, ai, Z, Z, Z⟩
  ·intro aG bp ae bh bw aA a1 g aE
   obtain ⟨au, aa, af, aK, ak, al, ab⟩ := a1
   refine Zc (Zd (O Z Z (Zq Z ab al (Zb (V (Zc (QL (Zx (decide_eq_true (by omega))) (Qq (V (Zc (Qo (Zc (Zd ?_)))))))))))))
   obtain ⟨x, aO, g⟩ := Zg g
   refine O Z Z (Qy S24 Z ak ab (n.mono (Zt c aa)) aO ?_)
   intro aZ bk ax
   refine O Z Z (Zw (E := encOp) af A60 Z Z Z ax ?_)
   intro bs aP
   obtain ⟨av, aw, rfl, aS, an⟩ := YH.1 aP
   refine O Z Z (Exec.alloc (cs := [Value.string (⟨#[]⟩), U 0, Vn, Vn]) af Z60 Z Z ?_)
   intro ba bx a5
   refine O Z Z (Qe (ds := [Value.string (x.Name), U (x.Cost), av, aw]) (es := [Value.string (x.Name), U (x.Cost), av, aw]) a5 A60 Z Z Z Z (Zj Z (Zj Z (Zj aS.one (Zj an.one Q5)))) (Nat.le_of_ble_eq_true Z) Z ?_)
   intro bz z
   refine Zb (V (Zc (Zd (O Z Z (Zp Qfb Z Z Z (O Z Z (Zn (z) A58 Z Z Z (O Z Z (Zr S58 Z Z an (O Z Z (Exec.gtr Z Z Z (Zb (V ?_)))))))))))))
   rcases Qf g with ⟨p, g⟩ | ⟨p, g⟩
   ·refine Qr Z p (Zc (Zd (O Z Z (Zo (v := Vb true) Z Z (Zb (V (Q0 (QC (Qi (Qi (QC (Qi (Qi ?_)))))))))))))
    have bc := Zu g
    subst ae
    have aC := aD _ (aE (by intro _ h; cases h))
    have bd := Zu aC
    subst r
    refine ⟨_, QW Z, ?_⟩
    exact ⟨au, (Zt c aa), (z.drop).drop, Z⟩
   refine Qs Z p ?_
   replace p := Zk p
   refine Qq (Qz (V (Zd (O Z Z (Exec.add Z ab Z (O Z Z (Zm (v := U (IntKind.i64.wrap ((aG : Int) + 1))) Z Z (Zb (V ?_)))))))))
   have be := Zu g
   subst ae
   refine ⟨_, Z, ?_⟩; exact ⟨au, aa, z.drop, aK, ak, al, (Eq.trans Z (QF aA (SliceRep.le (n.mono c))))⟩
  intro bq bi b0 a2 aF
  obtain ⟨aU, aH, a6, aL, aM, am, aW⟩ := a2
  refine Zc (Zd (O Z Z (Zq Z aW am (Zb (V (Zc (QB (Zx (decide_eq_false (by omega))) (QJ (Qn (Qn (Q9 (V ?_))))))))))))
  refine ⟨_, .inl aF, ?_⟩; exact ⟨aU, aH, a6, aL, aM, am⟩
 rintro bj b1 ⟨br, ah, a4⟩
 have hm := ah.elim (aB _) (a9 _)
 clear ah
 obtain ⟨bn, q, ag, aN, bl, bm⟩ := a4
 refine (V (Zc (Zd (O Z Z (Ql (ds := [i, j, l, d]) (ag) A26 Z aN Z ?_)))))
 obtain ⟨b4, aQ, hm⟩ := Zg hm
 refine O Z Z (Tc Z Z Z (Zi Z Qk) (Qb1 aQ ag (ac.mono (Zt c q)) (ay.mono (Zt c q)) (az.mono (Zt c q)) (n.mono (Zt c q))).r ?_)
 rintro bt b2 ⟨bo, _, aI, a7, rfl, aT⟩
 obtain ⟨aX, aR, hm⟩ := Zg hm
 refine O Z Z (Tc Z Z Z (Zi Z (Zi Z Qk)) (QeC aR a7 aT).r ?_)
 rintro _ b3 ⟨aV, aJ, a8, rfl⟩
 refine O Z Z (Zo (v := Vb aX) Z Z (Zb (V (Q0 ?_))))
 have bf := Zu hm
 subst r
 refine ⟨_, QW Z, ?_⟩
 exact ⟨aV, (Zt (Zt (Zt c q) aI) aJ), a8.drop, Z⟩
theorem C50 : Tryz.prog.concrete 50 = true := by kernel_rfl
theorem A3 : JU Tryz.prog 3 = some (false, 1) := by kernel_rfl
theorem Qin : Jt Tryz.prog 60 1 = some 1 := by kernel_rfl
theorem Qlo : Jt Tryz.prog 26 1 = some 1 := by kernel_rfl
theorem Qfq {w0 w : World} {s : PHeap} {H : List Res} {ao : (List Int)} {m : (List Int)} {d : Value} {g : Value} {r : Bool} (hm : Qaa ao m = some r) (hS : St w0 s (H) w) (ab : SliceRep (Qa .i64) s d ao) (q : SliceRep (Qa .i64) s g m) :
  Calls Tryz.prog 42 #[d, g] w fun e w' => ∃ v, e = .returned v ∧ ((fun (aN : Bool) => ∃ (aj : PHeap) , PHeap.le s aj ∧ St w0 aj (H) w' ∧ v = Value.bool (aN)) r) := by
 unfold Qaa at hm
 refine Qw Tryz.func42 Z Z (Zc (Zd (O Z Z (Zo (v := Vb false) Z Z (Zb (V (Zc (Zc (Zd (O Z Z (Zm (v := g) Z Z (O Z Z (Zr JG Z Z q (O Z Z (Zm (v := d) Z Z (O Z Z (Zr JG Z Z ab (O Z Z (Exec.neq Z Z Z (Zb (V ?_)))))))))))))))))))))
 rcases Qf hm with ⟨i, hm⟩ | ⟨i, hm⟩
 ·refine Qr Z i (Zc (Zd (O Z Z (Zo (v := Vb false) Z Z (Zb (V (Q0 (Qi ?_))))))))
  have aQ := Zu hm
  subst r
  refine ⟨_, QW Z, ?_⟩
  exact ⟨s, (Zv _), hS, Z⟩
 refine Qs Z i ?_
 replace i := Zk i
 refine Qq (V (Zc (Zc (Zd (O Z Z (Zm (v := g) Z Z (O Z Z (Zr JG Z Z q (O Z Z (Zm (v := U 0) Z Z (Zb (V ?_))))))))))))
 obtain ⟨ac, ar, a4, a2, a0⟩ := QN hm
 refine QK (M := fun f' w' => ∃ s', (ac = .next s' ∨ ac = .brk s') ∧ (fun (_ : Unit) => ∃ (ak : PHeap) , PHeap.le s ak ∧ St w0 ak (H) w' ∧ f' 0 = d ∧ f' 12 = g ∧ f' 13 = U ((m.length : Int))) s') ?_ ?_
 ·refine Qo (JI (fun k' s' f' w' => (fun (_ : Unit) => ∃ (al : PHeap) , PHeap.le s al ∧ St w0 al (H) w' ∧ f' 0 = d ∧ f' 12 = g ∧ f' 13 = U ((m.length : Int)) ∧ f' 14 = U (k' : Int)) s') ar ?_ ?_ ?_)
  ·exact ⟨s, (Zv _), hS, Z, Z, Z, Z⟩
  ·intro l bg ad aX bl a1 au b a5
   obtain ⟨aa, u, t, x, y, z, n⟩ := au
   refine Zc (Zd (O Z Z (Zq Z n z (Zb (V (Zc (QL (Zx (decide_eq_true (by omega))) (Qq (V (Zc (Qo (Zc (Zd (O Z Z (Zm (v := U ((l : Int))) Z n ?_)))))))))))))))
   obtain ⟨o, aF, b⟩ := Zg b
   refine O Z Z (Qy JG Z y n (q.mono u) aF ?_)
   intro aO bb ap
   refine O Z Z (Zw (E := (Qa .i64)) t A3 Z Z Z ap ?_)
   intro bj aG
   obtain rfl := Qv.1 aG
   refine O Z Z (Zo (v := U ((l : Int))) Z Z (O Z Z (Zo (v := U o) Z Z (Zb (V (Zc ?_))))))
   obtain ⟨p, c, b⟩ := Zg b
   refine QK (M := fun f' w' => (fun (p : Bool) => ∃ (am : PHeap) , PHeap.le aa am ∧ St w0 am (H) w' ∧ f' 0 = d ∧ f' 12 = g ∧ f' 13 = U ((m.length : Int)) ∧ f' 14 = U ((l : Int)) ∧ f' 28 = Vb p) p) ?_ ?_
   ·refine Zd (O Z Z (Zm (v := U o) Z Z (O Z Z (Zq Z Z Z (O Z Z (Zm (v := Vb (decide (o < 0))) Z Z ?_))))))
    rcases Qf c with ⟨a, c⟩ | ⟨a, c⟩
    ·refine Qx 7 (by rw [a]; rfl) ?_
     refine Zb (V ?_)
     have aR := Zu c
     subst p
     exact ⟨aa, (Zv _), t, x, y, z, n, Z⟩
    replace a := Zk a
    refine Qj Z (Zf Z (Zx a)) Z (Zm (v := U o) Z Z (Qj Z (Zf Z (Zx a)) Z (Zm (v := d) Z x (Qj Z (Zf Z (Zx a)) Z (Zm (v := U ((l : Int))) Z Z ?_)))))
    obtain ⟨aL, aH, c⟩ := Zg c
    refine Qj Z (Zf Z (Zx a)) Z (Qy JG Z Z Z (ab.mono u) aH ?_)
    intro aP bc aq
    refine Qj Z (Zf Z (Zx a)) Z (Zw (E := (Qa .i64)) t A3 Z Z Z aq ?_)
    intro bk aI
    obtain rfl := Qv.1 aI
    refine Qj Z (Zf Z (Zx a)) Z (Exec.geq Z Z Z (O Z Z (Q8 (v := Vb (decide (aL ≤ o))) Z (Zx a) Z (Zb (V ?_)))))
    have aS := Zu c
    subst p
    exact ⟨aa, (Zv _), t, x, y, z, n, Z⟩
   intro aY bm aw
   obtain ⟨an, ag, ae, a9, aA, aB, aC, ah⟩ := aw
   refine (V ?_)
   rcases Qf b with ⟨j, b⟩ | ⟨j, b⟩
   ·refine Qr ah j (Zc (Zd (O Z Z (Zo (v := Vb false) Z Z (Zb (V (Q0 (QC (Qi (Qi (QC (Qi (Qi ?_)))))))))))))
    have aT := Zu b
    subst ad
    have a3 := a4 _ (a5 (by intro _ h; cases h))
    have aU := Zu a3
    subst r
    refine ⟨_, QW Z, ?_⟩
    exact ⟨an, (Zt u ag), ae, Z⟩
   refine Qs ah j ?_
   replace j := Zk j
   refine Qq (Qz (V (Zd (O Z Z (Exec.add Z aC Z (O Z Z (Zm (v := U (IntKind.i64.wrap ((l : Int) + 1))) Z Z (Zb (V ?_)))))))))
   have aV := Zu b
   subst ad
   refine ⟨_, Z, ?_⟩; exact ⟨an, (Zt u ag), ae, a9, aA, aB, (Eq.trans Z (QF a1 (SliceRep.le q)))⟩
  intro bh aZ bn av a6
  obtain ⟨aJ, a7, ay, aD, aE, ai, aM⟩ := av
  refine Zc (Zd (O Z Z (Zq Z aM ai (Zb (V (Zc (QB (Zx (decide_eq_false (by omega))) (QJ (Qn (Qn (Q9 (V ?_))))))))))))
  refine ⟨_, .inl a6, ?_⟩; exact ⟨aJ, a7, ay, aD, aE, ai⟩
 rintro ba bo ⟨bi, af, ax⟩
 have hm := af.elim (a2 _) (a0 _)
 clear af
 obtain ⟨aK, a8, az, bd, be, bf⟩ := ax
 refine (V (Zc (Zd (O Z Z (Zo (v := Vb true) Z Z (Zb (V (Q0 ?_))))))))
 have aW := Zu hm
 subst r
 refine ⟨_, QW Z, ?_⟩
 exact ⟨aK, a8, az, Z⟩
theorem A90 : JU Tryz.prog 90 = some (true, 2) := by kernel_rfl
theorem Z90 : JL Tryz.prog 90 = some (Value.agg #[U 0, U 0]) := by kernel_rfl
theorem Yc : Tryz.prog.follows .mixedOrders = true := by kernel_rfl
theorem YS : Jt Tryz.prog 90 0 = some 0 := by kernel_rfl
theorem Qfa : Jt Tryz.prog 90 1 = some 1 := by kernel_rfl
theorem Qdl {w0 w : World} {s : PHeap} {H : List Res} {ab : (List Int)} {q : (List Fact)} {l : Value} {o : Value} {r : Bool} (hm : YJ ab q = some r) (hS : St w0 s (H) w) (ae : SliceRep (Qa .i64) s l ab) (ac : SliceRep encFact s o q) :
  Calls Tryz.prog 50 #[l, o] w fun e w' => ∃ v, e = .returned v ∧ ((fun (aX : Bool) => ∃ (ap : PHeap) , PHeap.le s ap ∧ St w0 ap (H) w' ∧ v = Value.bool (aX)) r) := by
 unfold YJ at hm
 refine Qw Tryz.func50 Z Z (Zc (Zd (O Z Z (Zo (v := Vb false) Z Z (Zb (V (Zc (Zd (O Z Z (Zo (v := U ((-1))) Z Z (Zb (V (Zc (Zc (Zd (O Z Z (Zm (v := o) Z Z (O Z Z (Zr S23 Z Z ac (O Z Z (Zm (v := U 0) Z Z (Zb (V ?_)))))))))))))))))))))))
 obtain ⟨ag, ay, aB, a9, a7⟩ := QN hm
 refine QK (M := fun f' w' => ∃ s', (ag = .next s' ∨ ag = .brk s') ∧ (fun (am : Int) => ∃ (aq : PHeap) , PHeap.le s aq ∧ St w0 aq (H) w' ∧ f' 0 = l ∧ f' 5 = U am ∧ f' 8 = o ∧ f' 9 = U ((q.length : Int))) s') ?_ ?_
 ·refine Qo (JI (fun k' s' f' w' => (fun (x : Int) => ∃ (ar : PHeap) , PHeap.le s ar ∧ St w0 ar (H) w' ∧ f' 0 = l ∧ f' 5 = U x ∧ f' 8 = o ∧ f' 9 = U ((q.length : Int)) ∧ f' 10 = U (k' : Int)) s') ay ?_ ?_ ?_)
  ·exact ⟨s, (Zv _), hS, Z, Z, Z, Z, Z⟩
  ·intro ak x ah bj bv a8 az i aC
   obtain ⟨aa, u, ai, n, aG, y, z, p⟩ := az
   refine Zc (Zd (O Z Z (Zq Z p z (Zb (V (Zc (QL (Zx (decide_eq_true (by omega))) (Qq (V (Zc (Qo (Zc (Zd ?_)))))))))))))
   obtain ⟨c, aP, i⟩ := Zg i
   refine O Z Z (Qy S23 Z y p (ac.mono u) aP ?_)
   intro aY bn aw
   refine O Z Z (Zw (E := encFact) ai A90 Z Z Z aw ?_)
   intro bt aQ
   obtain rfl := YB.1 aQ
   refine O Z Z (Exec.alloc (cs := [U 0, U 0]) ai Z90 Z Z ?_)
   intro af bw a3
   refine O Z Z (Qe (ds := [U (c.Var), U (c.Val)]) (es := [U (c.Var), U (c.Val)]) a3 A90 Z Z Z Z (Zj Z (Zj Z Q5)) (Nat.le_of_ble_eq_true Z) Z ?_)
   intro bx a4
   refine Zb (V (Zc (Zc ?_)))
   obtain ⟨m, a, i⟩ := Zg i
   refine QK (M := fun f' w' => (fun (m : Bool) => ∃ (au : PHeap) , PHeap.le aa au ∧ St w0 au (Res.box af 90 [U (c.Var), U (c.Val)] :: H) w' ∧ f' 0 = l ∧ f' 7 = Vq af ∧ f' 8 = o ∧ f' 9 = U ((q.length : Int)) ∧ f' 10 = U ((ak : Int)) ∧ f' 39 = Vb m) m) ?_ ?_
   ·refine KT (n0 := 26) (qs 0 26 .done) Yc (by kernel_rfl) (by kernel_rfl) ?_
    have d := a4.drew
    refine Qm Z Z (Zp YS Z Z Z ⟨Z, ?_⟩)
    refine Qm Z Z (Zn (d) A3 Z Z Z ⟨Z, ?_⟩)
    refine Qm Z Z (Zm (v := U x) Z aG ⟨Z, ?_⟩)
    refine Qm Z Z (Exec.leq Z Z Z ⟨Z, ?_⟩)
    refine Qm Z Z (Zm (v := Vb (decide (c.Var ≤ x))) Z Z ⟨Z, ?_⟩)
    rcases Qf a with ⟨g, a⟩ | ⟨g, a⟩
    ·refine Jh 21 (by rw [g]; rfl) ?_
     refine QG (Zb (V ?_))
     have ba := Zu a
     subst m
     exact ⟨aa, (Zv _), d, n, Z, y, z, p, Z⟩
    replace g := Zk g
    refine QE Z Z (Zf Z (Zx g)) (Zp YS Z Z Z ⟨Z, ?_⟩)
    refine QE Z Z (Zf Z (Zx g)) (Zn (d) A3 Z Z Z ⟨Z, ?_⟩)
    refine QE Z Z (Zf Z (Zx g)) (Zm (v := l) Z n ⟨Z, ?_⟩)
    refine QE Z Z (Zf Z (Zx g)) (Zr JG Z Z (ae.mono u) ⟨Z, ?_⟩)
    refine QE Z Z (Zf Z (Zx g)) (Exec.geq Z Z Z ⟨Z, ?_⟩)
    refine Qm Z Z (Q8 (v := Vb (decide ((ab.length : Int) ≤ c.Var))) Z (Zx g) Z ⟨Z, ?_⟩)
    refine Qm Z Z (Zm (v := Vb (decide ((ab.length : Int) ≤ c.Var))) Z Z ⟨Z, ?_⟩)
    rcases Qf a with ⟨j, a⟩ | ⟨j, a⟩
    ·refine Jh 14 (by rw [j]; rfl) ?_
     refine QG (Zb (V ?_))
     have bb := Zu a
     subst m
     exact ⟨aa, (Zv _), d, n, Z, y, z, p, Z⟩
    replace j := Zk j
    refine QE Z Z (Zf Z (Zx j)) (Zp Qfa Z Z Z ⟨Z, ?_⟩)
    refine QE Z Z (Zf Z (Zx j)) (Zn (d) A3 Z Z Z ⟨Z, ?_⟩)
    refine QE Z Z (Zf Z (Zx j)) (Zq Z Z Z ⟨Z, ?_⟩)
    refine Jh 2 (by rw [j]; rfl) ?_
    rcases Qf a with ⟨b, a⟩ | ⟨b, a⟩
    ·refine Jh 9 (by rw [b]; rfl) ?_
     refine QG (Zb (V ?_))
     have bc := Zu a
     subst m
     exact ⟨aa, (Zv _), d, n, Z, y, z, p, Z⟩
    replace b := Zk b
    refine QE Z Z (Zf Z (Zx b)) (Zp Qfa Z Z Z ⟨Z, ?_⟩)
    refine QE Z Z (Zf Z (Zx b)) (Zn (d) A3 Z Z Z ⟨Z, ?_⟩)
    refine QE Z Z (Zf Z (Zx b)) (Zm (v := l) Z n ⟨Z, ?_⟩)
    refine QE Z Z (Zf Z (Zx b)) (Zp YS Z Z Z ⟨Z, ?_⟩)
    refine QE Z Z (Zf Z (Zx b)) (Zn (d) A3 Z Z Z ⟨Z, ?_⟩)
    obtain ⟨aV, aR, a⟩ := Zg a
    refine QE Z Z (Zf Z (Zx b)) (QT JG Z Z Z (ae.mono u) aR ?_)
    intro aZ bo ax bd
    refine ⟨Z, ?_⟩
    refine QE Z Z (Zf Z (Zx b)) (Zw (E := (Qa .i64)) d A3 Z Z Z ax ?_)
    intro bu aS
    obtain rfl := Qv.1 aS
    refine ⟨Z, ?_⟩
    refine QE Z Z (Zf Z (Zx b)) (Exec.geq Z Z Z ⟨Z, ?_⟩)
    refine Qm Z Z (Q8 (v := Vb (decide (aV ≤ c.Val))) Z (Zx b) Z ⟨Z, ?_⟩)
    refine QG (Zb (V ?_))
    have be := Zu a
    subst m
    exact ⟨aa, (Zv _), d, n, Z, y, z, p, Z⟩
   intro bk bz a1
   obtain ⟨av, al, ad, aH, aI, aJ, aK, aL, an⟩ := a1
   refine (V ?_)
   rcases Qf i with ⟨t, i⟩ | ⟨t, i⟩
   ·refine Qr an t (Zc (Zd (O Z Z (Zo (v := Vb false) Z Z (Zb (V (Q0 (Qi (QC (Qi (Qi (QC (Qi (Qi ?_))))))))))))))
    have bf := Zu i
    subst ah
    have aA := aB _ (aC (by intro _ h; cases h))
    have bg := Zu aA
    subst r
    refine ⟨_, QW Z, ?_⟩
    exact ⟨av, (Zt u al), ad.drop, Z⟩
   refine Qs an t ?_
   replace t := Zk t
   refine Qq (V (Zd (O Z Z (Zp YS Z aI Z (O Z Z (Zn (ad) A3 Z Z Z (O Z Z (Zo (v := U (c.Var)) Z Z (Zb (Qz (V (Zd (O Z Z (Exec.add Z aL Z (O Z Z (Zm (v := U (IntKind.i64.wrap ((ak : Int) + 1))) Z Z (Zb (V ?_))))))))))))))))))
   have bh := Zu i
   subst ah
   refine ⟨_, Z, ?_⟩; exact ⟨av, (Zt u al), ad.drop, aH, Z, aJ, aK, (Eq.trans Z (QF a8 (SliceRep.le ac)))⟩
  intro x bl b0 a0 aD
  obtain ⟨aT, aE, a5, aM, aN, aO, ao, aW⟩ := a0
  refine Zc (Zd (O Z Z (Zq Z aW ao (Zb (V (Zc (QB (Zx (decide_eq_false (by omega))) (QJ (Qn (Qn (Q9 (V ?_))))))))))))
  refine ⟨_, .inl aD, ?_⟩; exact ⟨aT, aE, a5, aM, aN, aO, ao⟩
 rintro bm b1 ⟨am, aj, a2⟩
 have hm := aj.elim (a9 _) (a7 _)
 clear aj
 obtain ⟨aU, aF, a6, bp, bq, br, bs⟩ := a2
 refine (V (Zc (Zd (O Z Z (Zo (v := Vb true) Z Z (Zb (V (Q0 ?_))))))))
 have bi := Zu hm
 subst r
 refine ⟨_, QW Z, ?_⟩
 exact ⟨aU, aF, a6, Z⟩
theorem Qim : Jt Tryz.prog 95 1 = some 1 := by kernel_rfl
theorem Qlj : Jt Tryz.prog 95 2 = some 2 := by kernel_rfl
theorem Qio : Jt Tryz.prog 60 0 = some 0 := by kernel_rfl
theorem A9 : JU Tryz.prog 9 = some (false, 1) := by kernel_rfl
theorem Qgy {w0 w : World} {s : PHeap} {H : List Res} {a : ByteArray} {r : Bool} (hm : Qa0 a = some r) (hS : St w0 s (H) w) :
  Calls Tryz.prog 51 #[Value.string (a)] w fun e w' => ∃ v, e = .returned v ∧ ((fun (aA : Bool) => ∃ (ad : PHeap) , PHeap.le s ad ∧ St w0 ad (H) w' ∧ v = Value.bool (aA)) r) := by
 unfold Qa0 at hm
 refine Qw Tryz.func51 Z Z (Zc (Zd (O Z Z (Zo (v := Vb false) Z Z (Zb (V (Zc (Zc (Zd (O Z Z (Zm (v := Value.string (a)) Z Z (O Z Z (Qa6 Tryz.underlying9 Z Z (O Z Z (Zm (v := U 0) Z Z (Zb (V ?_)))))))))))))))))
 obtain ⟨aP, a6, hm⟩ := Zg hm
 obtain ⟨p, aj, aw, au, aq⟩ := QN hm
 refine QK (M := fun f' w' => ∃ s', (p = .next s' ∨ p = .brk s') ∧ (fun (_ : Unit) => ∃ (ae : PHeap) , PHeap.le s ae ∧ St w0 ae (H) w' ∧ f' 0 = Value.string (a) ∧ f' 5 = U ((a.size : Int))) s') ?_ ?_
 ·refine Qo (JI (fun k' s' f' w' => (fun (_ : Unit) => ∃ (af : PHeap) , PHeap.le s af ∧ St w0 af (H) w' ∧ f' 0 = Value.string (a) ∧ f' 5 = U ((a.size : Int)) ∧ f' 6 = U (k' : Int)) s') aj ?_ ?_ ?_)
  ·exact ⟨s, (Zv _), hS, Z, Z, Z⟩
  ·intro g aM q aH aQ ar ak c ax
   obtain ⟨o, y, t, l, n, m⟩ := ak
   refine Zc (Zd (O Z Z (Zq Z m n (Zb (V (Zc (QL (Zx (decide_eq_true (by omega))) (Qq (V (Zc (Qo (Zc (Zd (O Z Z (Zm (v := U ((g : Int))) Z m (O Z Z (Zo (v := U ((g : Int))) Z Z (Zb (V (Zc ?_))))))))))))))))))))
   obtain ⟨j, d, c⟩ := Zg c
   refine QK (M := fun f' w' => (fun (j : Bool) => ∃ (ag : PHeap) , PHeap.le o ag ∧ St w0 ag (H) w' ∧ f' 0 = Value.string (a) ∧ f' 5 = U ((a.size : Int)) ∧ f' 6 = U ((g : Int)) ∧ f' 18 = Vb j) j) ?_ ?_
   ·refine Zd (O Z Z (Zm (v := Value.string (a)) Z l (O Z Z (Zm (v := U ((g : Int))) Z Z ?_))))
    obtain ⟨ai, ac, d⟩ := Zg d
    refine O Z Z (Qa8 Tryz.underlying9 Z Z Z ac (O Z Z (Zq Z Z Z (O Z Z (Zm (v := Vb (decide (ai < 32))) Z Z ?_)))))
    rcases Qf d with ⟨b, d⟩ | ⟨b, d⟩
    ·refine Qx 5 (by rw [b]; rfl) ?_
     refine Zb (V ?_)
     have aB := Zu d
     subst j
     exact ⟨o, (Zv _), t, l, n, m, Z⟩
    replace b := Zk b
    refine Qj Z (Zf Z (Zx b)) Z (Zm (v := Value.string (a)) Z l (Qj Z (Zf Z (Zx b)) Z (Zm (v := U ((g : Int))) Z Z (Qj Z (Zf Z (Zx b)) Z (Qa8 Tryz.underlying9 Z Z Z ac (Qj Z (Zf Z (Zx b)) Z (Exec.gtr Z Z Z (O Z Z (Q8 (v := Vb (decide (126 < ai))) Z (Zx b) Z (Zb (V ?_)))))))))))
    have aC := Zu d
    subst j
    exact ⟨o, (Zv _), t, l, n, m, Z⟩
   intro aI aR am
   obtain ⟨ah, z, u, a1, a2, a3, aa⟩ := am
   refine (V ?_)
   rcases Qf c with ⟨i, c⟩ | ⟨i, c⟩
   ·refine Qr aa i (Zc (Zd (O Z Z (Zo (v := Vb false) Z Z (Zb (V (Q0 (QC (Qi (Qi (QC (Qi (Qi ?_)))))))))))))
    have aD := Zu c
    subst q
    have av := aw _ (ax (by intro _ h; cases h))
    have aE := Zu av
    subst r
    refine ⟨_, QW Z, ?_⟩
    exact ⟨ah, (Zt y z), u, Z⟩
   refine Qs aa i ?_
   replace i := Zk i
   refine Qq (Qz (V (Zd (O Z Z (Exec.add Z a3 Z (O Z Z (Zm (v := U (IntKind.i64.wrap ((g : Int) + 1))) Z Z (Zb (V ?_)))))))))
   have aF := Zu c
   subst q
   refine ⟨_, Z, ?_⟩; exact ⟨ah, (Zt y z), u, a1, a2, (Eq.trans Z (QF ar (by have h := Q7 a6; simp at h; simp only [maxLen]; omega)))⟩
  intro aN aJ aS al ay
  obtain ⟨a7, az, ao, a4, ab, a9⟩ := al
  refine Zc (Zd (O Z Z (Zq Z a9 ab (Zb (V (Zc (QB (Zx (decide_eq_false (by omega))) (QJ (Qn (Qn (Q9 (V ?_))))))))))))
  refine ⟨_, .inl ay, ?_⟩; exact ⟨a7, az, ao, a4, ab⟩
 rintro aK aT ⟨aO, x, an⟩
 have hm := x.elim (au _) (aq _)
 clear x
 obtain ⟨a8, a0, ap, a5, aL⟩ := an
 refine (V (Zc (Zd (O Z Z (Zm (v := Value.string (a)) Z a5 (O Z Z (Qa6 Tryz.underlying9 Z Z (O Z Z (Exec.leq Z Z Z (O Z Z (Zo (v := Vb (decide ((a.size : Int) ≤ 256))) Z Z (Zb (V (Q0 ?_))))))))))))))
 have aG := Zu hm
 subst r
 refine ⟨_, QW Z, ?_⟩
 exact ⟨a8, a0, ap, Z⟩
theorem Qdm {w0 w : World} {s : PHeap} {H : List Res} {n : Task} {i : Value} {o : Value} {p : Value} {b : Value} {r : (Option Int)} (hm : YK n = some r) (hS : St w0 s (H) w) (ac : SliceRep (Qa .i64) s i n.Vars) (a5 : SliceRep (Qa .i64) s o n.Init) (aW : SliceRep encFact s p n.Goal) (t : SliceRep encOp s b n.Ops) :
  Calls Tryz.prog 31 #[Value.agg #[i, o, p, b]] w fun e w' => ∃ v, e = .returned v ∧ ((fun (fv : (Option Int)) => ∃ (bY : PHeap) , PHeap.le s bY ∧ St w0 bY (H) w' ∧ v = QD 50 (fv)) r) := by
 unfold YK at hm
 refine Qw Tryz.func31 Z Z (Zc (Zd (O Z Z (Exec.box (cs := [i, o, p, b]) hS Z Z Z ?_))))
 intro d gY bj
 refine O Z Z (Zo (v := QD 50 (none)) Z Z (Zb (V (Zc (Zc (Zd (O Z Z (Ql (ds := [i, o, p, b]) (bj) A26 Z Z Z ?_))))))))
 obtain ⟨hA, eG, hm⟩ := Zg hm
 refine O Z Z (Tc Z Z Z (Zi Z Qk) (Qgz eG bj ac a5 aW t).r ?_)
 rintro _ gZ ⟨a0, a, a6, rfl⟩
 refine Zb (V ?_)
 rcases Qf hm with ⟨ai, hm⟩ | ⟨ai, hm⟩
 ·refine Qr Z ai (Zc (Zd (O Z Z (Exec.makeInterface C50 Z Z (O Z Z (Zo (v := QD 50 (some 5)) Z Z (Zb (V (Q0 (Qi ?_))))))))))
  have f8 := Zu hm
  subst r
  refine ⟨_, QW Z, ?_⟩
  exact ⟨a0, a, a6.drop, Z⟩
 refine Qs Z ai ?_
 replace ai := Zk ai
 refine Qq (V (Zc (Zc (Zd (O Z Z (Zp Yu Z Z Z (O Z Z (Zn (a6) A22 Z Z Z (O Z Z (Zr JG Z Z (ac.mono a) (O Z Z (Zm (v := U 0) Z Z (Zb (V ?_))))))))))))))
 obtain ⟨aX, c8, dG, d4, dr⟩ := QN hm
 refine QK (M := fun f' w' => ∃ s', (aX = .next s' ∨ aX = .brk s') ∧ (fun (_ : Unit) => ∃ (bZ : PHeap) , PHeap.le a0 bZ ∧ St w0 bZ (Res.box d 26 [i, o, p, b] :: H) w' ∧ f' 1 = Vq d ∧ f' 19 = i ∧ f' 20 = U ((n.Vars.length : Int))) s') ?_ ?_
 ·refine Qo (JI (fun k' s' f' w' => (fun (_ : Unit) => ∃ (ca : PHeap) , PHeap.le a0 ca ∧ St w0 ca (Res.box d 26 [i, o, p, b] :: H) w' ∧ f' 1 = Vq d ∧ f' 19 = i ∧ f' 20 = U ((n.Vars.length : Int)) ∧ f' 21 = U (k' : Int)) s') c8 ?_ ?_ ?_)
  ·exact ⟨a0, (Zv _), a6, Z, Z, Z, Z⟩
  ·intro b5 gB aY fS ha dy cE af dM
   obtain ⟨aL, aC, a7, bC, aG, aH, a2⟩ := cE
   refine Zc (Zd (O Z Z (Zq Z a2 aH (Zb (V (Zc (QL (Zx (decide_eq_true (by omega))) (Qq (V (Zc (Qo (Zc (Zd ?_)))))))))))))
   obtain ⟨ae, eH, af⟩ := Zg af
   refine O Z Z (Qy JG Z aG a2 (ac.mono (Zt a aC)) eH ?_)
   intro fw gn c2
   refine O Z Z (Zw (E := (Qa .i64)) a7 A3 Z Z Z c2 ?_)
   intro gT eI
   obtain rfl := Qv.1 eI
   refine O Z Z (Zo (v := U ae) Z Z (Zb (V (Zc (QK (M := fun f' w' => ∃ (cb : PHeap) , PHeap.le aL cb ∧ St w0 cb (Res.box d 26 [i, o, p, b] :: H) w' ∧ f' 1 = Vq d ∧ f' 19 = i ∧ f' 20 = U ((n.Vars.length : Int)) ∧ f' 21 = U ((b5 : Int)) ∧ f' 30 = Vb (((decide (ae < 1)) || decide (64 < ae)))) ?_ ?_)))))
   ·refine Zd (O Z Z (Zm (v := U ae) Z Z (O Z Z (Zq Z Z Z (O Z Z (Zm (v := Vb (decide (ae < 1))) Z Z ?_))))))
    by_cases ad : (decide (ae < 1)) = true
    ·refine Qx 3 (by rw [ad]; rfl) ?_
     refine Zb (V ?_)
     exact ⟨aL, (Zv _), a7, bC, aG, aH, a2, (Zx (Qd7 ad)).symm⟩
    replace ad := Zk ad
    refine Qj Z (Zf Z (Zx ad)) Z (Zm (v := U ae) Z Z (Qj Z (Zf Z (Zx ad)) Z (Exec.gtr Z Z Z (O Z Z (Q8 (v := Vb (decide (64 < ae))) Z (Zx ad) Z (Zb (V ?_)))))))
    exact ⟨aL, (Zv _), a7, bC, aG, aH, a2, (Zx (YV ad)).symm⟩
   intro fT hb cQ
   obtain ⟨cc, b7, bk, ej, ek, el, em, bD⟩ := cQ
   refine (V ?_)
   rcases Qf af with ⟨aj, af⟩ | ⟨aj, af⟩
   ·refine Qr bD aj (Zc (Zd (O Z Z (Exec.makeInterface C50 Z Z (O Z Z (Zo (v := QD 50 (some 1)) Z Z (Zb (V (Q0 (QC (Qi (Qi (QC (Qi (Qi ?_)))))))))))))))
    have f9 := Zu af
    subst aY
    have dA := dG _ (dM (by intro _ h; cases h))
    have fA := Zu dA
    subst r
    refine ⟨_, QW Z, ?_⟩
    exact ⟨cc, (Zt (Zt a aC) b7), bk.drop, Z⟩
   refine Qs bD aj ?_
   replace aj := Zk aj
   refine Qq (Qz (V (Zd (O Z Z (Exec.add Z em Z (O Z Z (Zm (v := U (IntKind.i64.wrap ((b5 : Int) + 1))) Z Z (Zb (V ?_)))))))))
   have fB := Zu af
   subst aY
   refine ⟨_, Z, ?_⟩; exact ⟨cc, (Zt aC b7), bk, ej, ek, el, (Eq.trans Z (QF dy (SliceRep.le (ac.mono a))))⟩
  intro gC fU hc cF dN
  obtain ⟨fg, eb, cY, en, eo, bE, fp⟩ := cF
  refine Zc (Zd (O Z Z (Zq Z fp bE (Zb (V (Zc (QB (Zx (decide_eq_false (by omega))) (QJ (Qn (Qn (Q9 (V ?_))))))))))))
  refine ⟨_, .inl dN, ?_⟩; exact ⟨fg, eb, cY, en, eo, bE⟩
 rintro fV hd ⟨gD, bz, cR⟩
 have hm := bz.elim (d4 _) (dr _)
 clear bz
 obtain ⟨aM, g, bl, bF, gu, gv⟩ := cR
 refine (V (Zc (Zc (Zd (O Z Z (Zp Qbz Z bF Z (O Z Z (Zn (bl) A24 Z Z Z (O Z Z (Zr S24 Z Z (t.mono (Zt a g)) (O Z Z (Zm (v := U 0) Z Z (Zb (V ?_))))))))))))))
 obtain ⟨aZ, c9, dH, d5, dt⟩ := QN hm
 refine QK (M := fun f' w' => ∃ s', (aZ = .next s' ∨ aZ = .brk s') ∧ (fun (_ : Unit) => ∃ (cd : PHeap) , PHeap.le aM cd ∧ St w0 cd (Res.box d 26 [i, o, p, b] :: H) w' ∧ f' 1 = Vq d ∧ f' 34 = b ∧ f' 35 = U ((n.Ops.length : Int))) s') ?_ ?_
 ·refine Qo (JI (fun k' s' f' w' => (fun (_ : Unit) => ∃ (ce : PHeap) , PHeap.le aM ce ∧ St w0 ce (Res.box d 26 [i, o, p, b] :: H) w' ∧ f' 1 = Vq d ∧ f' 34 = b ∧ f' 35 = U ((n.Ops.length : Int)) ∧ f' 36 = U (k' : Int)) s') c9 ?_ ?_ ?_)
  ·exact ⟨aM, (Zv _), bl, bF, Z, Z, Z⟩
  ·intro b6 gE ba fW he dz cG ag dO
   obtain ⟨aN, aD, bm, bG, aI, aJ, a3⟩ := cG
   refine Zc (Zd (O Z Z (Zq Z a3 aJ (Zb (V (Zc (QL (Zx (decide_eq_true (by omega))) (Qq (V (Zc (Qo (Zc (Zd ?_)))))))))))))
   obtain ⟨ab, eJ, ag⟩ := Zg ag
   refine O Z Z (Qy S24 Z aI a3 (t.mono (Zt (Zt a g) aD)) eJ ?_)
   intro fx go c3
   refine O Z Z (Zw (E := encOp) bm A60 Z Z Z c3 ?_)
   intro gU eK
   obtain ⟨ct, cu, rfl, eY, eZ⟩ := YH.1 eK
   refine O Z Z (Exec.alloc (cs := [Value.string (⟨#[]⟩), U 0, Vn, Vn]) bm Z60 Z Z ?_)
   intro fy hf cZ
   refine O Z Z (Qe (ds := [Value.string (ab.Name), U (ab.Cost), ct, cu]) (es := [Value.string (ab.Name), U (ab.Cost), ct, cu]) cZ A60 Z Z Z Z (Zj Z (Zj Z (Zj eY.one (Zj eZ.one Q5)))) (Nat.le_of_ble_eq_true Z) Z ?_)
   intro hg ar
   refine Zb (V (Zc (QK (M := fun f' w' => ∃ (cf : PHeap) , PHeap.le aN cf ∧ St w0 cf (Res.box d 26 [i, o, p, b] :: H) w' ∧ f' 1 = Vq d ∧ f' 34 = b ∧ f' 35 = U ((n.Ops.length : Int)) ∧ f' 36 = U ((b6 : Int)) ∧ f' 47 = Vb (((decide (ab.Cost < 0)) || decide (1048576 < ab.Cost)))) ?_ ?_)))
   ·refine Zd (O Z Z (Zp Qin Z Z Z (O Z Z (Zn (ar) A3 Z Z Z (O Z Z (Zq Z Z Z (O Z Z (Zm (v := Vb (decide (ab.Cost < 0))) Z Z ?_))))))))
    by_cases x : (decide (ab.Cost < 0)) = true
    ·refine Qx 4 (by rw [x]; rfl) ?_
     refine Zb (V ?_)
     exact ⟨aN, (Zv _), ar.drop, bG, aI, aJ, a3, (Zx (Qd7 x)).symm⟩
    replace x := Zk x
    refine Qj Z (Zf Z (Zx x)) Z (Zp Qin Z Z Z (Qj Z (Zf Z (Zx x)) Z (Zn (ar) A3 Z Z Z (Qj Z (Zf Z (Zx x)) Z (Exec.gtr Z Z Z (O Z Z (Q8 (v := Vb (decide (1048576 < ab.Cost))) Z (Zx x) Z (Zb (V ?_)))))))))
    exact ⟨aN, (Zv _), ar.drop, bG, aI, aJ, a3, (Zx (YV x)).symm⟩
   intro fX hh cS
   obtain ⟨cg, b8, bn, ep, er, et, eu, bH⟩ := cS
   refine (V ?_)
   rcases Qf ag with ⟨ak, ag⟩ | ⟨ak, ag⟩
   ·refine Qr bH ak (Zc (Zd (O Z Z (Exec.makeInterface C50 Z Z (O Z Z (Zo (v := QD 50 (some 1)) Z Z (Zb (V (Q0 (QC (Qi (Qi (QC (Qi (Qi ?_)))))))))))))))
    have fC := Zu ag
    subst ba
    have dB := dH _ (dO (by intro _ h; cases h))
    have fD := Zu dB
    subst r
    refine ⟨_, QW Z, ?_⟩
    exact ⟨cg, (Zt (Zt (Zt a g) aD) b8), bn.drop, Z⟩
   refine Qs bH ak ?_
   replace ak := Zk ak
   refine Qq (Qz (V (Zd (O Z Z (Exec.add Z eu Z (O Z Z (Zm (v := U (IntKind.i64.wrap ((b6 : Int) + 1))) Z Z (Zb (V ?_)))))))))
   have fE := Zu ag
   subst ba
   refine ⟨_, Z, ?_⟩; exact ⟨cg, (Zt aD b8), bn, ep, er, et, (Eq.trans Z (QF dz (SliceRep.le (t.mono (Zt a g)))))⟩
  intro gF fY hi cH dP
  obtain ⟨fh, ec, da, ev, ew, bI, fq⟩ := cH
  refine Zc (Zd (O Z Z (Zq Z fq bI (Zb (V (Zc (QB (Zx (decide_eq_false (by omega))) (QJ (Qn (Qn (Q9 (V ?_))))))))))))
  refine ⟨_, .inl dP, ?_⟩; exact ⟨fh, ec, da, ev, ew, bI⟩
 rintro fZ hj ⟨gG, b0, cT⟩
 have hm := b0.elim (d5 _) (dt _)
 clear b0
 obtain ⟨g6, j, a8, ay, gw, gx⟩ := cT
 refine (V (Zc (Zc (Zd (O Z Z (Zp Yu Z ay Z (O Z Z (Zn (a8) A22 Z Z Z (O Z Z (Zp Qlo Z ay Z (O Z Z (Zn (a8) A22 Z Z Z ?_))))))))))))
 obtain ⟨hB, eL, hm⟩ := Zg hm
 refine O Z Z (Tc Z Z Z (Zi Z (Zi Z Qk)) (Qfq eL a8 (ac.mono (Zt (Zt a g) j)) (a5.mono (Zt (Zt a g) j))).r ?_)
 rintro _ hk ⟨fi, m, a9, rfl⟩
 refine O Z Z (Exec.not Z Z (Zb (V ?_)))
 rcases Qf hm with ⟨al, hm⟩ | ⟨al, hm⟩
 ·refine Qr Z al (Zc (Zd (O Z Z (Exec.makeInterface C50 Z Z (O Z Z (Zo (v := QD 50 (some 2)) Z Z (Zb (V (Q0 (Qi ?_))))))))))
  have fF := Zu hm
  subst r
  refine ⟨_, QW Z, ?_⟩
  exact ⟨fi, (Zt (Zt (Zt a g) j) m), a9.drop, Z⟩
 refine Qs Z al ?_
 replace al := Zk al
 refine Qq (V (Zc (Zc (Zd (O Z Z (Ql (ds := [i, o, p, b]) (a9) A26 Z ay Z ?_))))))
 obtain ⟨c1, eM, hm⟩ := Zg hm
 refine O Z Z (Tc Z Z Z (Zi Z Qk) (Qb1 eM a9 (ac.mono (Zt (Zt (Zt a g) j) m)) (a5.mono (Zt (Zt (Zt a g) j) m)) (aW.mono (Zt (Zt (Zt a g) j) m)) (t.mono (Zt (Zt (Zt a g) j) m))).r ?_)
 rintro cz hl ⟨aO, _, q, db, rfl, aK⟩
 refine O Z Z (Zr S98 Z Z aK (O Z Z (Zm (v := U 0) Z Z (Zb (V ?_)))))
 obtain ⟨bb, cA, dI, d6, du⟩ := QN hm
 refine QK (M := fun f' w' => ∃ s', (bb = .next s' ∨ bb = .brk s') ∧ (fun (_ : Unit) => ∃ (ch : PHeap) , PHeap.le aO ch ∧ St w0 ch (Res.box d 26 [i, o, p, b] :: H) w' ∧ f' 1 = Vq d ∧ f' 58 = cz ∧ f' 59 = U ((c1.length : Int))) s') ?_ ?_
 ·refine Qo (JI (fun k' s' f' w' => (fun (_ : Unit) => ∃ (ci : PHeap) , PHeap.le aO ci ∧ St w0 ci (Res.box d 26 [i, o, p, b] :: H) w' ∧ f' 1 = Vq d ∧ f' 58 = cz ∧ f' 59 = U ((c1.length : Int)) ∧ f' 60 = U (k' : Int)) s') cA ?_ ?_ ?_)
  ·exact ⟨aO, (Zv _), db, ay, Z, Z, Z⟩
  ·intro dY gH bc ga hn d0 cI y dQ
   obtain ⟨g7, av, aA, bJ, bK, bL, aS⟩ := cI
   refine Zc (Zd (O Z Z (Zq Z aS bL (Zb (V (Zc (QL (Zx (decide_eq_true (by omega))) (Qq (V (Zc (Qo (Zc (Zd ?_)))))))))))))
   obtain ⟨h9, eN, y⟩ := Zg y
   refine O Z Z (Qy S98 Z bK aS (aK.mono av) eN ?_)
   intro fz gp c4
   refine O Z Z (Zw (E := (QM encFact)) aA A23 Z Z Z c4 ?_)
   intro c0 eO
   have fa := K3.1 eO
   refine O Z Z (Zo (v := c0) Z Z (Zb (V (Zc (Zd (O Z Z (Zp Yu Z bJ Z (O Z Z (Zn (aA) A22 Z Z Z (O Z Z (Zm (v := c0) Z Z ?_)))))))))))
   obtain ⟨hC, eP, y⟩ := Zg y
   refine O Z Z (Tc Z Z Z (Zi Z (Zi Z Qk)) (Qdl eP aA (ac.mono (Zt (Zt (Zt (Zt (Zt a g) j) m) q) av)) fa).r ?_)
   rintro _ ho ⟨cj, b9, bo, rfl⟩
   refine O Z Z (Exec.not Z Z (Zb (V ?_)))
   rcases Qf y with ⟨am, y⟩ | ⟨am, y⟩
   ·refine Qr Z am (Zc (Zd (O Z Z (Exec.makeInterface C50 Z Z (O Z Z (Zo (v := QD 50 (some 2)) Z Z (Zb (V (Q0 (QC (Qi (Qi (QC (Qi (Qi ?_)))))))))))))))
    have fG := Zu y
    subst bc
    have dC := dI _ (dQ (by intro _ h; cases h))
    have fH := Zu dC
    subst r
    refine ⟨_, QW Z, ?_⟩
    exact ⟨cj, (Zt (Zt (Zt (Zt (Zt (Zt a g) j) m) q) av) b9), bo.drop, Z⟩
   refine Qs Z am ?_
   replace am := Zk am
   refine Qq (Qz (V (Zd (O Z Z (Exec.add Z aS Z (O Z Z (Zm (v := U (IntKind.i64.wrap ((dY : Int) + 1))) Z Z (Zb (V ?_)))))))))
   have fI := Zu y
   subst bc
   refine ⟨_, Z, ?_⟩; exact ⟨cj, (Zt av b9), bo, bJ, bK, bL, (Eq.trans Z (QF d0 (SliceRep.le aK)))⟩
  intro gI gb hp cJ dR
  obtain ⟨fj, ed, dc, ex, ey, bM, fr⟩ := cJ
  refine Zc (Zd (O Z Z (Zq Z fr bM (Zb (V (Zc (QB (Zx (decide_eq_false (by omega))) (QJ (Qn (Qn (Q9 (V ?_))))))))))))
  refine ⟨_, .inl dR, ?_⟩; exact ⟨fj, ed, dc, ex, ey, bM⟩
 rintro gc hq ⟨gJ, b1, cU⟩
 have hm := b1.elim (d6 _) (du _)
 clear b1
 obtain ⟨aP, u, bp, bN, gy, gz⟩ := cU
 refine (V (Zc (Zc (Zd (O Z Z (Zp Qbz Z bN Z (O Z Z (Zn (bp) A24 Z Z Z (O Z Z (Zr S24 Z Z (t.mono (Zt (Zt (Zt (Zt (Zt a g) j) m) q) u)) (O Z Z (Zm (v := U 0) Z Z (Zb (V ?_))))))))))))))
 obtain ⟨bd, cB, dJ, d7, dv⟩ := QN hm
 refine QK (M := fun f' w' => ∃ s', (bd = .next s' ∨ bd = .brk s') ∧ (fun (_ : Unit) => ∃ (ck : PHeap) , PHeap.le aP ck ∧ St w0 ck (Res.box d 26 [i, o, p, b] :: H) w' ∧ f' 1 = Vq d ∧ f' 72 = b ∧ f' 73 = U ((n.Ops.length : Int))) s') ?_ ?_
 ·refine Qo (JI (fun k' s' f' w' => (fun (_ : Unit) => ∃ (cl : PHeap) , PHeap.le aP cl ∧ St w0 cl (Res.box d 26 [i, o, p, b] :: H) w' ∧ f' 1 = Vq d ∧ f' 72 = b ∧ f' 73 = U ((n.Ops.length : Int)) ∧ f' 74 = U (k' : Int)) s') cB ?_ ?_ ?_)
  ·exact ⟨aP, (Zv _), bp, bN, Z, Z, Z⟩
  ·intro aB gK be gd hr d1 cK ap dS
   obtain ⟨aQ, aw, bq, ez, bO, bP, aT⟩ := cK
   refine Zc (Zd (O Z Z (Zq Z aT bP (Zb (V (Zc (QL (Zx (decide_eq_true (by omega))) (Qq (V (Zc (Qo (Zc (Zd ?_)))))))))))))
   obtain ⟨ah, eQ, ap⟩ := Zg ap
   refine O Z Z (Qy S24 Z bO aT (t.mono (Zt (Zt (Zt (Zt (Zt (Zt a g) j) m) q) u) aw)) eQ ?_)
   intro f0 gq c5
   refine O Z Z (Zw (E := encOp) bq A60 Z Z Z c5 ?_)
   intro gV eR
   obtain ⟨cv, a1, rfl, fb, az⟩ := YH.1 eR
   refine O Z Z (Exec.alloc (cs := [Value.string (⟨#[]⟩), U 0, Vn, Vn]) bq Z60 Z Z ?_)
   intro f2 hs dd
   refine O Z Z (Qe (ds := [Value.string (ah.Name), U (ah.Cost), cv, a1]) (es := [Value.string (ah.Name), U (ah.Cost), cv, a1]) dd A60 Z Z Z Z (Zj Z (Zj Z (Zj fb.one (Zj az.one Q5)))) (Nat.le_of_ble_eq_true Z) Z ?_)
   intro ht br
   refine Zb (V (Zc (Zd (O Z Z (Zp Qfb Z Z Z (O Z Z (Zn (br) A58 Z Z Z (O Z Z (Zr S58 Z Z az (O Z Z (Zm (v := U 0) Z Z (Zb (V ?_)))))))))))))
   obtain ⟨bf, cC, dK, d8, dw⟩ := QN ap
   refine QK (M := fun f' w' => ∃ s', (bf = .next s' ∨ bf = .brk s') ∧ (fun (_ : Unit) => ∃ (cm : PHeap) , PHeap.le aQ cm ∧ St w0 cm (Res.box d 26 [i, o, p, b] :: H) w' ∧ f' 1 = Vq d ∧ f' 72 = b ∧ f' 73 = U ((n.Ops.length : Int)) ∧ f' 74 = U ((aB : Int)) ∧ f' 79 = a1 ∧ f' 80 = U ((ah.Effs.length : Int))) s') ?_ ?_
   ·refine Qo (JI (fun k' s' f' w' => (fun (_ : Unit) => ∃ (cn : PHeap) , PHeap.le aQ cn ∧ St w0 cn (Res.box d 26 [i, o, p, b] :: H) w' ∧ f' 1 = Vq d ∧ f' 72 = b ∧ f' 73 = U ((n.Ops.length : Int)) ∧ f' 74 = U ((aB : Int)) ∧ f' 79 = a1 ∧ f' 80 = U ((ah.Effs.length : Int)) ∧ f' 81 = U (k' : Int)) s') cC ?_ ?_ ?_)
    ·have de := br.drop
     exact ⟨aQ, (Zv _), de, ez, bO, bP, aT, Z, Z, Z⟩
    ·intro dZ gL bg gf hu d2 cL z dT
     obtain ⟨g8, ax, bs, bQ, e0, e1, e2, bR, bS, aU⟩ := cL
     refine Zc (Zd (O Z Z (Zq Z aU bS (Zb (V (Zc (QL (Zx (decide_eq_true (by omega))) (Qq (V (Zc (Qo (Zc (Zd ?_)))))))))))))
     obtain ⟨l, eS, z⟩ := Zg z
     refine O Z Z (Qy S58 Z bR aU (az.mono ax) eS ?_)
     intro f3 gr c6
     refine O Z Z (Zw (E := encEffect) bs A95 Z Z Z c6 ?_)
     intro gW eT
     obtain ⟨cw, rfl, fc⟩ := Qac.1 eT
     refine O Z Z (Exec.alloc (cs := [Vn, U 0, U 0]) bs Z95 Z Z ?_)
     intro f4 hv df
     refine O Z Z (Qe (ds := [cw, U (l.Var), U (l.Val)]) (es := [cw, U (l.Var), U (l.Val)]) df A95 Z Z Z Z (Zj fc.one (Zj Z (Zj Z Q5))) (Nat.le_of_ble_eq_true Z) Z ?_)
     intro hw au
     refine Zb (V (Zc (Zd (O Z Z (Zp Yu Z bQ Z (O Z Z (Zn (au.f1) A22 Z Z Z (O Z Z (Zp Qim Z Z Z (O Z Z (Zn (au) A3 Z Z Z (O Z Z (Zp Qlj Z Z Z (O Z Z (Zn (au) A3 Z Z Z (O Z Z (Exec.build Z (Qc (c := [U (l.Var)]) (Qh Z Z) (Qc (c := [U (l.Val)]) (Qh Z Z) Qu)) (v := Value.agg #[U (l.Var), U (l.Val)]) (fun _ => by kernel_rfl) (O Z Z (Exec.buildSlice (Te := 90) (cs := [U (l.Var), U (l.Val)]) au Z (Qc (c := [U (l.Var), U (l.Val)]) (Qh Z Z) Qu) (fun _ => by kernel_rfl) ?_)))))))))))))))))))
     intro f5 hx dg
     have dh := St.boxArr (E := encFact) (xs := [(⟨l.Var, l.Val⟩ : Fact)]) dg ⟨[U (l.Var), U (l.Val)], [], rfl, ⟨[U (l.Var)], [U (l.Val)], rfl, rfl, rfl⟩, rfl⟩ (by simp [maxLen])
     obtain ⟨g9, aE, di, fd⟩ := dh.freezeArr
     obtain ⟨hD, eU, z⟩ := Zg z
     refine O Z Z (Tc Z Z Z (Zi Z (Zi Z Qk)) (Qdl eU di (ac.mono (Zt (Zt (Zt (Zt (Zt (Zt (Zt (Zt a g) j) m) q) u) aw) ax) aE)) fd).r ?_)
     rintro _ hy ⟨co, bA, bt, rfl⟩
     refine O Z Z (Exec.not Z Z (Zb (V ?_)))
     rcases Qf z with ⟨an, z⟩ | ⟨an, z⟩
     ·refine Qr Z an (Zc (Zd (O Z Z (Exec.makeInterface C50 Z Z (O Z Z (Zo (v := QD 50 (some 2)) Z Z (Zb (V (Q0 (QC (Qi (Qi (QC (Qi (QC (Qi (Qi (QC (Qi (Qi ?_))))))))))))))))))))
      have fJ := Zu z
      subst bg
      have dD := dK _ (dT (by intro _ h; cases h))
      have fK := Zu dD
      subst be
      have dE := dJ _ (dS (by intro _ h; cases h))
      have fL := Zu dE
      subst r
      refine ⟨_, QW Z, ?_⟩
      exact ⟨co, (Zt (Zt (Zt (Zt (Zt (Zt (Zt (Zt (Zt a g) j) m) q) u) aw) ax) aE) bA), (bt.drop).drop, Z⟩
     refine Qs Z an ?_
     replace an := Zk an
     refine Qq (Qz (V (Zd (O Z Z (Exec.add Z aU Z (O Z Z (Zm (v := U (IntKind.i64.wrap ((dZ : Int) + 1))) Z Z (Zb (V ?_)))))))))
     have fM := Zu z
     subst bg
     refine ⟨_, Z, ?_⟩; exact ⟨co, (Zt (Zt ax aE) bA), bt.drop, bQ, e0, e1, e2, bR, bS, (Eq.trans Z (QF d2 (SliceRep.le az)))⟩
    intro gM gg hz cM dU
    obtain ⟨fk, ee, dj, e3, e4, e5, e6, e7, bT, fs⟩ := cM
    refine Zc (Zd (O Z Z (Zq Z fs bT (Zb (V (Zc (QB (Zx (decide_eq_false (by omega))) (QJ (Qn (Qn (Q9 (V ?_))))))))))))
    refine ⟨_, .inl dU, ?_⟩; exact ⟨fk, ee, dj, e3, e4, e5, e6, e7, bT⟩
   rintro gh h0 ⟨gN, b2, cV⟩
   have ap := b2.elim (d8 _) (dw _)
   clear b2
   obtain ⟨fl, ef, dk, e8, e9, eA, eB, g0, g1⟩ := cV
   refine (Qz (V (Zd (O Z Z (Exec.add Z eB Z (O Z Z (Zm (v := U (IntKind.i64.wrap ((aB : Int) + 1))) Z Z (Zb (V ?_)))))))))
   have fN := Zu ap
   subst be
   refine ⟨_, Z, ?_⟩; exact ⟨fl, (Zt aw ef), dk, e8, e9, eA, (Eq.trans Z (QF d1 (SliceRep.le (t.mono (Zt (Zt (Zt (Zt (Zt a g) j) m) q) u)))))⟩
  intro gO gi h1 cN dV
  obtain ⟨fm, eg, dl, eC, eD, bU, ft⟩ := cN
  refine Zc (Zd (O Z Z (Zq Z ft bU (Zb (V (Zc (QB (Zx (decide_eq_false (by omega))) (QJ (Qn (Qn (Q9 (V ?_))))))))))))
  refine ⟨_, .inl dV, ?_⟩; exact ⟨fm, eg, dl, eC, eD, bU⟩
 rintro gj h2 ⟨gP, b3, cW⟩
 have hm := b3.elim (d7 _) (dv _)
 clear b3
 obtain ⟨aR, aq, bu, eE, g2, g3⟩ := cW
 refine (V (Zc (Zc (Zd (O Z Z (Zp Qbz Z eE Z (O Z Z (Zn (bu) A24 Z Z Z (O Z Z (Zr S24 Z Z (t.mono (Zt (Zt (Zt (Zt (Zt (Zt a g) j) m) q) u) aq)) (O Z Z (Zm (v := U 0) Z Z (Zb (V ?_))))))))))))))
 obtain ⟨bh, cD, dL, d9, dx⟩ := QN hm
 refine QK (M := fun f' w' => ∃ s', (bh = .next s' ∨ bh = .brk s') ∧ (fun (_ : Unit) => ∃ (cp : PHeap) , PHeap.le aR cp ∧ St w0 cp (H) w' ∧ f' 99 = b ∧ f' 100 = U ((n.Ops.length : Int))) s') ?_ ?_
 ·refine Qo (JI (fun k' s' f' w' => (fun (_ : Unit) => ∃ (cq : PHeap) , PHeap.le aR cq ∧ St w0 cq (H) w' ∧ f' 99 = b ∧ f' 100 = U ((n.Ops.length : Int)) ∧ f' 101 = U (k' : Int)) s') cD ?_ ?_ ?_)
  ·have dm := bu.drop
   exact ⟨aR, (Zv _), dm, Z, Z, Z⟩
  ·intro ea gQ bi gk h3 d3 cO aa dW
   obtain ⟨gA, aF, bv, bV, bW, aV⟩ := cO
   refine Zc (Zd (O Z Z (Zq Z aV bW (Zb (V (Zc (QL (Zx (decide_eq_true (by omega))) (Qq (V (Zc (Qo (Zc (Zd ?_)))))))))))))
   obtain ⟨a4, eV, aa⟩ := Zg aa
   refine O Z Z (Qy S24 Z bV aV (t.mono (Zt (Zt (Zt (Zt (Zt (Zt (Zt a g) j) m) q) u) aq) aF)) eV ?_)
   intro f6 gs c7
   refine O Z Z (Zw (E := encOp) bv A60 Z Z Z c7 ?_)
   intro gX eW
   obtain ⟨cx, cy, rfl, fe, ff⟩ := YH.1 eW
   refine O Z Z (Exec.alloc (cs := [Value.string (⟨#[]⟩), U 0, Vn, Vn]) bv Z60 Z Z ?_)
   intro f7 h4 dn
   refine O Z Z (Qe (ds := [Value.string (a4.Name), U (a4.Cost), cx, cy]) (es := [Value.string (a4.Name), U (a4.Cost), cx, cy]) dn A60 Z Z Z Z (Zj Z (Zj Z (Zj fe.one (Zj ff.one Q5)))) (Nat.le_of_ble_eq_true Z) Z ?_)
   intro h5 bw
   refine Zb (V (Zc (Zd (O Z Z (Zp Qio Z Z Z (O Z Z (Zn (bw) A9 Z Z Z ?_)))))))
   obtain ⟨hE, eX, aa⟩ := Zg aa
   refine O Z Z (Tc Z Z Z (Zi Z Qk) (Qgy eX bw).r ?_)
   rintro _ h6 ⟨cr, bB, bx, rfl⟩
   refine O Z Z (Exec.not Z Z (Zb (V ?_)))
   rcases Qf aa with ⟨ao, aa⟩ | ⟨ao, aa⟩
   ·refine Qr Z ao (Zc (Zd (O Z Z (Exec.makeInterface C50 Z Z (O Z Z (Zo (v := QD 50 (some 8)) Z Z (Zb (V (Q0 (QC (Qi (Qi (QC (Qi (Qi ?_)))))))))))))))
    have fO := Zu aa
    subst bi
    have dF := dL _ (dW (by intro _ h; cases h))
    have fP := Zu dF
    subst r
    refine ⟨_, QW Z, ?_⟩
    exact ⟨cr, (Zt (Zt (Zt (Zt (Zt (Zt (Zt (Zt a g) j) m) q) u) aq) aF) bB), bx.drop, Z⟩
   refine Qs Z ao ?_
   replace ao := Zk ao
   refine Qq (Qz (V (Zd (O Z Z (Exec.add Z aV Z (O Z Z (Zm (v := U (IntKind.i64.wrap ((ea : Int) + 1))) Z Z (Zb (V ?_)))))))))
   have fQ := Zu aa
   subst bi
   refine ⟨_, Z, ?_⟩; exact ⟨cr, (Zt aF bB), bx.drop, bV, bW, (Eq.trans Z (QF d3 (SliceRep.le (t.mono (Zt (Zt (Zt (Zt (Zt (Zt a g) j) m) q) u) aq)))))⟩
  intro gR gl h7 cP dX
  obtain ⟨fn, eh, dp, eF, bX, fu⟩ := cP
  refine Zc (Zd (O Z Z (Zq Z fu bX (Zb (V (Zc (QB (Zx (decide_eq_false (by omega))) (QJ (Qn (Qn (Q9 (V ?_))))))))))))
  refine ⟨_, .inl dX, ?_⟩; exact ⟨fn, eh, dp, eF, bX⟩
 rintro gm h8 ⟨gS, b4, cX⟩
 have hm := b4.elim (d9 _) (dx _)
 clear b4
 obtain ⟨fo, ei, dq, g4, g5⟩ := cX
 refine (V (Zc (Zd (O Z Z (Zo (v := QD 50 (none)) Z Z (Zb (V (Q0 ?_))))))))
 have fR := Zu hm
 subst r
 refine ⟨_, QW Z, ?_⟩
 exact ⟨fo, (Zt (Zt (Zt (Zt (Zt (Zt (Zt a g) j) m) q) u) aq) ei), dq, Z⟩
end Go.Pw
