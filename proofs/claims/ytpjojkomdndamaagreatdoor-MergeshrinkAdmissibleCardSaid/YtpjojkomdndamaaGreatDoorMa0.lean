/- -/
import Derived.Test.YtpjojkomdndamaaGreatDoorL27
import Derived.Test.YtpjojkomdndamaaGreatDoorMaP
import Derived.Test.YtpjojkomdndamaaGreatDoorL8
import Derived.Test.YtpjojkomdndamaaGreatDoorL9
import Derived.Test.YtpjojkomdndamaaGreatDoorL12
import Derived.Test.YtpjojkomdndamaaGreatDoorLB
import Derived.Test.YtpjojkomdndamaaGreatDoorL19
import Derived.Test.YtpjojkomdndamaaGreatDoorL23
import Derived.Test.YtpjojkomdndamaaGreatDoorL26
import Derived.Test.YtpjojkomdndamaaGreatDoorProg
import Derived.KernelRfl
set_option maxRecDepth 100000
set_option maxHeartbeats 4000000
set_option linter.unusedVariables false
namespace Go.Pw
open Go.Proofs
theorem Z26 : JA Tryz.prog 26 = some (Value.agg #[Value.slice none 0 0, Value.slice none 0 0, Value.slice none 0 0, Value.slice none 0 0]) := by kernel_rfl
theorem A26 : JI Tryz.prog 26 = some (true, 4) := by kernel_rfl
theorem N29 : (Tryz.f29.name == "runtime.NumGoroutine") = false := by kernel_rfl
theorem Qa5 {w0 w : World} {s : PHeap} {H : List Res} {r : Task} (hm : Yq = some r) (hS : St w0 s (H) w) :
  Calls Tryz.prog 29 #[] w fun e w' => ∃ v, e = .returned v ∧ ((fun (ad : Task) => ∃ (x : PHeap) (ak : Value) (al : Value) (am : Value) (an : Value), PHeap.le s x ∧ St w0 x (H) w' ∧ v = Value.agg #[ak, al, am, an] ∧ SliceRep (Qa .i64) x ak ad.Vars ∧ SliceRep (Qa .i64) x al ad.Init ∧ SliceRep encFact x am ad.Goal ∧ SliceRep encOp x an ad.Ops) r) := by
 unfold Yq at hm
 refine Qy Tryz.func29 Z Z (Zc (Zd (O Z Z (Exec.alloc (cs := [Vs none 0 0, Vs none 0 0, Vs none 0 0, Vs none 0 0]) hS Z26 Z Z ?_))))
 intro bc bp ao
 refine Zb (V (Zc (Zd (O Z Z (Exec.buildSlice (Te := 3) (cs := [U 2, U 3]) ao Z (Qb (c := [U 2]) (Qi Z Z) (Qb (c := [U 3]) (Qi Z Z) Qx)) (fun _ => by kernel_rfl) ?_)))))
 intro y bq ap
 have aq := St.boxArr (E := (Qa .i64)) (xs := [2, 3]) ap ⟨[U 2], [U 3], rfl, rfl, ⟨[U 3], [], rfl, rfl, rfl⟩⟩ (by simp [maxLen])
 obtain ⟨be, aS, ar, ag⟩ := aq.freezeArr
 refine O Z Z (Exec.buildSlice (Te := 3) (cs := [U 0, U 0]) ar Z (Qb (c := [U 0]) (Qi Z Z) (Qb (c := [U 0]) (Qi Z Z) Qx)) (fun _ => by kernel_rfl) ?_)
 intro z br au
 have av := St.boxArr (E := (Qa .i64)) (xs := [0, 0]) au ⟨[U 0], [U 0], rfl, rfl, ⟨[U 0], [], rfl, rfl, rfl⟩⟩ (by simp [maxLen])
 obtain ⟨bf, ae, aw, ah⟩ := av.freezeArr
 refine O Z Z (Exec.build Z (Qb (c := [U 1]) (Qi Z Z) (Qb (c := [U 1]) (Qi Z Z) Qx)) (v := Value.agg #[U 1, U 1]) (fun _ => by kernel_rfl) (O Z Z (Exec.buildSlice (Te := 90) (cs := [U 1, U 1]) aw Z (Qb (c := [U 1, U 1]) (Qi Z Z) Qx) (fun _ => by kernel_rfl) ?_)))
 intro aa bs ax
 have ay := St.boxArr (E := encFact) (xs := [(⟨1, 1⟩ : Fact)]) ax ⟨[U 1, U 1], [], rfl, ⟨[U 1], [U 1], rfl, rfl, rfl⟩, rfl⟩ (by simp [maxLen])
 obtain ⟨bg, ac, az, ai⟩ := ay.freezeArr
 refine O Z Z (Exec.build Z (Qb (c := [U 0]) (Qi Z Z) (Qb (c := [U 0]) (Qi Z Z) Qx)) (v := Value.agg #[U 0, U 0]) (fun _ => by kernel_rfl) (O Z Z (Exec.buildSlice (Te := 90) (cs := [U 0, U 0]) az Z (Qb (c := [U 0, U 0]) (Qi Z Z) Qx) (fun _ => by kernel_rfl) ?_)))
 intro o bt a0
 have a1 := St.boxArr (E := encFact) (xs := [(⟨0, 0⟩ : Fact)]) a0 ⟨[U 0, U 0], [], rfl, ⟨[U 0], [U 0], rfl, rfl, rfl⟩, rfl⟩ (by simp [maxLen])
 obtain ⟨bh, t, a2, aT⟩ := a1.freezeArr
 refine O Z Z (Exec.build Z (Qb (c := [U 0]) (Qi Z Z) (Qb (c := [U 1]) (Qi Z Z) Qx)) (v := Value.agg #[Vs none 0 0, U 0, U 1]) (fun _ => by kernel_rfl) (O Z Z (Exec.buildSlice (Te := 95) (cs := [Vs none 0 0, U 0, U 1]) a2 Z (Qb (c := [Vs none 0 0, U 0, U 1]) (Qi Z Z) Qx) (fun _ => by kernel_rfl) ?_)))
 intro p bu a3
 have a4 := St.boxArr (E := encEffect) (xs := [(⟨[], 0, 1⟩ : Effect)]) a3 ⟨[Vs none 0 0, U 0, U 1], [], rfl, ⟨[Vs none 0 0], [U 0, U 1], rfl, ⟨_, rfl, (SliceRep.nil _ _)⟩, ⟨[U 0], [U 1], rfl, rfl, rfl⟩⟩, rfl⟩ (by simp [maxLen])
 obtain ⟨bi, q, a5, aU⟩ := a4.freezeArr
 refine O Z Z (Exec.build Z (Qb (c := [U 1]) (Qi Z Z) (Qb (c := [Vs (some ⟨o, 0, none⟩) 1 1]) (Qi Z Z) (Qb (c := [Vs (some ⟨p, 0, none⟩) 1 1]) (Qi Z Z) Qx))) (v := Value.agg #[Value.string (⟨#[]⟩), U 1, Vs (some ⟨o, 0, none⟩) 1 1, Vs (some ⟨p, 0, none⟩) 1 1]) (fun _ => by kernel_rfl) (O Z Z (Exec.build Z (Qb (c := [U 0]) (Qi Z Z) (Qb (c := [U 1]) (Qi Z Z) Qx)) (v := Value.agg #[U 0, U 1]) (fun _ => by kernel_rfl) (O Z Z (Exec.buildSlice (Te := 90) (cs := [U 0, U 1]) a5 Z (Qb (c := [U 0, U 1]) (Qi Z Z) Qx) (fun _ => by kernel_rfl) ?_)))))
 intro l bv a6
 have a7 := St.boxArr (E := encFact) (xs := [(⟨0, 1⟩ : Fact)]) a6 ⟨[U 0, U 1], [], rfl, ⟨[U 0], [U 1], rfl, rfl, rfl⟩, rfl⟩ (by simp [maxLen])
 obtain ⟨bj, n, a8, aV⟩ := a7.freezeArr
 refine O Z Z (Exec.build Z (Qb (c := [U 0]) (Qi Z Z) (Qb (c := [U 0]) (Qi Z Z) Qx)) (v := Value.agg #[Vs none 0 0, U 0, U 0]) (fun _ => by kernel_rfl) (O Z Z (Exec.buildSlice (Te := 95) (cs := [Vs none 0 0, U 0, U 0]) a8 Z (Qb (c := [Vs none 0 0, U 0, U 0]) (Qi Z Z) Qx) (fun _ => by kernel_rfl) ?_)))
 intro m bw a9
 have aA := St.boxArr (E := encEffect) (xs := [(⟨[], 0, 0⟩ : Effect)]) a9 ⟨[Vs none 0 0, U 0, U 0], [], rfl, ⟨[Vs none 0 0], [U 0, U 0], rfl, ⟨_, rfl, (SliceRep.nil _ _)⟩, ⟨[U 0], [U 0], rfl, rfl, rfl⟩⟩, rfl⟩ (by simp [maxLen])
 obtain ⟨bk, k, aB, aW⟩ := aA.freezeArr
 refine O Z Z (Exec.build Z (Qb (c := [U 1]) (Qi Z Z) (Qb (c := [Vs (some ⟨l, 0, none⟩) 1 1]) (Qi Z Z) (Qb (c := [Vs (some ⟨m, 0, none⟩) 1 1]) (Qi Z Z) Qx))) (v := Value.agg #[Value.string (⟨#[]⟩), U 1, Vs (some ⟨l, 0, none⟩) 1 1, Vs (some ⟨m, 0, none⟩) 1 1]) (fun _ => by kernel_rfl) (O Z Z (Exec.build Z (Qb (c := [U 0]) (Qi Z Z) (Qb (c := [U 0]) (Qi Z Z) Qx)) (v := Value.agg #[U 0, U 0]) (fun _ => by kernel_rfl) (O Z Z (Exec.build Z (Qb (c := [U 1]) (Qi Z Z) (Qb (c := [U 0]) (Qi Z Z) Qx)) (v := Value.agg #[U 1, U 0]) (fun _ => by kernel_rfl) (O Z Z (Exec.buildSlice (Te := 90) (cs := [U 0, U 0, U 1, U 0]) aB Z (Qb (c := [U 0, U 0]) (Qi Z Z) (Qb (c := [U 1, U 0]) (Qi Z Z) Qx)) (fun _ => by kernel_rfl) ?_)))))))
 intro i bx aC
 have aD := St.boxArr (E := encFact) (xs := [(⟨0, 0⟩ : Fact), (⟨1, 0⟩ : Fact)]) aC ⟨[U 0, U 0], [U 1, U 0], rfl, ⟨[U 0], [U 0], rfl, rfl, rfl⟩, ⟨[U 1, U 0], [], rfl, ⟨[U 1], [U 0], rfl, rfl, rfl⟩, rfl⟩⟩ (by simp [maxLen])
 obtain ⟨bl, h, aE, aX⟩ := aD.freezeArr
 refine O Z Z (Exec.build Z (Qb (c := [U 1]) (Qi Z Z) (Qb (c := [U 2]) (Qi Z Z) Qx)) (v := Value.agg #[Vs none 0 0, U 1, U 2]) (fun _ => by kernel_rfl) (O Z Z (Exec.buildSlice (Te := 95) (cs := [Vs none 0 0, U 1, U 2]) aE Z (Qb (c := [Vs none 0 0, U 1, U 2]) (Qi Z Z) Qx) (fun _ => by kernel_rfl) ?_)))
 intro j bz aF
 have aG := St.boxArr (E := encEffect) (xs := [(⟨[], 1, 2⟩ : Effect)]) aF ⟨[Vs none 0 0, U 1, U 2], [], rfl, ⟨[Vs none 0 0], [U 1, U 2], rfl, ⟨_, rfl, (SliceRep.nil _ _)⟩, ⟨[U 1], [U 2], rfl, rfl, rfl⟩⟩, rfl⟩ (by simp [maxLen])
 obtain ⟨bm, d, aH, aY⟩ := aG.freezeArr
 refine O Z Z (Exec.build Z (Qb (c := [U 1]) (Qi Z Z) (Qb (c := [Vs (some ⟨i, 0, none⟩) 2 2]) (Qi Z Z) (Qb (c := [Vs (some ⟨j, 0, none⟩) 1 1]) (Qi Z Z) Qx))) (v := Value.agg #[Value.string (⟨#[]⟩), U 1, Vs (some ⟨i, 0, none⟩) 2 2, Vs (some ⟨j, 0, none⟩) 1 1]) (fun _ => by kernel_rfl) (O Z Z (Exec.build Z (Qb (c := [U 0]) (Qi Z Z) (Qb (c := [U 1]) (Qi Z Z) Qx)) (v := Value.agg #[U 0, U 1]) (fun _ => by kernel_rfl) (O Z Z (Exec.build Z (Qb (c := [U 1]) (Qi Z Z) (Qb (c := [U 2]) (Qi Z Z) Qx)) (v := Value.agg #[U 1, U 2]) (fun _ => by kernel_rfl) (O Z Z (Exec.buildSlice (Te := 90) (cs := [U 0, U 1, U 1, U 2]) aH Z (Qb (c := [U 0, U 1]) (Qi Z Z) (Qb (c := [U 1, U 2]) (Qi Z Z) Qx)) (fun _ => by kernel_rfl) ?_)))))))
 intro f b0 aI
 have aJ := St.boxArr (E := encFact) (xs := [(⟨0, 1⟩ : Fact), (⟨1, 2⟩ : Fact)]) aI ⟨[U 0, U 1], [U 1, U 2], rfl, ⟨[U 0], [U 1], rfl, rfl, rfl⟩, ⟨[U 1, U 2], [], rfl, ⟨[U 1], [U 2], rfl, rfl, rfl⟩, rfl⟩⟩ (by simp [maxLen])
 obtain ⟨bn, b, aK, aZ⟩ := aJ.freezeArr
 refine O Z Z (Exec.build Z (Qb (c := [U 1]) (Qi Z Z) (Qb (c := [U 1]) (Qi Z Z) Qx)) (v := Value.agg #[Vs none 0 0, U 1, U 1]) (fun _ => by kernel_rfl) (O Z Z (Exec.buildSlice (Te := 95) (cs := [Vs none 0 0, U 1, U 1]) aK Z (Qb (c := [Vs none 0 0, U 1, U 1]) (Qi Z Z) Qx) (fun _ => by kernel_rfl) ?_)))
 intro g b1 aL
 have aM := St.boxArr (E := encEffect) (xs := [(⟨[], 1, 1⟩ : Effect)]) aL ⟨[Vs none 0 0, U 1, U 1], [], rfl, ⟨[Vs none 0 0], [U 1, U 1], rfl, ⟨_, rfl, (SliceRep.nil _ _)⟩, ⟨[U 1], [U 1], rfl, rfl, rfl⟩⟩, rfl⟩ (by simp [maxLen])
 obtain ⟨bo, a, aN, ba⟩ := aM.freezeArr
 refine O Z Z (Exec.build Z (Qb (c := [U 1]) (Qi Z Z) (Qb (c := [Vs (some ⟨f, 0, none⟩) 2 2]) (Qi Z Z) (Qb (c := [Vs (some ⟨g, 0, none⟩) 1 1]) (Qi Z Z) Qx))) (v := Value.agg #[Value.string (⟨#[]⟩), U 1, Vs (some ⟨f, 0, none⟩) 2 2, Vs (some ⟨g, 0, none⟩) 1 1]) (fun _ => by kernel_rfl) (O Z Z (Exec.buildSlice (Te := 60) (cs := [Value.string (⟨#[]⟩), U 1, Vs (some ⟨o, 0, none⟩) 1 1, Vs (some ⟨p, 0, none⟩) 1 1, Value.string (⟨#[]⟩), U 1, Vs (some ⟨l, 0, none⟩) 1 1, Vs (some ⟨m, 0, none⟩) 1 1, Value.string (⟨#[]⟩), U 1, Vs (some ⟨i, 0, none⟩) 2 2, Vs (some ⟨j, 0, none⟩) 1 1, Value.string (⟨#[]⟩), U 1, Vs (some ⟨f, 0, none⟩) 2 2, Vs (some ⟨g, 0, none⟩) 1 1]) aN Z (Qb (c := [Value.string (⟨#[]⟩), U 1, Vs (some ⟨o, 0, none⟩) 1 1, Vs (some ⟨p, 0, none⟩) 1 1]) (Qi Z Z) (Qb (c := [Value.string (⟨#[]⟩), U 1, Vs (some ⟨l, 0, none⟩) 1 1, Vs (some ⟨m, 0, none⟩) 1 1]) (Qi Z Z) (Qb (c := [Value.string (⟨#[]⟩), U 1, Vs (some ⟨i, 0, none⟩) 2 2, Vs (some ⟨j, 0, none⟩) 1 1]) (Qi Z Z) (Qb (c := [Value.string (⟨#[]⟩), U 1, Vs (some ⟨f, 0, none⟩) 2 2, Vs (some ⟨g, 0, none⟩) 1 1]) (Qi Z Z) Qx)))) (fun _ => by kernel_rfl) ?_)))
 intro ab b2 aO
 have aP := St.boxArr (E := encOp) (xs := [(⟨⟨#[]⟩, 1, [(⟨0, 0⟩ : Fact)], [(⟨[], 0, 1⟩ : Effect)]⟩ : Op), (⟨⟨#[]⟩, 1, [(⟨0, 1⟩ : Fact)], [(⟨[], 0, 0⟩ : Effect)]⟩ : Op), (⟨⟨#[]⟩, 1, [(⟨0, 0⟩ : Fact), (⟨1, 0⟩ : Fact)], [(⟨[], 1, 2⟩ : Effect)]⟩ : Op), (⟨⟨#[]⟩, 1, [(⟨0, 1⟩ : Fact), (⟨1, 2⟩ : Fact)], [(⟨[], 1, 1⟩ : Effect)]⟩ : Op)]) aO ⟨[Value.string (⟨#[]⟩), U 1, Vs (some ⟨o, 0, none⟩) 1 1, Vs (some ⟨p, 0, none⟩) 1 1], [Value.string (⟨#[]⟩), U 1, Vs (some ⟨l, 0, none⟩) 1 1, Vs (some ⟨m, 0, none⟩) 1 1, Value.string (⟨#[]⟩), U 1, Vs (some ⟨i, 0, none⟩) 2 2, Vs (some ⟨j, 0, none⟩) 1 1, Value.string (⟨#[]⟩), U 1, Vs (some ⟨f, 0, none⟩) 2 2, Vs (some ⟨g, 0, none⟩) 1 1], rfl, ⟨[Value.string (⟨#[]⟩)], [U 1, Vs (some ⟨o, 0, none⟩) 1 1, Vs (some ⟨p, 0, none⟩) 1 1], rfl, rfl, ⟨[U 1], [Vs (some ⟨o, 0, none⟩) 1 1, Vs (some ⟨p, 0, none⟩) 1 1], rfl, rfl, ⟨[Vs (some ⟨o, 0, none⟩) 1 1], [Vs (some ⟨p, 0, none⟩) 1 1], rfl, ⟨_, rfl, (aT.mono (Zt (Zt (Zt (Zt (Zt (Zt q n) k) h) d) b) a))⟩, ⟨_, rfl, (aU.mono (Zt (Zt (Zt (Zt (Zt n k) h) d) b) a))⟩⟩⟩⟩, ⟨[Value.string (⟨#[]⟩), U 1, Vs (some ⟨l, 0, none⟩) 1 1, Vs (some ⟨m, 0, none⟩) 1 1], [Value.string (⟨#[]⟩), U 1, Vs (some ⟨i, 0, none⟩) 2 2, Vs (some ⟨j, 0, none⟩) 1 1, Value.string (⟨#[]⟩), U 1, Vs (some ⟨f, 0, none⟩) 2 2, Vs (some ⟨g, 0, none⟩) 1 1], rfl, ⟨[Value.string (⟨#[]⟩)], [U 1, Vs (some ⟨l, 0, none⟩) 1 1, Vs (some ⟨m, 0, none⟩) 1 1], rfl, rfl, ⟨[U 1], [Vs (some ⟨l, 0, none⟩) 1 1, Vs (some ⟨m, 0, none⟩) 1 1], rfl, rfl, ⟨[Vs (some ⟨l, 0, none⟩) 1 1], [Vs (some ⟨m, 0, none⟩) 1 1], rfl, ⟨_, rfl, (aV.mono (Zt (Zt (Zt (Zt k h) d) b) a))⟩, ⟨_, rfl, (aW.mono (Zt (Zt (Zt h d) b) a))⟩⟩⟩⟩, ⟨[Value.string (⟨#[]⟩), U 1, Vs (some ⟨i, 0, none⟩) 2 2, Vs (some ⟨j, 0, none⟩) 1 1], [Value.string (⟨#[]⟩), U 1, Vs (some ⟨f, 0, none⟩) 2 2, Vs (some ⟨g, 0, none⟩) 1 1], rfl, ⟨[Value.string (⟨#[]⟩)], [U 1, Vs (some ⟨i, 0, none⟩) 2 2, Vs (some ⟨j, 0, none⟩) 1 1], rfl, rfl, ⟨[U 1], [Vs (some ⟨i, 0, none⟩) 2 2, Vs (some ⟨j, 0, none⟩) 1 1], rfl, rfl, ⟨[Vs (some ⟨i, 0, none⟩) 2 2], [Vs (some ⟨j, 0, none⟩) 1 1], rfl, ⟨_, rfl, (aX.mono (Zt (Zt d b) a))⟩, ⟨_, rfl, (aY.mono (Zt b a))⟩⟩⟩⟩, ⟨[Value.string (⟨#[]⟩), U 1, Vs (some ⟨f, 0, none⟩) 2 2, Vs (some ⟨g, 0, none⟩) 1 1], [], rfl, ⟨[Value.string (⟨#[]⟩)], [U 1, Vs (some ⟨f, 0, none⟩) 2 2, Vs (some ⟨g, 0, none⟩) 1 1], rfl, rfl, ⟨[U 1], [Vs (some ⟨f, 0, none⟩) 2 2, Vs (some ⟨g, 0, none⟩) 1 1], rfl, rfl, ⟨[Vs (some ⟨f, 0, none⟩) 2 2], [Vs (some ⟨g, 0, none⟩) 1 1], rfl, ⟨_, rfl, (aZ.mono a)⟩, ⟨_, rfl, ba⟩⟩⟩⟩, rfl⟩⟩⟩⟩ (by simp [maxLen])
 obtain ⟨bb, u, aQ, aj⟩ := aP.freezeArr
 refine O Z Z (Exec.build Z (Qb (c := [Vs (some ⟨y, 0, none⟩) 2 2]) (Qi Z Z) (Qb (c := [Vs (some ⟨z, 0, none⟩) 2 2]) (Qi Z Z) (Qb (c := [Vs (some ⟨aa, 0, none⟩) 1 1]) (Qi Z Z) (Qb (c := [Vs (some ⟨ab, 0, none⟩) 4 4]) (Qi Z Z) Qx)))) (v := Value.agg #[Vs (some ⟨y, 0, none⟩) 2 2, Vs (some ⟨z, 0, none⟩) 2 2, Vs (some ⟨aa, 0, none⟩) 1 1, Vs (some ⟨ab, 0, none⟩) 4 4]) (fun _ => by kernel_rfl) (O Z Z (Qf (ds := [Vs (some ⟨y, 0, none⟩) 2 2, Vs (some ⟨z, 0, none⟩) 2 2, Vs (some ⟨aa, 0, none⟩) 1 1, Vs (some ⟨ab, 0, none⟩) 4 4]) (es := [Vs (some ⟨y, 0, none⟩) 2 2, Vs (some ⟨z, 0, none⟩) 2 2, Vs (some ⟨aa, 0, none⟩) 1 1, Vs (some ⟨ab, 0, none⟩) 4 4]) aQ A26 Z Z Z Z (Zj ((ag.mono (Zt (Zt (Zt (Zt (Zt (Zt (Zt (Zt (Zt (Zt ae ac) t) q) n) k) h) d) b) a) u))).one (Zj ((ah.mono (Zt (Zt (Zt (Zt (Zt (Zt (Zt (Zt (Zt ac t) q) n) k) h) d) b) a) u))).one (Zj ((ai.mono (Zt (Zt (Zt (Zt (Zt (Zt (Zt (Zt t q) n) k) h) d) b) a) u))).one (Zj aj.one Q6)))) (Nat.le_of_ble_eq_true Z) Z ?_)))
 intro b3 af
 refine Zb (V (Q1 ?_))
 have bd := Zu hm
 subst r
 refine ⟨_, QnM Z ⟨_, _, Z, JY (af) A26⟩, ?_⟩
 have aR := af.drop
 exact ⟨bb, (Vs (some ⟨y, 0, none⟩) 2 2), (Vs (some ⟨z, 0, none⟩) 2 2), (Vs (some ⟨aa, 0, none⟩) 1 1), (Vs (some ⟨ab, 0, none⟩) 4 4), (Zt (Zt (Zt (Zt (Zt (Zt (Zt (Zt (Zt (Zt (Zt aS ae) ac) t) q) n) k) h) d) b) a) u), aR, Z, (ag.mono (Zt (Zt (Zt (Zt (Zt (Zt (Zt (Zt (Zt (Zt ae ac) t) q) n) k) h) d) b) a) u)), (ah.mono (Zt (Zt (Zt (Zt (Zt (Zt (Zt (Zt (Zt ac t) q) n) k) h) d) b) a) u)), (ai.mono (Zt (Zt (Zt (Zt (Zt (Zt (Zt (Zt t q) n) k) h) d) b) a) u)), aj⟩
theorem Yk : Jk Tryz.prog 26 0 = some 0 := by kernel_rfl
theorem A22 : JI Tryz.prog 22 = some (false, 1) := by kernel_rfl
theorem Jt : Jb Tryz.prog 22 = some (3, 1, 8) := by kernel_rfl
theorem Qaa : Jk Tryz.prog 26 3 = some 3 := by kernel_rfl
theorem A24 : JI Tryz.prog 24 = some (false, 1) := by kernel_rfl
theorem S24 : Jb Tryz.prog 24 = some (60, 4, 72) := by kernel_rfl
theorem A60 : JI Tryz.prog 60 = some (true, 4) := by kernel_rfl
theorem Z60 : JA Tryz.prog 60 = some (Value.agg #[Value.string ⟨#[]⟩, U 0, Value.slice none 0 0, Value.slice none 0 0]) := by kernel_rfl
theorem QdY : Jk Tryz.prog 60 3 = some 3 := by kernel_rfl
theorem A58 : JI Tryz.prog 58 = some (false, 1) := by kernel_rfl
theorem S58 : Jb Tryz.prog 58 = some (95, 3, 40) := by kernel_rfl
theorem QjI : Jk Tryz.prog 26 2 = some 2 := by kernel_rfl
theorem A23 : JI Tryz.prog 23 = some (false, 1) := by kernel_rfl
theorem Qii : Jk Tryz.prog 60 2 = some 2 := by kernel_rfl
theorem S98 : Jb Tryz.prog 98 = some (23, 1, 24) := by kernel_rfl
theorem Z23 : JA Tryz.prog 23 = some (Value.slice none 0 0) := by kernel_rfl
theorem A95 : JI Tryz.prog 95 = some (true, 3) := by kernel_rfl
theorem Z95 : JA Tryz.prog 95 = some (Value.agg #[Value.slice none 0 0, U 0, U 0]) := by kernel_rfl
theorem Qih : Jk Tryz.prog 95 0 = some 0 := by kernel_rfl
theorem N49 : (Tryz.f49.name == "runtime.NumGoroutine") = false := by kernel_rfl
theorem Qbq {w0 w : World} {s : PHeap} {H : List Res} {a : Task} {ab : Value} {ac : Value} {g : Value} {n : Value} {r : (List (List Fact))} (hm : Kw a = some r) (hS : St w0 s (H) w) (bw : SliceRep (Qa .i64) s ab a.Vars) (bx : SliceRep (Qa .i64) s ac a.Init) (af : SliceRep encFact s g a.Goal) (q : SliceRep encOp s n a.Ops) :
  Calls Tryz.prog 49 #[Value.agg #[ab, ac, g, n]] w fun e w' => ∃ v, e = .returned v ∧ ((fun (bv : (List (List Fact))) => ∃ (z : PHeap) (a0 : Value), PHeap.le s z ∧ St w0 z (H) w' ∧ v = a0 ∧ SliceRep (QE encFact) z a0 bv) r) := by
 unfold Kw at hm
 refine Qy Tryz.func49 Z Z (Zc (Zd (O Z Z (Exec.box (cs := [ab, ac, g, n]) hS Z Z Z ?_))))
 intro bz bM ah
 refine O Z Z (Zo (v := Vs none 0 0) Z Z (Zb (V (Zc (Zd (O Z Z (Zp QjI Z Z Z (O Z Z (Zn (ah) A23 Z Z Z (O Z Z (Exec.buildSlice (Te := 23) (cs := [g]) ah Z (Qb (c := [g]) (Qi Z (QV af.one)) Qx) (fun _ => by kernel_rfl) ?_)))))))))))
 intro ag bN ai
 refine O Z Z (Zo (v := Vs (some ⟨ag, 0, none⟩) 1 1) Z Z (Zb (V (Zc (Zc (Zd (O Z Z (Zp Qaa Z Z Z (O Z Z (Zn (ai.f1) A24 Z Z Z (O Z Z (Zr S24 Z Z q (O Z Z (Zm (v := U 0) Z Z (Zb (V ?_))))))))))))))))
 obtain ⟨u, a5, hm⟩ := Zg hm
 refine Qm (J3 (fun k' s' f' w' => (fun (u : (List (List Fact))) => ∃ (ax : PHeap) (b : Value), PHeap.le s ax ∧ St w0 ax (Res.arr (QE encFact) 23 b u :: H) w' ∧ f' 3 = b ∧ f' 12 = n ∧ f' 13 = U ((a.Ops.length : Int)) ∧ f' 14 = U (k' : Int)) s') a5 ?_ ?_ ?_)
 ·have aB := St.boxArr (E := (QE encFact)) (xs := [a.Goal]) ai ⟨[g], [], rfl, ⟨_, rfl, af⟩, rfl⟩ (by simp [maxLen])
  have aC := (aB.f1).drop
  exact ⟨s, (Vs (some ⟨ag, 0, none⟩) 1 1), (Zv _), aC, Z, Z, Z, Z⟩
 ·intro ao u bo b9 bO aP a7 d
  obtain ⟨ay, b, ap, aj, aV, ar, au, ad⟩ := a7
  refine Zc (Zd (O Z Z (Zq Z ad au (Zb (V (Zc (QK (Zx (decide_eq_true (by omega))) (Qp (V (Zc (Qm (Zc (Zd ?_)))))))))))))
  obtain ⟨i, bh, d⟩ := Zg d
  refine O Z Z (Qu S24 Z ar ad (q.mono ap) bh ?_)
  intro b0 bF a3
  refine O Z Z (Zw (E := encOp) aj A60 Z Z Z a3 ?_)
  intro bK bi
  obtain ⟨l, aa, rfl, x, p⟩ := Y8.1 bi
  refine O Z Z (Exec.alloc (cs := [Value.string (⟨#[]⟩), U 0, Vs none 0 0, Vs none 0 0]) aj Z60 Z Z ?_)
  intro b1 bP aD
  refine O Z Z (Qf (ds := [Value.string (i.Name), U (i.Cost), l, aa]) (es := [Value.string (i.Name), U (i.Cost), l, aa]) aD A60 Z Z Z Z (Zj Z (Zj Z (Zj x.one (Zj p.one Q6)))) (Nat.le_of_ble_eq_true Z) Z ?_)
  intro bQ ak
  refine Zb (V (Zc (Zd (O Z Z (Zm (v := b) Z aV (O Z Z (Zp Qii Z Z Z (O Z Z (Zn (ak) A23 Z Z Z (O Z Z (Exec.buildSlice (Te := 23) (cs := [l]) ak Z (Qb (c := [l]) (Qi Z (QV x.one)) Qx) (fun _ => by kernel_rfl) ?_)))))))))))
  intro b2 bR aE
  obtain ⟨bD, bj, d⟩ := Zg d
  have aF := aE.f2
  refine O Z Z (QR (E := (QE encFact)) (ys := [i.Pre]) aF S98 Z23 Z (by decide) Z Z Z Z ⟨[l], [], Z, ⟨_, Z, x⟩, Z⟩ Z bj ?_)
  intro a1 bS al
  refine O Z Z (Zo (v := a1) Z Z (Zb (V (Zc (Zd (O Z Z (Zp QdY Z Z Z (O Z Z (Zn (al.f1) A58 Z Z Z (O Z Z (Zr S58 Z Z p (O Z Z (Zm (v := U 0) Z Z (Zb (V ?_)))))))))))))))
  obtain ⟨t, a6, d⟩ := Zg d
  refine Qm (J3 (fun k' s' f' w' => (fun (t : (List (List Fact))) => ∃ (az : PHeap) (h : Value), PHeap.le ay az ∧ St w0 az (Res.arr (QE encFact) 23 h t :: H) w' ∧ f' 3 = h ∧ f' 12 = n ∧ f' 13 = U ((a.Ops.length : Int)) ∧ f' 14 = U ((ao : Int)) ∧ f' 24 = aa ∧ f' 25 = U ((i.Effs.length : Int)) ∧ f' 26 = U (k' : Int)) s') a6 ?_ ?_ ?_)
  ·have aG := (al.f1).drop
   exact ⟨ay, a1, (Zv _), aG, Z, ar, au, ad, Z, Z, Z⟩
  ·intro aR t bp bA bT aQ a8 j
   obtain ⟨bq, h, aq, am, aW, aX, aY, aZ, av, aw, ae⟩ := a8
   refine Zc (Zd (O Z Z (Zq Z ae aw (Zb (V (Zc (QK (Zx (decide_eq_true (by omega))) (Qp (V (Zc (Qm (Zc (Zd ?_)))))))))))))
   obtain ⟨o, bk, j⟩ := Zg j
   refine O Z Z (Qu S58 Z av ae (p.mono aq) bk ?_)
   intro b3 bG a4
   refine O Z Z (Zw (E := encEffect) am A95 Z Z Z a4 ?_)
   intro bL bl
   obtain ⟨m, rfl, y⟩ := Yv.1 bl
   refine O Z Z (Exec.alloc (cs := [Vs none 0 0, U 0, U 0]) am Z95 Z Z ?_)
   intro b4 bU aH
   refine O Z Z (Qf (ds := [m, U (o.Var), U (o.Val)]) (es := [m, U (o.Var), U (o.Val)]) aH A95 Z Z Z Z (Zj y.one (Zj Z (Zj Z Q6))) (Nat.le_of_ble_eq_true Z) Z ?_)
   intro bV an
   refine Zb (V (Zd (O Z Z (Zm (v := h) Z aW (O Z Z (Zp Qih Z Z Z (O Z Z (Zn (an) A23 Z Z Z (O Z Z (Exec.buildSlice (Te := 23) (cs := [m]) an Z (Qb (c := [m]) (Qi Z (QV y.one)) Qx) (fun _ => by kernel_rfl) ?_))))))))))
   intro b5 bW aI
   obtain ⟨bE, bm, j⟩ := Zg j
   have aJ := aI.f2
   refine O Z Z (QR (E := (QE encFact)) (ys := [o.When]) aJ S98 Z23 Z (by decide) Z Z Z Z ⟨[m], [], Z, ⟨_, Z, y⟩, Z⟩ Z bm ?_)
   intro a2 bX aK
   refine O Z Z (Zo (v := a2) Z Z (Zb (Qz (V (Zd (O Z Z (Exec.add Z ae Z (O Z Z (Zm (v := U (IntKind.i64.wrap ((aR : Int) + 1))) Z Z (Zb (V ?_)))))))))))
   have b6 := Zu j
   subst bp
   have aL := (aK.f1).drop
   exact ⟨bq, a2, aq, aL, Z, aX, aY, aZ, av, aw, (Eq.trans Z (QB aQ (SliceRep.le p)))⟩
  intro bB bY a9
  obtain ⟨br, h, aS, aM, ba, bb, bc, bd, bH, be, bt⟩ := a9
  refine Zc (Zd (O Z Z (Zq Z bt be (Zb (V (Zc (QA (Zx (decide_eq_false (by omega))) (QF (Ql (Ql (Q7 (Qz (V (Zd (O Z Z (Exec.add Z bd Z (O Z Z (Zm (v := U (IntKind.i64.wrap ((ao : Int) + 1))) Z Z (Zb (V ?_))))))))))))))))))))
  have b7 := Zu d
  subst bo
  exact ⟨br, h, (Zt ap aS), aM, ba, bb, bc, (Eq.trans Z (QB aP (SliceRep.le q)))⟩
 intro bC bZ aA
 obtain ⟨bJ, b, aT, aN, bf, bI, bg, bu⟩ := aA
 refine Zc (Zd (O Z Z (Zq Z bu bg (Zb (V (Zc (QA (Zx (decide_eq_false (by omega))) (QF (Ql (Ql (Q7 (V (Zc (Zd (O Z Z (Zm (v := b) Z bf (O Z Z (Zo (v := b) Z Z (Zb (V (Q1 ?_)))))))))))))))))))))
 have b8 := Zu hm
 subst r
 refine ⟨_, QX Z, ?_⟩
 obtain ⟨bs, aU, aO, bn⟩ := aN.freezeArr
 exact ⟨bs, b, (Zt aT aU), aO, Z, bn⟩
theorem S23 : Jb Tryz.prog 23 = some (90, 2, 16) := by kernel_rfl
theorem N71 : (Tryz.f71.name == "runtime.NumGoroutine") = false := by kernel_rfl
theorem Qey {w0 w : World} {s : PHeap} {H : List Res} {a : (List Fact)} {b : Value} {r : Bool} (hm : Yn a = some r) (hS : St w0 s (H) w) (d : SliceRep encFact s b a) :
  Calls Tryz.prog 71 #[b] w fun e w' => ∃ v, e = .returned v ∧ ((fun (f : Bool) => ∃ (c : PHeap) , PHeap.le s c ∧ St w0 c (H) w' ∧ v = Value.bool (f)) r) := by
 unfold Yn at hm
 refine Qy Tryz.func71 Z Z (Zc (Zd (O Z Z (Zo (v := Vb false) Z Z (Zb (V (Zc (Zd (O Z Z (Zm (v := b) Z Z (O Z Z (Zr S23 Z Z d (O Z Z (Exec.gtr Z Z Z (O Z Z (Zo (v := Vb (decide (64 < (a.length : Int)))) Z Z (Zb (V (Q1 ?_)))))))))))))))))))
 have g := Zu hm
 subst r
 refine ⟨_, QX Z, ?_⟩
 exact ⟨s, (Zv _), hS, Z⟩
theorem N92 : (Tryz.f92.name == "runtime.NumGoroutine") = false := by kernel_rfl
theorem Qdi {w0 w : World} {s : PHeap} {H : List Res} {g : (List (List Fact))} {c : Value} {r : Int} (hm : KE g = some r) (hS : St w0 s (H) w) (i : SliceRep (QE encFact) s c g) :
  Calls Tryz.prog 92 #[c, Value.func (.func 71) #[] #[]] w fun e w' => ∃ v, e = .returned v ∧ ((fun (a5 : Int) => ∃ (aa : PHeap) , PHeap.le s aa ∧ St w0 aa (H) w' ∧ v = U a5) r) := by
 unfold KE at hm
 refine Qy Tryz.func92 Z Z (Zc (Zd (O Z Z (Zo (v := U 0) Z Z (Zb (V (Zc (Zc (Zd (O Z Z (Zm (v := c) Z Z (O Z Z (Zr S98 Z Z i (O Z Z (Zm (v := U 0) Z Z (Zb (V ?_)))))))))))))))))
 obtain ⟨m, af, ap, an, al⟩ := QO hm
 refine QJ (M := fun f' w' => ∃ s', (m = .next s' ∨ m = .brk s') ∧ (fun (_ : Unit) => ∃ (ab : PHeap) , PHeap.le s ab ∧ St w0 ab (H) w' ∧ f' 0 = c ∧ f' 1 = Value.func (.func 71) #[] #[] ∧ f' 7 = U ((g.length : Int))) s') ?_ ?_
 ·refine Qm (J4 (fun k' s' f' w' => (fun (_ : Unit) => ∃ (ac : PHeap) , PHeap.le s ac ∧ St w0 ac (H) w' ∧ f' 0 = c ∧ f' 1 = Value.func (.func 71) #[] #[] ∧ f' 7 = U ((g.length : Int)) ∧ f' 8 = U (k' : Int)) s') af ?_ ?_ ?_)
  ·exact ⟨s, (Zv _), hS, Z, Z, Z, Z⟩
  ·intro b aJ n aB aN am ag a aq
   obtain ⟨aI, j, o, u, x, y, l⟩ := ag
   refine Zc (Zd (O Z Z (Zq Z l y (Zb (V (Zc (QK (Zx (decide_eq_true (by omega))) (Qp (V (Zc (Qm (Zc (Zd (O Z Z (Zm (v := U ((b : Int))) Z l (O Z Z (Zo (v := U ((b : Int))) Z Z (Zb (V (Zc (Zd (O Z Z (Zm (v := Value.func (.func 71) #[] #[]) Z x (O Z Z (Zm (v := c) Z u (O Z Z (Zm (v := U ((b : Int))) Z Z ?_)))))))))))))))))))))))))))
   obtain ⟨a3, ay, a⟩ := Zg a
   refine O Z Z (Qu S98 Z Z Z (i.mono j) ay ?_)
   intro a6 aE ae
   refine O Z Z (Zw (E := (QE encFact)) o A23 Z Z Z ae ?_)
   intro aM az
   have a0 := Jw.1 az
   refine O Z Z (Qj7 Z Z Tryz.func71 Z N71 (Zi Z Qk) ((Qey (QbW a3) o a0).mono ?_))
   rintro _ aO ⟨_, rfl, ⟨ad, t, p, rfl⟩⟩
   refine ⟨_, Z, ?_⟩
   refine Zb (V ?_)
   rcases Qg a with ⟨d, a⟩ | ⟨d, a⟩
   ·refine Qv Z d (Zc (Zd (O Z Z (Zm (v := U ((b : Int))) Z Z (O Z Z (Zo (v := U ((b : Int))) Z Z (Zb (V (Q1 (QD (Qj (Qj (QD (Qj (Qj ?_)))))))))))))))
    have a7 := Zu a
    subst n
    have ao := ap _ (aq (by intro _ h; cases h))
    have a8 := Zu ao
    subst r
    refine ⟨_, QX Z, ?_⟩
    exact ⟨ad, (Zt j t), p, Z⟩
   refine Qw Z d ?_
   replace d := Zk d
   refine Qp (Qz (V (Zd (O Z Z (Exec.add Z l Z (O Z Z (Zm (v := U (IntKind.i64.wrap ((b : Int) + 1))) Z Z (Zb (V ?_)))))))))
   have a9 := Zu a
   subst n
   refine ⟨_, Z, ?_⟩; exact ⟨ad, (Zt j t), p, u, x, y, (Eq.trans Z (QB am (SliceRep.le i)))⟩
  intro aK aC aP ah ar
  obtain ⟨a1, au, aj, aw, ax, z, a4⟩ := ah
  refine Zc (Zd (O Z Z (Zq Z a4 z (Zb (V (Zc (QA (Zx (decide_eq_false (by omega))) (QF (Ql (Ql (Q7 (V ?_))))))))))))
  refine ⟨_, .inl ar, ?_⟩; exact ⟨a1, au, aj, aw, ax, z⟩
 rintro aD aQ ⟨aL, q, ai⟩
 have hm := q.elim (an _) (al _)
 clear q
 obtain ⟨a2, av, ak, aF, aG, aH⟩ := ai
 refine (V (Zc (Zd (O Z Z (Zo (v := U ((-1))) Z Z (Zb (V (Q1 ?_))))))))
 have aA := Zu hm
 subst r
 refine ⟨_, QX Z, ?_⟩
 exact ⟨a2, av, ak, Z⟩
theorem N70 : (Tryz.f70.name == "runtime.NumGoroutine") = false := by kernel_rfl
theorem Qe4 {w0 w : World} {s : PHeap} {H : List Res} {c : (List (List Fact))} {a : Value} {r : Bool} (hm : Yt c = some r) (hS : St w0 s (H) w) (d : SliceRep (QE encFact) s a c) :
  Calls Tryz.prog 70 #[a, Value.func (.func 71) #[] #[]] w fun e w' => ∃ v, e = .returned v ∧ ((fun (j : Bool) => ∃ (b : PHeap) , PHeap.le s b ∧ St w0 b (H) w' ∧ v = Value.bool (j)) r) := by
 unfold Yt at hm
 refine Qy Tryz.func70 Z Z (Zc (Zd (O Z Z (Zo (v := Vb false) Z Z (Zb (V (Zc (Zd (O Z Z (Zm (v := a) Z Z (O Z Z (Zm (v := Value.func (.func 71) #[] #[]) Z Z ?_))))))))))))
 obtain ⟨k, h, hm⟩ := Zg hm
 refine O Z Z (Exec.call Z Z Tryz.func92 Z N92 (Zi Z (Zi Z Qk)) ((Qdi h hS d).mono ?_))
 rintro _ m ⟨_, rfl, ⟨i, g, f, rfl⟩⟩
 refine ⟨_, Z, ?_⟩
 refine O Z Z (Exec.geq Z Z Z (O Z Z (Zo (v := Vb (decide (0 ≤ k))) Z Z (Zb (V (Q1 ?_))))))
 have l := Zu hm
 subst r
 refine ⟨_, QX Z, ?_⟩
 exact ⟨i, g, f, Z⟩
theorem N48 : (Tryz.f48.name == "runtime.NumGoroutine") = false := by kernel_rfl
theorem Qgq {w0 w : World} {s : PHeap} {H : List Res} {a : Task} {i : Value} {j : Value} {l : Value} {d : Value} {r : Bool} (hm : Qat a = some r) (hS : St w0 s (H) w) (ac : SliceRep (Qa .i64) s i a.Vars) (ay : SliceRep (Qa .i64) s j a.Init) (az : SliceRep encFact s l a.Goal) (n : SliceRep encOp s d a.Ops) :
  Calls Tryz.prog 48 #[Value.agg #[i, j, l, d]] w fun e w' => ∃ v, e = .returned v ∧ ((fun (bc : Bool) => ∃ (ao : PHeap) , PHeap.le s ao ∧ St w0 ao (H) w' ∧ v = Value.bool (bc)) r) := by
 unfold Qat at hm
 refine Qy Tryz.func48 Z Z (Zc (Zd (O Z Z (Exec.box (cs := [i, j, l, d]) hS Z Z Z ?_))))
 intro m b0 t
 refine O Z Z (Zo (v := Vb false) Z Z (Zb (V (Zc (Zc (QJ (M := fun f' w' => ∃ (ap : PHeap) , PHeap.le s ap ∧ St w0 ap (Res.box m 26 [i, j, l, d] :: H) w' ∧ f' 1 = Vp (some ⟨m, 0, none⟩) ∧ f' 14 = Vb (((decide (64 < (a.Vars.length : Int))) || decide (4096 < (a.Ops.length : Int))))) ?_ ?_))))))
 ·refine Zd (O Z Z (Zp Yk Z Z Z (O Z Z (Zn (t) A22 Z Z Z (O Z Z (Zr Jt Z Z ac (O Z Z (Exec.gtr Z Z Z (O Z Z (Zm (v := Vb (decide (64 < (a.Vars.length : Int)))) Z Z ?_))))))))))
  by_cases b : (decide (64 < (a.Vars.length : Int))) = true
  ·refine Q0 5 (by rw [b]; rfl) ?_
   refine Zb (V ?_)
   exact ⟨s, (Zv _), t, Z, (Zx (QdV b)).symm⟩
  replace b := Zk b
  refine Qo Z (Zf Z (Zx b)) Z (Zp Qaa Z Z Z (Qo Z (Zf Z (Zx b)) Z (Zn (t) A24 Z Z Z (Qo Z (Zf Z (Zx b)) Z (Zr S24 Z Z n (Qo Z (Zf Z (Zx b)) Z (Exec.gtr Z Z Z (O Z Z (Q5 (v := Vb (decide (4096 < (a.Ops.length : Int)))) Z (Zx b) Z (Zb (V ?_)))))))))))
  exact ⟨s, (Zv _), t, Z, (Zx (Qaj b)).symm⟩
 intro bl b1 a3
 obtain ⟨u, c, y, ai, aj⟩ := a3
 refine (V ?_)
 rcases Qg hm with ⟨o, hm⟩ | ⟨o, hm⟩
 ·refine Qv aj o (Zc (Zd (O Z Z (Zo (v := Vb true) Z Z (Zb (V (Q1 (Qj ?_))))))))
  have bg := Zu hm
  subst r
  refine ⟨_, QX Z, ?_⟩
  have a5 := y.drop
  exact ⟨u, c, a5, Z⟩
 refine Qw aj o ?_
 replace o := Zk o
 refine Qp (V (Zc (Zc (Zd (O Z Z (Zp Qaa Z ai Z (O Z Z (Zn (y) A24 Z Z Z (O Z Z (Zr S24 Z Z (n.mono c) (O Z Z (Zm (v := U 0) Z Z (Zb (V ?_))))))))))))))
 obtain ⟨ad, a0, aI, aG, aE⟩ := QO hm
 refine QJ (M := fun f' w' => ∃ s', (ad = .next s' ∨ ad = .brk s') ∧ (fun (_ : Unit) => ∃ (aq : PHeap) , PHeap.le u aq ∧ St w0 aq (Res.box m 26 [i, j, l, d] :: H) w' ∧ f' 1 = Vp (some ⟨m, 0, none⟩) ∧ f' 16 = d ∧ f' 17 = U ((a.Ops.length : Int))) s') ?_ ?_
 ·refine Qm (J4 (fun k' s' f' w' => (fun (_ : Unit) => ∃ (ar : PHeap) , PHeap.le u ar ∧ St w0 ar (Res.box m 26 [i, j, l, d] :: H) w' ∧ f' 1 = Vp (some ⟨m, 0, none⟩) ∧ f' 16 = d ∧ f' 17 = U ((a.Ops.length : Int)) ∧ f' 18 = U (k' : Int)) s') a0 ?_ ?_ ?_)
  ·exact ⟨u, (Zv _), y, ai, Z, Z, Z⟩
  ·intro aL bu ae bm b2 aF a1 g aJ
   obtain ⟨au, aa, af, aP, ak, al, ab⟩ := a1
   refine Zc (Zd (O Z Z (Zq Z ab al (Zb (V (Zc (QK (Zx (decide_eq_true (by omega))) (Qp (V (Zc (Qm (Zc (Zd ?_)))))))))))))
   obtain ⟨x, aT, g⟩ := Zg g
   refine O Z Z (Qu S24 Z ak ab (n.mono (Zt c aa)) aT ?_)
   intro be bp ax
   refine O Z Z (Zw (E := encOp) af A60 Z Z Z ax ?_)
   intro bx aU
   obtain ⟨av, aw, rfl, aX, an⟩ := Y8.1 aU
   refine O Z Z (Exec.alloc (cs := [Value.string (⟨#[]⟩), U 0, Vs none 0 0, Vs none 0 0]) af Z60 Z Z ?_)
   intro bf b3 a6
   refine O Z Z (Qf (ds := [Value.string (x.Name), U (x.Cost), av, aw]) (es := [Value.string (x.Name), U (x.Cost), av, aw]) a6 A60 Z Z Z Z (Zj Z (Zj Z (Zj aX.one (Zj an.one Q6)))) (Nat.le_of_ble_eq_true Z) Z ?_)
   intro b4 z
   refine Zb (V (Zc (Zd (O Z Z (Zp QdY Z Z Z (O Z Z (Zn (z) A58 Z Z Z (O Z Z (Zr S58 Z Z an (O Z Z (Exec.gtr Z Z Z (Zb (V ?_)))))))))))))
   rcases Qg g with ⟨p, g⟩ | ⟨p, g⟩
   ·refine Qv Z p (Zc (Zd (O Z Z (Zo (v := Vb true) Z Z (Zb (V (Q1 (QD (Qj (Qj (QD (Qj (Qj ?_)))))))))))))
    have bh := Zu g
    subst ae
    have aH := aI _ (aJ (by intro _ h; cases h))
    have bi := Zu aH
    subst r
    refine ⟨_, QX Z, ?_⟩
    have a7 := z.drop
    have a8 := a7.drop
    exact ⟨au, (Zt c aa), a8, Z⟩
   refine Qw Z p ?_
   replace p := Zk p
   refine Qp (Qz (V (Zd (O Z Z (Exec.add Z ab Z (O Z Z (Zm (v := U (IntKind.i64.wrap ((aL : Int) + 1))) Z Z (Zb (V ?_)))))))))
   have bj := Zu g
   subst ae
   have a9 := z.drop
   refine ⟨_, Z, ?_⟩; exact ⟨au, aa, a9, aP, ak, al, (Eq.trans Z (QB aF (SliceRep.le (n.mono c))))⟩
  intro bv bn b5 a2 aK
  obtain ⟨aZ, aM, aA, aQ, aR, am, bb⟩ := a2
  refine Zc (Zd (O Z Z (Zq Z bb am (Zb (V (Zc (QA (Zx (decide_eq_false (by omega))) (QF (Ql (Ql (Q7 (V ?_))))))))))))
  refine ⟨_, .inl aK, ?_⟩; exact ⟨aZ, aM, aA, aQ, aR, am⟩
 rintro bo b6 ⟨bw, ah, a4⟩
 have hm := ah.elim (aG _) (aE _)
 clear ah
 obtain ⟨bs, q, ag, aS, bq, br⟩ := a4
 refine (V (Zc (Zd (O Z Z (Qn (ds := [i, j, l, d]) (ag) A26 Z aS Z ?_)))))
 obtain ⟨b9, aV, hm⟩ := Zg hm
 refine O Z Z (Exec.call Z Z Tryz.func49 Z N49 (Zi Z Qk) ((Qbq aV ag (ac.mono (Zt c q)) (ay.mono (Zt c q)) (az.mono (Zt c q)) (n.mono (Zt c q))).mono ?_))
 rintro _ b7 ⟨bz, rfl, ⟨bt, _, aN, aB, rfl, aY⟩⟩
 refine ⟨_, Z, ?_⟩
 obtain ⟨bd, aW, hm⟩ := Zg hm
 refine O Z Z (Exec.call Z Z Tryz.func70 Z N70 (Zi Z (Zi Z Qk)) ((Qe4 aW aB aY).mono ?_))
 rintro _ b8 ⟨_, rfl, ⟨ba, aO, aC, rfl⟩⟩
 refine ⟨_, Z, ?_⟩
 refine O Z Z (Zo (v := Vb bd) Z Z (Zb (V (Q1 ?_))))
 have bk := Zu hm
 subst r
 refine ⟨_, QX Z, ?_⟩
 have aD := aC.drop
 exact ⟨ba, (Zt (Zt (Zt c q) aN) aO), aD, Z⟩
theorem C50 : Tryz.prog.concrete 50 = true := by kernel_rfl
theorem A3 : JI Tryz.prog 3 = some (false, 1) := by kernel_rfl
theorem QgW : Jk Tryz.prog 60 1 = some 1 := by kernel_rfl
theorem Qlg : Jk Tryz.prog 26 1 = some 1 := by kernel_rfl
theorem N42 : (Tryz.f42.name == "runtime.NumGoroutine") = false := by kernel_rfl
theorem Qfl {w0 w : World} {s : PHeap} {H : List Res} {ao : (List Int)} {m : (List Int)} {d : Value} {g : Value} {r : Bool} (hm : YN ao m = some r) (hS : St w0 s (H) w) (ab : SliceRep (Qa .i64) s d ao) (q : SliceRep (Qa .i64) s g m) :
  Calls Tryz.prog 42 #[d, g] w fun e w' => ∃ v, e = .returned v ∧ ((fun (aN : Bool) => ∃ (aj : PHeap) , PHeap.le s aj ∧ St w0 aj (H) w' ∧ v = Value.bool (aN)) r) := by
 unfold YN at hm
 refine Qy Tryz.func42 Z Z (Zc (Zd (O Z Z (Zo (v := Vb false) Z Z (Zb (V (Zc (Zc (Zd (O Z Z (Zm (v := g) Z Z (O Z Z (Zr Jt Z Z q (O Z Z (Zm (v := d) Z Z (O Z Z (Zr Jt Z Z ab (O Z Z (Exec.neq Z Z Z (Zb (V ?_)))))))))))))))))))))
 rcases Qg hm with ⟨i, hm⟩ | ⟨i, hm⟩
 ·refine Qv Z i (Zc (Zd (O Z Z (Zo (v := Vb false) Z Z (Zb (V (Q1 (Qj ?_))))))))
  have aQ := Zu hm
  subst r
  refine ⟨_, QX Z, ?_⟩
  exact ⟨s, (Zv _), hS, Z⟩
 refine Qw Z i ?_
 replace i := Zk i
 refine Qp (V (Zc (Zc (Zd (O Z Z (Zm (v := g) Z Z (O Z Z (Zr Jt Z Z q (O Z Z (Zm (v := U 0) Z Z (Zb (V ?_))))))))))))
 obtain ⟨ac, ar, a4, a2, a0⟩ := QO hm
 refine QJ (M := fun f' w' => ∃ s', (ac = .next s' ∨ ac = .brk s') ∧ (fun (_ : Unit) => ∃ (ak : PHeap) , PHeap.le s ak ∧ St w0 ak (H) w' ∧ f' 0 = d ∧ f' 12 = g ∧ f' 13 = U ((m.length : Int))) s') ?_ ?_
 ·refine Qm (J4 (fun k' s' f' w' => (fun (_ : Unit) => ∃ (al : PHeap) , PHeap.le s al ∧ St w0 al (H) w' ∧ f' 0 = d ∧ f' 12 = g ∧ f' 13 = U ((m.length : Int)) ∧ f' 14 = U (k' : Int)) s') ar ?_ ?_ ?_)
  ·exact ⟨s, (Zv _), hS, Z, Z, Z, Z⟩
  ·intro l bg ad aX bl a1 au b a5
   obtain ⟨aa, u, t, x, y, z, n⟩ := au
   refine Zc (Zd (O Z Z (Zq Z n z (Zb (V (Zc (QK (Zx (decide_eq_true (by omega))) (Qp (V (Zc (Qm (Zc (Zd (O Z Z (Zm (v := U ((l : Int))) Z n ?_)))))))))))))))
   obtain ⟨o, aF, b⟩ := Zg b
   refine O Z Z (Qu Jt Z y n (q.mono u) aF ?_)
   intro aO bb ap
   refine O Z Z (Zw (E := (Qa .i64)) t A3 Z Z Z ap ?_)
   intro bj aG
   obtain rfl := Qs.1 aG
   refine O Z Z (Zo (v := U ((l : Int))) Z Z (O Z Z (Zo (v := U o) Z Z (Zb (V (Zc ?_))))))
   obtain ⟨p, c, b⟩ := Zg b
   refine QJ (M := fun f' w' => (fun (p : Bool) => ∃ (am : PHeap) , PHeap.le aa am ∧ St w0 am (H) w' ∧ f' 0 = d ∧ f' 12 = g ∧ f' 13 = U ((m.length : Int)) ∧ f' 14 = U ((l : Int)) ∧ f' 28 = Vb p) p) ?_ ?_
   ·refine Zd (O Z Z (Zm (v := U o) Z Z (O Z Z (Zq Z Z Z (O Z Z (Zm (v := Vb (decide (o < 0))) Z Z ?_))))))
    rcases Qg c with ⟨a, c⟩ | ⟨a, c⟩
    ·refine Q0 7 (by rw [a]; rfl) ?_
     refine Zb (V ?_)
     have aR := Zu c
     subst p
     exact ⟨aa, (Zv _), t, x, y, z, n, Z⟩
    replace a := Zk a
    refine Qo Z (Zf Z (Zx a)) Z (Zm (v := U o) Z Z (Qo Z (Zf Z (Zx a)) Z (Zm (v := d) Z x (Qo Z (Zf Z (Zx a)) Z (Zm (v := U ((l : Int))) Z Z ?_)))))
    obtain ⟨aL, aH, c⟩ := Zg c
    refine Qo Z (Zf Z (Zx a)) Z (Qu Jt Z Z Z (ab.mono u) aH ?_)
    intro aP bc aq
    refine Qo Z (Zf Z (Zx a)) Z (Zw (E := (Qa .i64)) t A3 Z Z Z aq ?_)
    intro bk aI
    obtain rfl := Qs.1 aI
    refine Qo Z (Zf Z (Zx a)) Z (Exec.geq Z Z Z (O Z Z (Q5 (v := Vb (decide (aL ≤ o))) Z (Zx a) Z (Zb (V ?_)))))
    have aS := Zu c
    subst p
    exact ⟨aa, (Zv _), t, x, y, z, n, Z⟩
   intro aY bm aw
   obtain ⟨an, ag, ae, a9, aA, aB, aC, ah⟩ := aw
   refine (V ?_)
   rcases Qg b with ⟨j, b⟩ | ⟨j, b⟩
   ·refine Qv ah j (Zc (Zd (O Z Z (Zo (v := Vb false) Z Z (Zb (V (Q1 (QD (Qj (Qj (QD (Qj (Qj ?_)))))))))))))
    have aT := Zu b
    subst ad
    have a3 := a4 _ (a5 (by intro _ h; cases h))
    have aU := Zu a3
    subst r
    refine ⟨_, QX Z, ?_⟩
    exact ⟨an, (Zt u ag), ae, Z⟩
   refine Qw ah j ?_
   replace j := Zk j
   refine Qp (Qz (V (Zd (O Z Z (Exec.add Z aC Z (O Z Z (Zm (v := U (IntKind.i64.wrap ((l : Int) + 1))) Z Z (Zb (V ?_)))))))))
   have aV := Zu b
   subst ad
   refine ⟨_, Z, ?_⟩; exact ⟨an, (Zt u ag), ae, a9, aA, aB, (Eq.trans Z (QB a1 (SliceRep.le q)))⟩
  intro bh aZ bn av a6
  obtain ⟨aJ, a7, ay, aD, aE, ai, aM⟩ := av
  refine Zc (Zd (O Z Z (Zq Z aM ai (Zb (V (Zc (QA (Zx (decide_eq_false (by omega))) (QF (Ql (Ql (Q7 (V ?_))))))))))))
  refine ⟨_, .inl a6, ?_⟩; exact ⟨aJ, a7, ay, aD, aE, ai⟩
 rintro ba bo ⟨bi, af, ax⟩
 have hm := af.elim (a2 _) (a0 _)
 clear af
 obtain ⟨aK, a8, az, bd, be, bf⟩ := ax
 refine (V (Zc (Zd (O Z Z (Zo (v := Vb true) Z Z (Zb (V (Q1 ?_))))))))
 have aW := Zu hm
 subst r
 refine ⟨_, QX Z, ?_⟩
 exact ⟨aK, a8, az, Z⟩
theorem A90 : JI Tryz.prog 90 = some (true, 2) := by kernel_rfl
theorem Z90 : JA Tryz.prog 90 = some (Value.agg #[U 0, U 0]) := by kernel_rfl
theorem K8 : Tryz.prog.follows .mixedOrders = true := by kernel_rfl
theorem Yj : Jk Tryz.prog 90 0 = some 0 := by kernel_rfl
theorem QdX : Jk Tryz.prog 90 1 = some 1 := by kernel_rfl
theorem N50 : (Tryz.f50.name == "runtime.NumGoroutine") = false := by kernel_rfl
theorem QcZ {w0 w : World} {s : PHeap} {H : List Res} {ac : (List Int)} {t : (List Fact)} {l : Value} {o : Value} {r : Bool} (hm : YA ac t = some r) (hS : St w0 s (H) w) (af : SliceRep (Qa .i64) s l ac) (ad : SliceRep encFact s o t) :
  Calls Tryz.prog 50 #[l, o] w fun e w' => ∃ v, e = .returned v ∧ ((fun (ba : Bool) => ∃ (aq : PHeap) , PHeap.le s aq ∧ St w0 aq (H) w' ∧ v = Value.bool (ba)) r) := by
 unfold YA at hm
 refine Qy Tryz.func50 Z Z (Zc (Zd (O Z Z (Zo (v := Vb false) Z Z (Zb (V (Zc (Zd (O Z Z (Zo (v := U ((-1))) Z Z (Zb (V (Zc (Zc (Zd (O Z Z (Zm (v := o) Z Z (O Z Z (Zr S23 Z Z ad (O Z Z (Zm (v := U 0) Z Z (Zb (V ?_)))))))))))))))))))))))
 obtain ⟨ah, az, aE, aC, aA⟩ := QO hm
 refine QJ (M := fun f' w' => ∃ s', (ah = .next s' ∨ ah = .brk s') ∧ (fun (an : Int) => ∃ (ar : PHeap) , PHeap.le s ar ∧ St w0 ar (H) w' ∧ f' 0 = l ∧ f' 5 = U an ∧ f' 8 = o ∧ f' 9 = U ((t.length : Int))) s') ?_ ?_
 ·refine Qm (J4 (fun k' s' f' w' => (fun (y : Int) => ∃ (au : PHeap) , PHeap.le s au ∧ St w0 au (H) w' ∧ f' 0 = l ∧ f' 5 = U y ∧ f' 8 = o ∧ f' 9 = U ((t.length : Int)) ∧ f' 10 = U (k' : Int)) s') az ?_ ?_ ?_)
  ·exact ⟨s, (Zv _), hS, Z, Z, Z, Z, Z⟩
  ·intro al y ai bm bz aB a0 j aF
   obtain ⟨ab, x, aj, n, aJ, z, aa, p⟩ := a0
   refine Zc (Zd (O Z Z (Zq Z p aa (Zb (V (Zc (QK (Zx (decide_eq_true (by omega))) (Qp (V (Zc (Qm (Zc (Zd ?_)))))))))))))
   obtain ⟨d, aS, j⟩ := Zg j
   refine O Z Z (Qu S23 Z z p (ad.mono x) aS ?_)
   intro bb bq ax
   refine O Z Z (Zw (E := encFact) aj A90 Z Z Z ax ?_)
   intro bw aT
   obtain rfl := Ye.1 aT
   refine O Z Z (Exec.alloc (cs := [U 0, U 0]) aj Z90 Z Z ?_)
   intro ag b0 a4
   refine O Z Z (Qf (ds := [U (d.Var), U (d.Val)]) (es := [U (d.Var), U (d.Val)]) a4 A90 Z Z Z Z (Zj Z (Zj Z Q6)) (Nat.le_of_ble_eq_true Z) Z ?_)
   intro b1 a5
   refine Zb (V (Zc (Zc ?_)))
   obtain ⟨m, c, j⟩ := Zg j
   refine QJ (M := fun f' w' => (fun (m : Bool) => ∃ (av : PHeap) , PHeap.le ab av ∧ St w0 av (Res.box ag 90 [U (d.Var), U (d.Val)] :: H) w' ∧ f' 0 = l ∧ f' 7 = Vp (some ⟨ag, 0, none⟩) ∧ f' 8 = o ∧ f' 9 = U ((t.length : Int)) ∧ f' 10 = U ((al : Int)) ∧ f' 39 = Vb m) m) ?_ ?_
   ·refine K3 (n0 := 26) (.q 0 (.q 1 (.q 2 (.q 3 (.q 4 (.q 5 (.q 6 (.q 7 (.q 8 (.q 9 (.q 10 (.q 11 (.q 12 (.q 13 (.q 14 (.q 15 (.q 16 (.q 17 (.q 18 (.q 19 (.q 20 (.q 21 (.q 22 (.q 23 (.q 24 (.q 25 .done)))))))))))))))))))))))))) K8 (by kernel_rfl) (by kernel_rfl) ?_
    have i := a5.drew
    refine Qh Z Z (Zp Yj Z Z Z ⟨Z, ?_⟩)
    refine Qh Z Z (Zn (i) A3 Z Z Z ⟨Z, ?_⟩)
    refine Qh Z Z (Zm (v := U y) Z aJ ⟨Z, ?_⟩)
    refine Qh Z Z (Exec.leq Z Z Z ⟨Z, ?_⟩)
    refine Qh Z Z (Zm (v := Vb (decide (d.Var ≤ y))) Z Z ⟨Z, ?_⟩)
    rcases Qg c with ⟨b, c⟩ | ⟨b, c⟩
    ·refine Qq Z Z (Zf Z (Zx b)) Z (Qq Z Z (Zf Z (Zx b)) Z (Qq Z Z (Zf Z (Zx b)) Z (Qq Z Z (Zf Z (Zx b)) Z (Qq Z Z (Zf Z (Zx b)) Z (Qh Z Z (Zs (v := Vb true) Z (Zx b) Z ⟨Z, ?_⟩))))))
     refine Qh Z Z (Zm (v := Vb true) Z Z ⟨Z, ?_⟩)
     refine Qq Z Z (Zf Z Z) Z (Qq Z Z (Zf Z Z) Z (Qq Z Z (Zf Z Z) Z (Qh Z Z (Zs (v := Vb true) Z Z Z ⟨Z, ?_⟩))))
     refine Qh Z Z (Zm (v := Vb true) Z Z ⟨Z, ?_⟩)
     refine Qq Z Z (Zf Z Z) Z (Qq Z Z (Zf Z Z) Z (Qq Z Z (Zf Z Z) Z (Qq Z Z (Zf Z Z) Z (Qq Z Z (Zf Z Z) Z (Qq Z Z (Zf Z Z) Z (Qq Z Z (Zf Z Z) Z (Qq Z Z (Zf Z Z) Z (Qh Z Z (Zs (v := Vb true) Z Z Z ⟨Z, ?_⟩)))))))))
     refine QC (Zb (V ?_))
     have bd := Zu c
     subst m
     exact ⟨ab, (Zv _), i, n, Z, z, aa, p, Z⟩
    replace b := Zk b
    refine Q9 Z Z (Zf Z (Zx b)) (Zp Yj Z Z Z ⟨Z, ?_⟩)
    refine Q9 Z Z (Zf Z (Zx b)) (Zn (i) A3 Z Z Z ⟨Z, ?_⟩)
    refine Q9 Z Z (Zf Z (Zx b)) (Zm (v := l) Z n ⟨Z, ?_⟩)
    refine Q9 Z Z (Zf Z (Zx b)) (Zr Jt Z Z (af.mono x) ⟨Z, ?_⟩)
    refine Q9 Z Z (Zf Z (Zx b)) (Exec.geq Z Z Z ⟨Z, ?_⟩)
    refine Qh Z Z (Q5 (v := Vb (decide ((ac.length : Int) ≤ d.Var))) Z (Zx b) Z ⟨Z, ?_⟩)
    refine Qh Z Z (Zm (v := Vb (decide ((ac.length : Int) ≤ d.Var))) Z Z ⟨Z, ?_⟩)
    rcases Qg c with ⟨g, c⟩ | ⟨g, c⟩
    ·refine Qq Z Z (Zf Z (Zx g)) Z (Qq Z Z (Zf Z (Zx g)) Z (Qq Z Z (Zf Z (Zx g)) Z (Qh Z Z (Zs (v := Vb true) Z (Zx g) Z ⟨Z, ?_⟩))))
     refine Qh Z Z (Zm (v := Vb true) Z Z ⟨Z, ?_⟩)
     refine Qq Z Z (Zf Z Z) Z (Qq Z Z (Zf Z Z) Z (Qq Z Z (Zf Z Z) Z (Qq Z Z (Zf Z Z) Z (Qq Z Z (Zf Z Z) Z (Qq Z Z (Zf Z Z) Z (Qq Z Z (Zf Z Z) Z (Qq Z Z (Zf Z Z) Z (Qh Z Z (Zs (v := Vb true) Z Z Z ⟨Z, ?_⟩)))))))))
     refine QC (Zb (V ?_))
     have be := Zu c
     subst m
     exact ⟨ab, (Zv _), i, n, Z, z, aa, p, Z⟩
    replace g := Zk g
    refine Q9 Z Z (Zf Z (Zx g)) (Zp QdX Z Z Z ⟨Z, ?_⟩)
    refine Q9 Z Z (Zf Z (Zx g)) (Zn (i) A3 Z Z Z ⟨Z, ?_⟩)
    refine Q9 Z Z (Zf Z (Zx g)) (Zq Z Z Z ⟨Z, ?_⟩)
    refine Qh Z Z (Q5 (v := Vb (decide (d.Val < 0))) Z (Zx g) Z ⟨Z, ?_⟩)
    refine Qh Z Z (Zm (v := Vb (decide (d.Val < 0))) Z Z ⟨Z, ?_⟩)
    rcases Qg c with ⟨a, c⟩ | ⟨a, c⟩
    ·refine Qq Z Z (Zf Z (Zx a)) Z (Qq Z Z (Zf Z (Zx a)) Z (Qq Z Z (Zf Z (Zx a)) Z (Qq Z Z (Zf Z (Zx a)) Z (Qq Z Z (Zf Z (Zx a)) Z (Qq Z Z (Zf Z (Zx a)) Z (Qq Z Z (Zf Z (Zx a)) Z (Qq Z Z (Zf Z (Zx a)) Z (Qh Z Z (Zs (v := Vb true) Z (Zx a) Z ⟨Z, ?_⟩)))))))))
     refine QC (Zb (V ?_))
     have bf := Zu c
     subst m
     exact ⟨ab, (Zv _), i, n, Z, z, aa, p, Z⟩
    replace a := Zk a
    refine Q9 Z Z (Zf Z (Zx a)) (Zp QdX Z Z Z ⟨Z, ?_⟩)
    refine Q9 Z Z (Zf Z (Zx a)) (Zn (i) A3 Z Z Z ⟨Z, ?_⟩)
    refine Q9 Z Z (Zf Z (Zx a)) (Zm (v := l) Z n ⟨Z, ?_⟩)
    refine Q9 Z Z (Zf Z (Zx a)) (Zp Yj Z Z Z ⟨Z, ?_⟩)
    refine Q9 Z Z (Zf Z (Zx a)) (Zn (i) A3 Z Z Z ⟨Z, ?_⟩)
    obtain ⟨aY, aU, c⟩ := Zg c
    refine Q9 Z Z (Zf Z (Zx a)) (QP Jt Z Z Z (af.mono x) aU ?_)
    intro bc br ay bg
    refine ⟨Z, ?_⟩
    refine Q9 Z Z (Zf Z (Zx a)) (Zw (E := (Qa .i64)) i A3 Z Z Z ay ?_)
    intro bx aV
    obtain rfl := Qs.1 aV
    refine ⟨Z, ?_⟩
    refine Q9 Z Z (Zf Z (Zx a)) (Exec.geq Z Z Z ⟨Z, ?_⟩)
    refine Qh Z Z (Q5 (v := Vb (decide (aY ≤ d.Val))) Z (Zx a) Z ⟨Z, ?_⟩)
    refine QC (Zb (V ?_))
    have bh := Zu c
    subst m
    exact ⟨ab, (Zv _), i, n, Z, z, aa, p, Z⟩
   intro bn b2 a2
   obtain ⟨aw, am, ae, aK, aL, aM, aN, aO, ao⟩ := a2
   refine (V ?_)
   rcases Qg j with ⟨u, j⟩ | ⟨u, j⟩
   ·refine Qv ao u (Zc (Zd (O Z Z (Zo (v := Vb false) Z Z (Zb (V (Q1 (Qj (QD (Qj (Qj (QD (Qj (Qj ?_))))))))))))))
    have bi := Zu j
    subst ai
    have aD := aE _ (aF (by intro _ h; cases h))
    have bj := Zu aD
    subst r
    refine ⟨_, QX Z, ?_⟩
    have a6 := ae.drop
    exact ⟨aw, (Zt x am), a6, Z⟩
   refine Qw ao u ?_
   replace u := Zk u
   refine Qp (V (Zd (O Z Z (Zp Yj Z aL Z (O Z Z (Zn (ae) A3 Z Z Z (O Z Z (Zo (v := U (d.Var)) Z Z (Zb (Qz (V (Zd (O Z Z (Exec.add Z aO Z (O Z Z (Zm (v := U (IntKind.i64.wrap ((al : Int) + 1))) Z Z (Zb (V ?_))))))))))))))))))
   have bk := Zu j
   subst ai
   have a7 := ae.drop
   refine ⟨_, Z, ?_⟩; exact ⟨aw, (Zt x am), a7, aK, Z, aM, aN, (Eq.trans Z (QB aB (SliceRep.le ad)))⟩
  intro y bo b3 a1 aG
  obtain ⟨aW, aH, a8, aP, aQ, aR, ap, aZ⟩ := a1
  refine Zc (Zd (O Z Z (Zq Z aZ ap (Zb (V (Zc (QA (Zx (decide_eq_false (by omega))) (QF (Ql (Ql (Q7 (V ?_))))))))))))
  refine ⟨_, .inl aG, ?_⟩; exact ⟨aW, aH, a8, aP, aQ, aR, ap⟩
 rintro bp b4 ⟨an, ak, a3⟩
 have hm := ak.elim (aC _) (aA _)
 clear ak
 obtain ⟨aX, aI, a9, bs, bt, bu, bv⟩ := a3
 refine (V (Zc (Zd (O Z Z (Zo (v := Vb true) Z Z (Zb (V (Q1 ?_))))))))
 have bl := Zu hm
 subst r
 refine ⟨_, QX Z, ?_⟩
 exact ⟨aX, aI, a9, Z⟩
theorem QgV : Jk Tryz.prog 95 1 = some 1 := by kernel_rfl
theorem QjG : Jk Tryz.prog 95 2 = some 2 := by kernel_rfl
theorem Qij : Jk Tryz.prog 60 0 = some 0 := by kernel_rfl
theorem A9 : JI Tryz.prog 9 = some (false, 1) := by kernel_rfl
theorem N51 : (Tryz.f51.name == "runtime.NumGoroutine") = false := by kernel_rfl
theorem Qgp {w0 w : World} {s : PHeap} {H : List Res} {a : ByteArray} {r : Bool} (hm : Qas a = some r) (hS : St w0 s (H) w) :
  Calls Tryz.prog 51 #[Value.string (a)] w fun e w' => ∃ v, e = .returned v ∧ ((fun (aA : Bool) => ∃ (ad : PHeap) , PHeap.le s ad ∧ St w0 ad (H) w' ∧ v = Value.bool (aA)) r) := by
 unfold Qas at hm
 refine Qy Tryz.func51 Z Z (Zc (Zd (O Z Z (Zo (v := Vb false) Z Z (Zb (V (Zc (Zc (Zd (O Z Z (Zm (v := Value.string (a)) Z Z (O Z Z (Qaz Tryz.underlying9 Z Z (O Z Z (Zm (v := U 0) Z Z (Zb (V ?_)))))))))))))))))
 obtain ⟨aP, a6, hm⟩ := Zg hm
 obtain ⟨p, aj, aw, au, aq⟩ := QO hm
 refine QJ (M := fun f' w' => ∃ s', (p = .next s' ∨ p = .brk s') ∧ (fun (_ : Unit) => ∃ (ae : PHeap) , PHeap.le s ae ∧ St w0 ae (H) w' ∧ f' 0 = Value.string (a) ∧ f' 5 = U ((a.size : Int))) s') ?_ ?_
 ·refine Qm (J4 (fun k' s' f' w' => (fun (_ : Unit) => ∃ (af : PHeap) , PHeap.le s af ∧ St w0 af (H) w' ∧ f' 0 = Value.string (a) ∧ f' 5 = U ((a.size : Int)) ∧ f' 6 = U (k' : Int)) s') aj ?_ ?_ ?_)
  ·exact ⟨s, (Zv _), hS, Z, Z, Z⟩
  ·intro g aM q aH aQ ar ak c ax
   obtain ⟨o, y, t, l, n, m⟩ := ak
   refine Zc (Zd (O Z Z (Zq Z m n (Zb (V (Zc (QK (Zx (decide_eq_true (by omega))) (Qp (V (Zc (Qm (Zc (Zd (O Z Z (Zm (v := U ((g : Int))) Z m (O Z Z (Zo (v := U ((g : Int))) Z Z (Zb (V (Zc ?_))))))))))))))))))))
   obtain ⟨j, d, c⟩ := Zg c
   refine QJ (M := fun f' w' => (fun (j : Bool) => ∃ (ag : PHeap) , PHeap.le o ag ∧ St w0 ag (H) w' ∧ f' 0 = Value.string (a) ∧ f' 5 = U ((a.size : Int)) ∧ f' 6 = U ((g : Int)) ∧ f' 18 = Vb j) j) ?_ ?_
   ·refine Zd (O Z Z (Zm (v := Value.string (a)) Z l (O Z Z (Zm (v := U ((g : Int))) Z Z ?_))))
    obtain ⟨ai, ac, d⟩ := Zg d
    refine O Z Z (Qa1 Tryz.underlying9 Z Z Z ac (O Z Z (Zq Z Z Z (O Z Z (Zm (v := Vb (decide (ai < 32))) Z Z ?_)))))
    rcases Qg d with ⟨b, d⟩ | ⟨b, d⟩
    ·refine Q0 5 (by rw [b]; rfl) ?_
     refine Zb (V ?_)
     have aB := Zu d
     subst j
     exact ⟨o, (Zv _), t, l, n, m, Z⟩
    replace b := Zk b
    refine Qo Z (Zf Z (Zx b)) Z (Zm (v := Value.string (a)) Z l (Qo Z (Zf Z (Zx b)) Z (Zm (v := U ((g : Int))) Z Z (Qo Z (Zf Z (Zx b)) Z (Qa1 Tryz.underlying9 Z Z Z ac (Qo Z (Zf Z (Zx b)) Z (Exec.gtr Z Z Z (O Z Z (Q5 (v := Vb (decide (126 < ai))) Z (Zx b) Z (Zb (V ?_)))))))))))
    have aC := Zu d
    subst j
    exact ⟨o, (Zv _), t, l, n, m, Z⟩
   intro aI aR am
   obtain ⟨ah, z, u, a1, a2, a3, aa⟩ := am
   refine (V ?_)
   rcases Qg c with ⟨i, c⟩ | ⟨i, c⟩
   ·refine Qv aa i (Zc (Zd (O Z Z (Zo (v := Vb false) Z Z (Zb (V (Q1 (QD (Qj (Qj (QD (Qj (Qj ?_)))))))))))))
    have aD := Zu c
    subst q
    have av := aw _ (ax (by intro _ h; cases h))
    have aE := Zu av
    subst r
    refine ⟨_, QX Z, ?_⟩
    exact ⟨ah, (Zt y z), u, Z⟩
   refine Qw aa i ?_
   replace i := Zk i
   refine Qp (Qz (V (Zd (O Z Z (Exec.add Z a3 Z (O Z Z (Zm (v := U (IntKind.i64.wrap ((g : Int) + 1))) Z Z (Zb (V ?_)))))))))
   have aF := Zu c
   subst q
   refine ⟨_, Z, ?_⟩; exact ⟨ah, (Zt y z), u, a1, a2, (Eq.trans Z (QB ar (by have h := QT a6; simp at h; simp only [maxLen]; omega)))⟩
  intro aN aJ aS al ay
  obtain ⟨a7, az, ao, a4, ab, a9⟩ := al
  refine Zc (Zd (O Z Z (Zq Z a9 ab (Zb (V (Zc (QA (Zx (decide_eq_false (by omega))) (QF (Ql (Ql (Q7 (V ?_))))))))))))
  refine ⟨_, .inl ay, ?_⟩; exact ⟨a7, az, ao, a4, ab⟩
 rintro aK aT ⟨aO, x, an⟩
 have hm := x.elim (au _) (aq _)
 clear x
 obtain ⟨a8, a0, ap, a5, aL⟩ := an
 refine (V (Zc (Zd (O Z Z (Zm (v := Value.string (a)) Z a5 (O Z Z (Qaz Tryz.underlying9 Z Z (O Z Z (Exec.leq Z Z Z (O Z Z (Zo (v := Vb (decide ((a.size : Int) ≤ 256))) Z Z (Zb (V (Q1 ?_))))))))))))))
 have aG := Zu hm
 subst r
 refine ⟨_, QX Z, ?_⟩
 exact ⟨a8, a0, ap, Z⟩
theorem N31 : (Tryz.f31.name == "runtime.NumGoroutine") = false := by kernel_rfl
theorem Qda {w0 w : World} {s : PHeap} {H : List Res} {n : Task} {i : Value} {o : Value} {p : Value} {b : Value} {r : (Option Int)} (hm : YB n = some r) (hS : St w0 s (H) w) (ac : SliceRep (Qa .i64) s i n.Vars) (a5 : SliceRep (Qa .i64) s o n.Init) (aW : SliceRep encFact s p n.Goal) (t : SliceRep encOp s b n.Ops) :
  Calls Tryz.prog 31 #[Value.agg #[i, o, p, b]] w fun e w' => ∃ v, e = .returned v ∧ ((fun (f8 : (Option Int)) => ∃ (bY : PHeap) , PHeap.le s bY ∧ St w0 bY (H) w' ∧ v = QG 50 (f8)) r) := by
 unfold YB at hm
 refine Qy Tryz.func31 Z Z (Zc (Zd (O Z Z (Exec.box (cs := [i, o, p, b]) hS Z Z Z ?_))))
 intro d hk bj
 refine O Z Z (Zo (v := QG 50 (none)) Z Z (Zb (V (Zc (Zc (Zd (O Z Z (Qn (ds := [i, o, p, b]) (bj) A26 Z Z Z ?_))))))))
 obtain ⟨hM, eS, hm⟩ := Zg hm
 refine O Z Z (Exec.call Z Z Tryz.func48 Z N48 (Zi Z Qk) ((Qgq eS bj ac a5 aW t).mono ?_))
 rintro _ hl ⟨_, rfl, ⟨a0, a, a6, rfl⟩⟩
 refine ⟨_, Z, ?_⟩
 refine Zb (V ?_)
 rcases Qg hm with ⟨ai, hm⟩ | ⟨ai, hm⟩
 ·refine Qv Z ai (Zc (Zd (O Z Z (Exec.makeInterface C50 Z Z (O Z Z (Zo (v := QG 50 (some 5)) Z Z (Zb (V (Q1 (Qj ?_))))))))))
  have fK := Zu hm
  subst r
  refine ⟨_, QX Z, ?_⟩
  have cY := a6.drop
  exact ⟨a0, a, cY, Z⟩
 refine Qw Z ai ?_
 replace ai := Zk ai
 refine Qp (V (Zc (Zc (Zd (O Z Z (Zp Yk Z Z Z (O Z Z (Zn (a6) A22 Z Z Z (O Z Z (Zr Jt Z Z (ac.mono a) (O Z Z (Zm (v := U 0) Z Z (Zb (V ?_))))))))))))))
 obtain ⟨aX, c8, dS, dG, d4⟩ := QO hm
 refine QJ (M := fun f' w' => ∃ s', (aX = .next s' ∨ aX = .brk s') ∧ (fun (_ : Unit) => ∃ (bZ : PHeap) , PHeap.le a0 bZ ∧ St w0 bZ (Res.box d 26 [i, o, p, b] :: H) w' ∧ f' 1 = Vp (some ⟨d, 0, none⟩) ∧ f' 19 = i ∧ f' 20 = U ((n.Vars.length : Int))) s') ?_ ?_
 ·refine Qm (J4 (fun k' s' f' w' => (fun (_ : Unit) => ∃ (ca : PHeap) , PHeap.le a0 ca ∧ St w0 ca (Res.box d 26 [i, o, p, b] :: H) w' ∧ f' 1 = Vp (some ⟨d, 0, none⟩) ∧ f' 19 = i ∧ f' 20 = U ((n.Vars.length : Int)) ∧ f' 21 = U (k' : Int)) s') c8 ?_ ?_ ?_)
  ·exact ⟨a0, (Zv _), a6, Z, Z, Z, Z⟩
  ·intro b5 gN aY gf hn dA cE af dY
   obtain ⟨aL, aC, a7, bC, aG, aH, a2⟩ := cE
   refine Zc (Zd (O Z Z (Zq Z a2 aH (Zb (V (Zc (QK (Zx (decide_eq_true (by omega))) (Qp (V (Zc (Qm (Zc (Zd ?_)))))))))))))
   obtain ⟨ae, eT, af⟩ := Zg af
   refine O Z Z (Qu Jt Z aG a2 (ac.mono (Zt a aC)) eT ?_)
   intro f9 g0 c2
   refine O Z Z (Zw (E := (Qa .i64)) a7 A3 Z Z Z c2 ?_)
   intro hf eU
   obtain rfl := Qs.1 eU
   refine O Z Z (Zo (v := U ae) Z Z (Zb (V (Zc (QJ (M := fun f' w' => ∃ (cb : PHeap) , PHeap.le aL cb ∧ St w0 cb (Res.box d 26 [i, o, p, b] :: H) w' ∧ f' 1 = Vp (some ⟨d, 0, none⟩) ∧ f' 19 = i ∧ f' 20 = U ((n.Vars.length : Int)) ∧ f' 21 = U ((b5 : Int)) ∧ f' 30 = Vb (((decide (ae < 1)) || decide (64 < ae)))) ?_ ?_)))))
   ·refine Zd (O Z Z (Zm (v := U ae) Z Z (O Z Z (Zq Z Z Z (O Z Z (Zm (v := Vb (decide (ae < 1))) Z Z ?_))))))
    by_cases ad : (decide (ae < 1)) = true
    ·refine Q0 3 (by rw [ad]; rfl) ?_
     refine Zb (V ?_)
     exact ⟨aL, (Zv _), a7, bC, aG, aH, a2, (Zx (QdV ad)).symm⟩
    replace ad := Zk ad
    refine Qo Z (Zf Z (Zx ad)) Z (Zm (v := U ae) Z Z (Qo Z (Zf Z (Zx ad)) Z (Exec.gtr Z Z Z (O Z Z (Q5 (v := Vb (decide (64 < ae))) Z (Zx ad) Z (Zb (V ?_)))))))
    exact ⟨aL, (Zv _), a7, bC, aG, aH, a2, (Zx (Qaj ad)).symm⟩
   intro gg ho cQ
   obtain ⟨cc, b7, bk, ex, ey, ez, e0, bD⟩ := cQ
   refine (V ?_)
   rcases Qg af with ⟨aj, af⟩ | ⟨aj, af⟩
   ·refine Qv bD aj (Zc (Zd (O Z Z (Exec.makeInterface C50 Z Z (O Z Z (Zo (v := QG 50 (some 1)) Z Z (Zb (V (Q1 (QD (Qj (Qj (QD (Qj (Qj ?_)))))))))))))))
    have fL := Zu af
    subst aY
    have dM := dS _ (dY (by intro _ h; cases h))
    have fM := Zu dM
    subst r
    refine ⟨_, QX Z, ?_⟩
    have cZ := bk.drop
    exact ⟨cc, (Zt (Zt a aC) b7), cZ, Z⟩
   refine Qw bD aj ?_
   replace aj := Zk aj
   refine Qp (Qz (V (Zd (O Z Z (Exec.add Z e0 Z (O Z Z (Zm (v := U (IntKind.i64.wrap ((b5 : Int) + 1))) Z Z (Zb (V ?_)))))))))
   have fN := Zu af
   subst aY
   refine ⟨_, Z, ?_⟩; exact ⟨cc, (Zt aC b7), bk, ex, ey, ez, (Eq.trans Z (QB dA (SliceRep.le (ac.mono a))))⟩
  intro gO gh hp cF dZ
  obtain ⟨fs, en, da, e1, e2, bE, f2⟩ := cF
  refine Zc (Zd (O Z Z (Zq Z f2 bE (Zb (V (Zc (QA (Zx (decide_eq_false (by omega))) (QF (Ql (Ql (Q7 (V ?_))))))))))))
  refine ⟨_, .inl dZ, ?_⟩; exact ⟨fs, en, da, e1, e2, bE⟩
 rintro gi hq ⟨gP, bz, cR⟩
 have hm := bz.elim (dG _) (d4 _)
 clear bz
 obtain ⟨aM, g, bl, bF, g6, g7⟩ := cR
 refine (V (Zc (Zc (Zd (O Z Z (Zp Qaa Z bF Z (O Z Z (Zn (bl) A24 Z Z Z (O Z Z (Zr S24 Z Z (t.mono (Zt a g)) (O Z Z (Zm (v := U 0) Z Z (Zb (V ?_))))))))))))))
 obtain ⟨aZ, c9, dT, dH, d5⟩ := QO hm
 refine QJ (M := fun f' w' => ∃ s', (aZ = .next s' ∨ aZ = .brk s') ∧ (fun (_ : Unit) => ∃ (cd : PHeap) , PHeap.le aM cd ∧ St w0 cd (Res.box d 26 [i, o, p, b] :: H) w' ∧ f' 1 = Vp (some ⟨d, 0, none⟩) ∧ f' 34 = b ∧ f' 35 = U ((n.Ops.length : Int))) s') ?_ ?_
 ·refine Qm (J4 (fun k' s' f' w' => (fun (_ : Unit) => ∃ (ce : PHeap) , PHeap.le aM ce ∧ St w0 ce (Res.box d 26 [i, o, p, b] :: H) w' ∧ f' 1 = Vp (some ⟨d, 0, none⟩) ∧ f' 34 = b ∧ f' 35 = U ((n.Ops.length : Int)) ∧ f' 36 = U (k' : Int)) s') c9 ?_ ?_ ?_)
  ·exact ⟨aM, (Zv _), bl, bF, Z, Z, Z⟩
  ·intro b6 gQ ba gj hr dB cG ag ea
   obtain ⟨aN, aD, bm, bG, aI, aJ, a3⟩ := cG
   refine Zc (Zd (O Z Z (Zq Z a3 aJ (Zb (V (Zc (QK (Zx (decide_eq_true (by omega))) (Qp (V (Zc (Qm (Zc (Zd ?_)))))))))))))
   obtain ⟨ab, eV, ag⟩ := Zg ag
   refine O Z Z (Qu S24 Z aI a3 (t.mono (Zt (Zt a g) aD)) eV ?_)
   intro fA g1 c3
   refine O Z Z (Zw (E := encOp) bm A60 Z Z Z c3 ?_)
   intro hg eW
   obtain ⟨ct, cu, rfl, fk, fl⟩ := Y8.1 eW
   refine O Z Z (Exec.alloc (cs := [Value.string (⟨#[]⟩), U 0, Vs none 0 0, Vs none 0 0]) bm Z60 Z Z ?_)
   intro fB hs db
   refine O Z Z (Qf (ds := [Value.string (ab.Name), U (ab.Cost), ct, cu]) (es := [Value.string (ab.Name), U (ab.Cost), ct, cu]) db A60 Z Z Z Z (Zj Z (Zj Z (Zj fk.one (Zj fl.one Q6)))) (Nat.le_of_ble_eq_true Z) Z ?_)
   intro ht ar
   refine Zb (V (Zc (QJ (M := fun f' w' => ∃ (cf : PHeap) , PHeap.le aN cf ∧ St w0 cf (Res.box d 26 [i, o, p, b] :: H) w' ∧ f' 1 = Vp (some ⟨d, 0, none⟩) ∧ f' 34 = b ∧ f' 35 = U ((n.Ops.length : Int)) ∧ f' 36 = U ((b6 : Int)) ∧ f' 47 = Vb (((decide (ab.Cost < 0)) || decide (1048576 < ab.Cost)))) ?_ ?_)))
   ·refine Zd (O Z Z (Zp QgW Z Z Z (O Z Z (Zn (ar) A3 Z Z Z (O Z Z (Zq Z Z Z (O Z Z (Zm (v := Vb (decide (ab.Cost < 0))) Z Z ?_))))))))
    by_cases x : (decide (ab.Cost < 0)) = true
    ·refine Q0 4 (by rw [x]; rfl) ?_
     refine Zb (V ?_)
     have dc := ar.drop
     exact ⟨aN, (Zv _), dc, bG, aI, aJ, a3, (Zx (QdV x)).symm⟩
    replace x := Zk x
    refine Qo Z (Zf Z (Zx x)) Z (Zp QgW Z Z Z (Qo Z (Zf Z (Zx x)) Z (Zn (ar) A3 Z Z Z (Qo Z (Zf Z (Zx x)) Z (Exec.gtr Z Z Z (O Z Z (Q5 (v := Vb (decide (1048576 < ab.Cost))) Z (Zx x) Z (Zb (V ?_)))))))))
    have dd := ar.drop
    exact ⟨aN, (Zv _), dd, bG, aI, aJ, a3, (Zx (Qaj x)).symm⟩
   intro gk hu cS
   obtain ⟨cg, b8, bn, e3, e4, e5, e6, bH⟩ := cS
   refine (V ?_)
   rcases Qg ag with ⟨ak, ag⟩ | ⟨ak, ag⟩
   ·refine Qv bH ak (Zc (Zd (O Z Z (Exec.makeInterface C50 Z Z (O Z Z (Zo (v := QG 50 (some 1)) Z Z (Zb (V (Q1 (QD (Qj (Qj (QD (Qj (Qj ?_)))))))))))))))
    have fO := Zu ag
    subst ba
    have dN := dT _ (ea (by intro _ h; cases h))
    have fP := Zu dN
    subst r
    refine ⟨_, QX Z, ?_⟩
    have de := bn.drop
    exact ⟨cg, (Zt (Zt (Zt a g) aD) b8), de, Z⟩
   refine Qw bH ak ?_
   replace ak := Zk ak
   refine Qp (Qz (V (Zd (O Z Z (Exec.add Z e6 Z (O Z Z (Zm (v := U (IntKind.i64.wrap ((b6 : Int) + 1))) Z Z (Zb (V ?_)))))))))
   have fQ := Zu ag
   subst ba
   refine ⟨_, Z, ?_⟩; exact ⟨cg, (Zt aD b8), bn, e3, e4, e5, (Eq.trans Z (QB dB (SliceRep.le (t.mono (Zt a g)))))⟩
  intro gR gl hv cH eb
  obtain ⟨ft, eo, df, e7, e8, bI, f3⟩ := cH
  refine Zc (Zd (O Z Z (Zq Z f3 bI (Zb (V (Zc (QA (Zx (decide_eq_false (by omega))) (QF (Ql (Ql (Q7 (V ?_))))))))))))
  refine ⟨_, .inl eb, ?_⟩; exact ⟨ft, eo, df, e7, e8, bI⟩
 rintro gm hw ⟨gS, b0, cT⟩
 have hm := b0.elim (dH _) (d5 _)
 clear b0
 obtain ⟨gI, j, a8, ay, g8, g9⟩ := cT
 refine (V (Zc (Zc (Zd (O Z Z (Zp Yk Z ay Z (O Z Z (Zn (a8) A22 Z Z Z (O Z Z (Zp Qlg Z ay Z (O Z Z (Zn (a8) A22 Z Z Z ?_))))))))))))
 obtain ⟨hN, eX, hm⟩ := Zg hm
 refine O Z Z (Exec.call Z Z Tryz.func42 Z N42 (Zi Z (Zi Z Qk)) ((Qfl eX a8 (ac.mono (Zt (Zt a g) j)) (a5.mono (Zt (Zt a g) j))).mono ?_))
 rintro _ hx ⟨_, rfl, ⟨fu, m, a9, rfl⟩⟩
 refine ⟨_, Z, ?_⟩
 refine O Z Z (Exec.not Z Z (Zb (V ?_)))
 rcases Qg hm with ⟨al, hm⟩ | ⟨al, hm⟩
 ·refine Qv Z al (Zc (Zd (O Z Z (Exec.makeInterface C50 Z Z (O Z Z (Zo (v := QG 50 (some 2)) Z Z (Zb (V (Q1 (Qj ?_))))))))))
  have fR := Zu hm
  subst r
  refine ⟨_, QX Z, ?_⟩
  have dg := a9.drop
  exact ⟨fu, (Zt (Zt (Zt a g) j) m), dg, Z⟩
 refine Qw Z al ?_
 replace al := Zk al
 refine Qp (V (Zc (Zc (Zd (O Z Z (Qn (ds := [i, o, p, b]) (a9) A26 Z ay Z ?_))))))
 obtain ⟨c1, eY, hm⟩ := Zg hm
 refine O Z Z (Exec.call Z Z Tryz.func49 Z N49 (Zi Z Qk) ((Qbq eY a9 (ac.mono (Zt (Zt (Zt a g) j) m)) (a5.mono (Zt (Zt (Zt a g) j) m)) (aW.mono (Zt (Zt (Zt a g) j) m)) (t.mono (Zt (Zt (Zt a g) j) m))).mono ?_))
 rintro _ hy ⟨cz, rfl, ⟨aO, _, q, dh, rfl, aK⟩⟩
 refine ⟨_, Z, ?_⟩
 refine O Z Z (Zr S98 Z Z aK (O Z Z (Zm (v := U 0) Z Z (Zb (V ?_)))))
 obtain ⟨bb, cA, dU, dI, d6⟩ := QO hm
 refine QJ (M := fun f' w' => ∃ s', (bb = .next s' ∨ bb = .brk s') ∧ (fun (_ : Unit) => ∃ (ch : PHeap) , PHeap.le aO ch ∧ St w0 ch (Res.box d 26 [i, o, p, b] :: H) w' ∧ f' 1 = Vp (some ⟨d, 0, none⟩) ∧ f' 58 = cz ∧ f' 59 = U ((c1.length : Int))) s') ?_ ?_
 ·refine Qm (J4 (fun k' s' f' w' => (fun (_ : Unit) => ∃ (ci : PHeap) , PHeap.le aO ci ∧ St w0 ci (Res.box d 26 [i, o, p, b] :: H) w' ∧ f' 1 = Vp (some ⟨d, 0, none⟩) ∧ f' 58 = cz ∧ f' 59 = U ((c1.length : Int)) ∧ f' 60 = U (k' : Int)) s') cA ?_ ?_ ?_)
  ·exact ⟨aO, (Zv _), dh, ay, Z, Z, Z⟩
  ·intro ek gT bc gn hz dC cI y ec
   obtain ⟨gJ, av, aA, bJ, bK, bL, aS⟩ := cI
   refine Zc (Zd (O Z Z (Zq Z aS bL (Zb (V (Zc (QK (Zx (decide_eq_true (by omega))) (Qp (V (Zc (Qm (Zc (Zd ?_)))))))))))))
   obtain ⟨hL, eZ, y⟩ := Zg y
   refine O Z Z (Qu S98 Z bK aS (aK.mono av) eZ ?_)
   intro fC g2 c4
   refine O Z Z (Zw (E := (QE encFact)) aA A23 Z Z Z c4 ?_)
   intro c0 fa
   have fm := Jw.1 fa
   refine O Z Z (Zo (v := c0) Z Z (Zb (V (Zc (Zd (O Z Z (Zp Yk Z bJ Z (O Z Z (Zn (aA) A22 Z Z Z (O Z Z (Zm (v := c0) Z Z ?_)))))))))))
   obtain ⟨hO, fb, y⟩ := Zg y
   refine O Z Z (Exec.call Z Z Tryz.func50 Z N50 (Zi Z (Zi Z Qk)) ((QcZ fb aA (ac.mono (Zt (Zt (Zt (Zt (Zt a g) j) m) q) av)) fm).mono ?_))
   rintro _ h0 ⟨_, rfl, ⟨cj, b9, bo, rfl⟩⟩
   refine ⟨_, Z, ?_⟩
   refine O Z Z (Exec.not Z Z (Zb (V ?_)))
   rcases Qg y with ⟨am, y⟩ | ⟨am, y⟩
   ·refine Qv Z am (Zc (Zd (O Z Z (Exec.makeInterface C50 Z Z (O Z Z (Zo (v := QG 50 (some 2)) Z Z (Zb (V (Q1 (QD (Qj (Qj (QD (Qj (Qj ?_)))))))))))))))
    have fS := Zu y
    subst bc
    have dO := dU _ (ec (by intro _ h; cases h))
    have fT := Zu dO
    subst r
    refine ⟨_, QX Z, ?_⟩
    have di := bo.drop
    exact ⟨cj, (Zt (Zt (Zt (Zt (Zt (Zt a g) j) m) q) av) b9), di, Z⟩
   refine Qw Z am ?_
   replace am := Zk am
   refine Qp (Qz (V (Zd (O Z Z (Exec.add Z aS Z (O Z Z (Zm (v := U (IntKind.i64.wrap ((ek : Int) + 1))) Z Z (Zb (V ?_)))))))))
   have fU := Zu y
   subst bc
   refine ⟨_, Z, ?_⟩; exact ⟨cj, (Zt av b9), bo, bJ, bK, bL, (Eq.trans Z (QB dC (SliceRep.le aK)))⟩
  intro gU go h1 cJ ed
  obtain ⟨fv, ep, dj, e9, eA, bM, f4⟩ := cJ
  refine Zc (Zd (O Z Z (Zq Z f4 bM (Zb (V (Zc (QA (Zx (decide_eq_false (by omega))) (QF (Ql (Ql (Q7 (V ?_))))))))))))
  refine ⟨_, .inl ed, ?_⟩; exact ⟨fv, ep, dj, e9, eA, bM⟩
 rintro gp h2 ⟨gV, b1, cU⟩
 have hm := b1.elim (dI _) (d6 _)
 clear b1
 obtain ⟨aP, u, bp, bN, gA, gB⟩ := cU
 refine (V (Zc (Zc (Zd (O Z Z (Zp Qaa Z bN Z (O Z Z (Zn (bp) A24 Z Z Z (O Z Z (Zr S24 Z Z (t.mono (Zt (Zt (Zt (Zt (Zt a g) j) m) q) u)) (O Z Z (Zm (v := U 0) Z Z (Zb (V ?_))))))))))))))
 obtain ⟨bd, cB, dV, dJ, d7⟩ := QO hm
 refine QJ (M := fun f' w' => ∃ s', (bd = .next s' ∨ bd = .brk s') ∧ (fun (_ : Unit) => ∃ (ck : PHeap) , PHeap.le aP ck ∧ St w0 ck (Res.box d 26 [i, o, p, b] :: H) w' ∧ f' 1 = Vp (some ⟨d, 0, none⟩) ∧ f' 72 = b ∧ f' 73 = U ((n.Ops.length : Int))) s') ?_ ?_
 ·refine Qm (J4 (fun k' s' f' w' => (fun (_ : Unit) => ∃ (cl : PHeap) , PHeap.le aP cl ∧ St w0 cl (Res.box d 26 [i, o, p, b] :: H) w' ∧ f' 1 = Vp (some ⟨d, 0, none⟩) ∧ f' 72 = b ∧ f' 73 = U ((n.Ops.length : Int)) ∧ f' 74 = U (k' : Int)) s') cB ?_ ?_ ?_)
  ·exact ⟨aP, (Zv _), bp, bN, Z, Z, Z⟩
  ·intro aB gW be gq h3 dD cK ap ee
   obtain ⟨aQ, aw, bq, eB, bO, bP, aT⟩ := cK
   refine Zc (Zd (O Z Z (Zq Z aT bP (Zb (V (Zc (QK (Zx (decide_eq_true (by omega))) (Qp (V (Zc (Qm (Zc (Zd ?_)))))))))))))
   obtain ⟨ah, fc, ap⟩ := Zg ap
   refine O Z Z (Qu S24 Z bO aT (t.mono (Zt (Zt (Zt (Zt (Zt (Zt a g) j) m) q) u) aw)) fc ?_)
   intro fD g3 c5
   refine O Z Z (Zw (E := encOp) bq A60 Z Z Z c5 ?_)
   intro hh fd
   obtain ⟨cv, a1, rfl, fn, az⟩ := Y8.1 fd
   refine O Z Z (Exec.alloc (cs := [Value.string (⟨#[]⟩), U 0, Vs none 0 0, Vs none 0 0]) bq Z60 Z Z ?_)
   intro fE h4 dk
   refine O Z Z (Qf (ds := [Value.string (ah.Name), U (ah.Cost), cv, a1]) (es := [Value.string (ah.Name), U (ah.Cost), cv, a1]) dk A60 Z Z Z Z (Zj Z (Zj Z (Zj fn.one (Zj az.one Q6)))) (Nat.le_of_ble_eq_true Z) Z ?_)
   intro h5 br
   refine Zb (V (Zc (Zd (O Z Z (Zp QdY Z Z Z (O Z Z (Zn (br) A58 Z Z Z (O Z Z (Zr S58 Z Z az (O Z Z (Zm (v := U 0) Z Z (Zb (V ?_)))))))))))))
   obtain ⟨bf, cC, dW, dK, d8⟩ := QO ap
   refine QJ (M := fun f' w' => ∃ s', (bf = .next s' ∨ bf = .brk s') ∧ (fun (_ : Unit) => ∃ (cm : PHeap) , PHeap.le aQ cm ∧ St w0 cm (Res.box d 26 [i, o, p, b] :: H) w' ∧ f' 1 = Vp (some ⟨d, 0, none⟩) ∧ f' 72 = b ∧ f' 73 = U ((n.Ops.length : Int)) ∧ f' 74 = U ((aB : Int)) ∧ f' 79 = a1 ∧ f' 80 = U ((ah.Effs.length : Int))) s') ?_ ?_
   ·refine Qm (J4 (fun k' s' f' w' => (fun (_ : Unit) => ∃ (cn : PHeap) , PHeap.le aQ cn ∧ St w0 cn (Res.box d 26 [i, o, p, b] :: H) w' ∧ f' 1 = Vp (some ⟨d, 0, none⟩) ∧ f' 72 = b ∧ f' 73 = U ((n.Ops.length : Int)) ∧ f' 74 = U ((aB : Int)) ∧ f' 79 = a1 ∧ f' 80 = U ((ah.Effs.length : Int)) ∧ f' 81 = U (k' : Int)) s') cC ?_ ?_ ?_)
    ·have dl := br.drop
     exact ⟨aQ, (Zv _), dl, eB, bO, bP, aT, Z, Z, Z⟩
    ·intro el gX bg gr h6 dE cL z ef
     obtain ⟨gK, ax, bs, bQ, eC, eD, eE, bR, bS, aU⟩ := cL
     refine Zc (Zd (O Z Z (Zq Z aU bS (Zb (V (Zc (QK (Zx (decide_eq_true (by omega))) (Qp (V (Zc (Qm (Zc (Zd ?_)))))))))))))
     obtain ⟨l, fe, z⟩ := Zg z
     refine O Z Z (Qu S58 Z bR aU (az.mono ax) fe ?_)
     intro fF g4 c6
     refine O Z Z (Zw (E := encEffect) bs A95 Z Z Z c6 ?_)
     intro hi ff
     obtain ⟨cw, rfl, fo⟩ := Yv.1 ff
     refine O Z Z (Exec.alloc (cs := [Vs none 0 0, U 0, U 0]) bs Z95 Z Z ?_)
     intro fG h7 dm
     refine O Z Z (Qf (ds := [cw, U (l.Var), U (l.Val)]) (es := [cw, U (l.Var), U (l.Val)]) dm A95 Z Z Z Z (Zj fo.one (Zj Z (Zj Z Q6))) (Nat.le_of_ble_eq_true Z) Z ?_)
     intro h8 au
     refine Zb (V (Zc (Zd (O Z Z (Zp Yk Z bQ Z (O Z Z (Zn (au.f1) A22 Z Z Z (O Z Z (Zp QgV Z Z Z (O Z Z (Zn (au) A3 Z Z Z (O Z Z (Zp QjG Z Z Z (O Z Z (Zn (au) A3 Z Z Z (O Z Z (Exec.build Z (Qb (c := [U (l.Var)]) (Qi Z Z) (Qb (c := [U (l.Val)]) (Qi Z Z) Qx)) (v := Value.agg #[U (l.Var), U (l.Val)]) (fun _ => by kernel_rfl) (O Z Z (Exec.buildSlice (Te := 90) (cs := [U (l.Var), U (l.Val)]) au Z (Qb (c := [U (l.Var), U (l.Val)]) (Qi Z Z) Qx) (fun _ => by kernel_rfl) ?_)))))))))))))))))))
     intro fH h9 dn
     have dp := St.boxArr (E := encFact) (xs := [(⟨l.Var, l.Val⟩ : Fact)]) dn ⟨[U (l.Var), U (l.Val)], [], rfl, ⟨[U (l.Var)], [U (l.Val)], rfl, rfl, rfl⟩, rfl⟩ (by simp [maxLen])
     obtain ⟨gL, aE, dq, fp⟩ := dp.freezeArr
     obtain ⟨hP, fg, z⟩ := Zg z
     refine O Z Z (Exec.call Z Z Tryz.func50 Z N50 (Zi Z (Zi Z Qk)) ((QcZ fg dq (ac.mono (Zt (Zt (Zt (Zt (Zt (Zt (Zt (Zt a g) j) m) q) u) aw) ax) aE)) fp).mono ?_))
     rintro _ hA ⟨_, rfl, ⟨co, bA, bt, rfl⟩⟩
     refine ⟨_, Z, ?_⟩
     refine O Z Z (Exec.not Z Z (Zb (V ?_)))
     rcases Qg z with ⟨an, z⟩ | ⟨an, z⟩
     ·refine Qv Z an (Zc (Zd (O Z Z (Exec.makeInterface C50 Z Z (O Z Z (Zo (v := QG 50 (some 2)) Z Z (Zb (V (Q1 (QD (Qj (Qj (QD (Qj (QD (Qj (Qj (QD (Qj (Qj ?_))))))))))))))))))))
      have fV := Zu z
      subst bg
      have dP := dW _ (ef (by intro _ h; cases h))
      have fW := Zu dP
      subst be
      have dQ := dV _ (ee (by intro _ h; cases h))
      have fX := Zu dQ
      subst r
      refine ⟨_, QX Z, ?_⟩
      have dr := bt.drop
      have dt := dr.drop
      exact ⟨co, (Zt (Zt (Zt (Zt (Zt (Zt (Zt (Zt (Zt a g) j) m) q) u) aw) ax) aE) bA), dt, Z⟩
     refine Qw Z an ?_
     replace an := Zk an
     refine Qp (Qz (V (Zd (O Z Z (Exec.add Z aU Z (O Z Z (Zm (v := U (IntKind.i64.wrap ((el : Int) + 1))) Z Z (Zb (V ?_)))))))))
     have fY := Zu z
     subst bg
     have du := bt.drop
     refine ⟨_, Z, ?_⟩; exact ⟨co, (Zt (Zt ax aE) bA), du, bQ, eC, eD, eE, bR, bS, (Eq.trans Z (QB dE (SliceRep.le az)))⟩
    intro gY gs hB cM eg
    obtain ⟨fw, er, dv, eF, eG, eH, eI, eJ, bT, f5⟩ := cM
    refine Zc (Zd (O Z Z (Zq Z f5 bT (Zb (V (Zc (QA (Zx (decide_eq_false (by omega))) (QF (Ql (Ql (Q7 (V ?_))))))))))))
    refine ⟨_, .inl eg, ?_⟩; exact ⟨fw, er, dv, eF, eG, eH, eI, eJ, bT⟩
   rintro gu hC ⟨gZ, b2, cV⟩
   have ap := b2.elim (dK _) (d8 _)
   clear b2
   obtain ⟨fx, et, dw, eK, eL, eM, eN, gC, gD⟩ := cV
   refine (Qz (V (Zd (O Z Z (Exec.add Z eN Z (O Z Z (Zm (v := U (IntKind.i64.wrap ((aB : Int) + 1))) Z Z (Zb (V ?_)))))))))
   have fZ := Zu ap
   subst be
   refine ⟨_, Z, ?_⟩; exact ⟨fx, (Zt aw et), dw, eK, eL, eM, (Eq.trans Z (QB dD (SliceRep.le (t.mono (Zt (Zt (Zt (Zt (Zt a g) j) m) q) u)))))⟩
  intro ha gv hD cN eh
  obtain ⟨fy, eu, dx, eO, eP, bU, f6⟩ := cN
  refine Zc (Zd (O Z Z (Zq Z f6 bU (Zb (V (Zc (QA (Zx (decide_eq_false (by omega))) (QF (Ql (Ql (Q7 (V ?_))))))))))))
  refine ⟨_, .inl eh, ?_⟩; exact ⟨fy, eu, dx, eO, eP, bU⟩
 rintro gw hE ⟨hb, b3, cW⟩
 have hm := b3.elim (dJ _) (d7 _)
 clear b3
 obtain ⟨aR, aq, bu, eQ, gE, gF⟩ := cW
 refine (V (Zc (Zc (Zd (O Z Z (Zp Qaa Z eQ Z (O Z Z (Zn (bu) A24 Z Z Z (O Z Z (Zr S24 Z Z (t.mono (Zt (Zt (Zt (Zt (Zt (Zt a g) j) m) q) u) aq)) (O Z Z (Zm (v := U 0) Z Z (Zb (V ?_))))))))))))))
 obtain ⟨bh, cD, dX, dL, d9⟩ := QO hm
 refine QJ (M := fun f' w' => ∃ s', (bh = .next s' ∨ bh = .brk s') ∧ (fun (_ : Unit) => ∃ (cp : PHeap) , PHeap.le aR cp ∧ St w0 cp (H) w' ∧ f' 99 = b ∧ f' 100 = U ((n.Ops.length : Int))) s') ?_ ?_
 ·refine Qm (J4 (fun k' s' f' w' => (fun (_ : Unit) => ∃ (cq : PHeap) , PHeap.le aR cq ∧ St w0 cq (H) w' ∧ f' 99 = b ∧ f' 100 = U ((n.Ops.length : Int)) ∧ f' 101 = U (k' : Int)) s') cD ?_ ?_ ?_)
  ·have dy := bu.drop
   exact ⟨aR, (Zv _), dy, Z, Z, Z⟩
  ·intro em hc bi gx hF dF cO aa ei
   obtain ⟨gM, aF, bv, bV, bW, aV⟩ := cO
   refine Zc (Zd (O Z Z (Zq Z aV bW (Zb (V (Zc (QK (Zx (decide_eq_true (by omega))) (Qp (V (Zc (Qm (Zc (Zd ?_)))))))))))))
   obtain ⟨a4, fh, aa⟩ := Zg aa
   refine O Z Z (Qu S24 Z bV aV (t.mono (Zt (Zt (Zt (Zt (Zt (Zt (Zt a g) j) m) q) u) aq) aF)) fh ?_)
   intro fI g5 c7
   refine O Z Z (Zw (E := encOp) bv A60 Z Z Z c7 ?_)
   intro hj fi
   obtain ⟨cx, cy, rfl, fq, fr⟩ := Y8.1 fi
   refine O Z Z (Exec.alloc (cs := [Value.string (⟨#[]⟩), U 0, Vs none 0 0, Vs none 0 0]) bv Z60 Z Z ?_)
   intro fJ hG dz
   refine O Z Z (Qf (ds := [Value.string (a4.Name), U (a4.Cost), cx, cy]) (es := [Value.string (a4.Name), U (a4.Cost), cx, cy]) dz A60 Z Z Z Z (Zj Z (Zj Z (Zj fq.one (Zj fr.one Q6)))) (Nat.le_of_ble_eq_true Z) Z ?_)
   intro hH bw
   refine Zb (V (Zc (Zd (O Z Z (Zp Qij Z Z Z (O Z Z (Zn (bw) A9 Z Z Z ?_)))))))
   obtain ⟨hQ, fj, aa⟩ := Zg aa
   refine O Z Z (Exec.call Z Z Tryz.func51 Z N51 (Zi Z Qk) ((Qgp fj bw).mono ?_))
   rintro _ hI ⟨_, rfl, ⟨cr, bB, bx, rfl⟩⟩
   refine ⟨_, Z, ?_⟩
   refine O Z Z (Exec.not Z Z (Zb (V ?_)))
   rcases Qg aa with ⟨ao, aa⟩ | ⟨ao, aa⟩
   ·refine Qv Z ao (Zc (Zd (O Z Z (Exec.makeInterface C50 Z Z (O Z Z (Zo (v := QG 50 (some 8)) Z Z (Zb (V (Q1 (QD (Qj (Qj (QD (Qj (Qj ?_)))))))))))))))
    have ga := Zu aa
    subst bi
    have dR := dX _ (ei (by intro _ h; cases h))
    have gb := Zu dR
    subst r
    refine ⟨_, QX Z, ?_⟩
    have d0 := bx.drop
    exact ⟨cr, (Zt (Zt (Zt (Zt (Zt (Zt (Zt (Zt a g) j) m) q) u) aq) aF) bB), d0, Z⟩
   refine Qw Z ao ?_
   replace ao := Zk ao
   refine Qp (Qz (V (Zd (O Z Z (Exec.add Z aV Z (O Z Z (Zm (v := U (IntKind.i64.wrap ((em : Int) + 1))) Z Z (Zb (V ?_)))))))))
   have gc := Zu aa
   subst bi
   have d1 := bx.drop
   refine ⟨_, Z, ?_⟩; exact ⟨cr, (Zt aF bB), d1, bV, bW, (Eq.trans Z (QB dF (SliceRep.le (t.mono (Zt (Zt (Zt (Zt (Zt (Zt a g) j) m) q) u) aq)))))⟩
  intro hd gy hJ cP ej
  obtain ⟨fz, ev, d2, eR, bX, f7⟩ := cP
  refine Zc (Zd (O Z Z (Zq Z f7 bX (Zb (V (Zc (QA (Zx (decide_eq_false (by omega))) (QF (Ql (Ql (Q7 (V ?_))))))))))))
  refine ⟨_, .inl ej, ?_⟩; exact ⟨fz, ev, d2, eR, bX⟩
 rintro gz hK ⟨he, b4, cX⟩
 have hm := b4.elim (dL _) (d9 _)
 clear b4
 obtain ⟨f0, ew, d3, gG, gH⟩ := cX
 refine (V (Zc (Zd (O Z Z (Zo (v := QG 50 (none)) Z Z (Zb (V (Q1 ?_))))))))
 have gd := Zu hm
 subst r
 refine ⟨_, QX Z, ?_⟩
 exact ⟨f0, (Zt (Zt (Zt (Zt (Zt (Zt (Zt a g) j) m) q) u) aq) ew), d3, Z⟩
theorem N33 : (Tryz.f33.name == "runtime.NumGoroutine") = false := by kernel_rfl
theorem N52 : (Tryz.f52.name == "runtime.NumGoroutine") = false := by kernel_rfl
end Go.Pw
