/- -/
import Derived.Test.YtcpkjkmbdolfnaaGreatDoorLD
import Derived.Test.YtcpkjkmbdolfnaaGreatDoorLC
import Derived.Test.YtcpkjkmbdolfnaaGreatDoorMbP
import Derived.Test.YtcpkjkmbdolfnaaGreatDoorLE
import Derived.Test.YtcpkjkmbdolfnaaGreatDoorLF
import Derived.Test.YtcpkjkmbdolfnaaGreatDoorProg
import Derived.KernelRfl
set_option maxRecDepth 100000
set_option maxHeartbeats 4000000
set_option linter.unusedVariables false
namespace Go.Pw
open Go.Proofs
attribute [local irreducible] Exec WL W andThen Y2 DL QW
theorem Qo1 : QhJ Tryz.prog 192 [0, 1, 151, 168, 169, 170, 171, 172, 173, 174, 175, 176, 177, 178, 179, 180, 181, 182, 183, 184, 185, 186, 187, 188, 189, 190] = true := by kernel_rfl
theorem Tc {ρ : Operand → Value} {o : Oper} {w : World} {K : Value → World → Prop} {Q : Value → World → Prop} {f : FuncId} {args : List Operand} {ts : Array TypeId} {vs : List Value} (ho : o.op = .call { callee := .value (.func f), args := args.toArray, argTypes := ts }) (hc : ρ (.func f) = .func (.func f) #[] #[]) (hlt : QnT 192 [0, 1, 151, 168, 169, 170, 171, 172, 173, 174, 175, 176, 177, 178, 179, 180, 181, 182, 183, 184, 185, 186, 187, 188, 189, 190] f = true) (hargs : List.map ρ args = vs) (h : Calls Tryz.prog f vs.toArray w fun e w' => ∃ v, e = .returned v ∧ Q v w') (hk : ∀ v w', Q v w' → K v w') : Exec Tryz.prog ρ o w K := Qks Qo1 ho hc hlt hargs h hk
theorem Z26 : Jp Tryz.prog 26 = some (Value.agg #[Value.slice none 0 0, Value.slice none 0 0, Value.slice none 0 0, Value.slice none 0 0]) := by kernel_rfl
instance A26 : ATy Tryz.prog 26 true 4 := ⟨by kernel_rfl⟩
theorem QaF {w0 w : World} {s : PHeap} {H : List Res} {r : Task} (hm : Yn = some r) (hS : St w0 s (H) w) :
  Calls Tryz.prog 14 #[] w fun e w' => ∃ v, e = .returned v ∧ ((fun (y25 : Task) => ∃ (l : PHeap) (q : Value) (t : Value) (u : Value) (x : Value), PHeap.le s l ∧ St w0 l (H) w' ∧ v = Value.agg #[q, t, u, x] ∧ SliceRep (U .i64) l q y25.Vars ∧ SliceRep (U .i64) l t y25.Init ∧ SliceRep encFact l u y25.Goal ∧ SliceRep encOp l x y25.Ops) r) := by
 unfold Yn at hm
 refine Qj Tryz.func14 Z Z (G ?_)
 refine Exec.alloc (cs := [Vn, Vn, Vn, Vn]) hS Z26 Z Z ?_
 intro aC bn y
 refine G ?_
 refine Exec.buildSlice (Te := 3) (cs := [O 2, O 3]) y Z (Qc (c := [O 2]) (Qe Z Z) (Qc (c := [O 3]) (Qe Z Z) Qh)) (fun _ => by kernel_rfl) ?_
 intro m bo z
 have aa := St.boxArr (E := (U .i64)) (xs := [2, 3]) z ⟨[O 2], [O 3], rfl, rfl, ⟨[O 3], [], rfl, rfl, rfl⟩⟩ (by simp [maxLen])
 obtain ⟨bb, aE, ab, aQ⟩ := aa.freezeArr
 refine G ?_
 refine Exec.buildSlice (Te := 3) (cs := [O 0, O 0]) ab Z (Qc (c := [O 0]) (Qe Z Z) (Qc (c := [O 0]) (Qe Z Z) Qh)) (fun _ => by kernel_rfl) ?_
 intro n bp ac
 have ad := St.boxArr (E := (U .i64)) (xs := [0, 0]) ac ⟨[O 0], [O 0], rfl, rfl, ⟨[O 0], [], rfl, rfl, rfl⟩⟩ (by simp [maxLen])
 obtain ⟨bc, aF, ae, aR⟩ := ad.freezeArr
 refine G ?_
 refine Exec.build Z (Qc (c := [O 1]) (Qe Z Z) (Qc (c := [O 1]) (Qe Z Z) Qh)) (v := Value.agg #[O 1, O 1]) (fun _ => by kernel_rfl) (G ?_)
 refine Exec.buildSlice (Te := 77) (cs := [O 1, O 1]) ae Z (Qc (c := [O 1, O 1]) (Qe Z Z) Qh) (fun _ => by kernel_rfl) ?_
 intro o bq af
 have ag := St.boxArr (E := encFact) (xs := [(⟨1, 1⟩ : Fact)]) af ⟨[O 1, O 1], [], rfl, ⟨[O 1], [O 1], rfl, rfl, rfl⟩, rfl⟩ (by simp [maxLen])
 obtain ⟨bd, aG, ah, aS⟩ := ag.freezeArr
 refine G ?_
 refine Exec.build Z (Qc (c := [O 0]) (Qe Z Z) (Qc (c := [O 0]) (Qe Z Z) Qh)) (v := Value.agg #[O 0, O 0]) (fun _ => by kernel_rfl) (G ?_)
 refine Exec.buildSlice (Te := 77) (cs := [O 0, O 0]) ah Z (Qc (c := [O 0, O 0]) (Qe Z Z) Qh) (fun _ => by kernel_rfl) ?_
 intro j br ai
 have aj := St.boxArr (E := encFact) (xs := [(⟨0, 0⟩ : Fact)]) ai ⟨[O 0, O 0], [], rfl, ⟨[O 0], [O 0], rfl, rfl, rfl⟩, rfl⟩ (by simp [maxLen])
 obtain ⟨be, aH, ak, aT⟩ := aj.freezeArr
 refine G ?_
 refine Exec.build Z (Qc (c := [O 0]) (Qe Z Z) (Qc (c := [O 1]) (Qe Z Z) Qh)) (v := Value.agg #[Vn, O 0, O 1]) (fun _ => by kernel_rfl) (G ?_)
 refine Exec.buildSlice (Te := 79) (cs := [Vn, O 0, O 1]) ak Z (Qc (c := [Vn, O 0, O 1]) (Qe Z Z) Qh) (fun _ => by kernel_rfl) ?_
 intro k bs al
 have am := St.boxArr (E := encEffect) (xs := [(⟨[], 0, 1⟩ : Effect)]) al ⟨[Vn, O 0, O 1], [], rfl, ⟨[Vn], [O 0, O 1], rfl, ⟨_, rfl, (SliceRep.nil _ _)⟩, ⟨[O 0], [O 1], rfl, rfl, rfl⟩⟩, rfl⟩ (by simp [maxLen])
 obtain ⟨bf, aI, an, aU⟩ := am.freezeArr
 refine G ?_
 refine Exec.build Z (Qc (c := [O 1]) (Qe Z Z) (Qc (c := [Vs (some ⟨j, 0, none⟩) 1 1]) (Qe Z Z) (Qc (c := [Vs (some ⟨k, 0, none⟩) 1 1]) (Qe Z Z) Qh))) (v := Value.agg #[Value.string (⟨#[]⟩), O 1, Vs (some ⟨j, 0, none⟩) 1 1, Vs (some ⟨k, 0, none⟩) 1 1]) (fun _ => by kernel_rfl) (G ?_)
 refine Exec.build Z (Qc (c := [O 0]) (Qe Z Z) (Qc (c := [O 1]) (Qe Z Z) Qh)) (v := Value.agg #[O 0, O 1]) (fun _ => by kernel_rfl) (G ?_)
 refine Exec.buildSlice (Te := 77) (cs := [O 0, O 1]) an Z (Qc (c := [O 0, O 1]) (Qe Z Z) Qh) (fun _ => by kernel_rfl) ?_
 intro g bt ao
 have ap := St.boxArr (E := encFact) (xs := [(⟨0, 1⟩ : Fact)]) ao ⟨[O 0, O 1], [], rfl, ⟨[O 0], [O 1], rfl, rfl, rfl⟩, rfl⟩ (by simp [maxLen])
 obtain ⟨bg, aJ, aq, aV⟩ := ap.freezeArr
 refine G ?_
 refine Exec.build Z (Qc (c := [O 0]) (Qe Z Z) (Qc (c := [O 0]) (Qe Z Z) Qh)) (v := Value.agg #[Vn, O 0, O 0]) (fun _ => by kernel_rfl) (G ?_)
 refine Exec.buildSlice (Te := 79) (cs := [Vn, O 0, O 0]) aq Z (Qc (c := [Vn, O 0, O 0]) (Qe Z Z) Qh) (fun _ => by kernel_rfl) ?_
 intro i bu ar
 have au := St.boxArr (E := encEffect) (xs := [(⟨[], 0, 0⟩ : Effect)]) ar ⟨[Vn, O 0, O 0], [], rfl, ⟨[Vn], [O 0, O 0], rfl, ⟨_, rfl, (SliceRep.nil _ _)⟩, ⟨[O 0], [O 0], rfl, rfl, rfl⟩⟩, rfl⟩ (by simp [maxLen])
 obtain ⟨bh, aK, av, aW⟩ := au.freezeArr
 refine G ?_
 refine Exec.build Z (Qc (c := [O 1]) (Qe Z Z) (Qc (c := [Vs (some ⟨g, 0, none⟩) 1 1]) (Qe Z Z) (Qc (c := [Vs (some ⟨i, 0, none⟩) 1 1]) (Qe Z Z) Qh))) (v := Value.agg #[Value.string (⟨#[]⟩), O 1, Vs (some ⟨g, 0, none⟩) 1 1, Vs (some ⟨i, 0, none⟩) 1 1]) (fun _ => by kernel_rfl) (G ?_)
 refine Exec.build Z (Qc (c := [O 0]) (Qe Z Z) (Qc (c := [O 0]) (Qe Z Z) Qh)) (v := Value.agg #[O 0, O 0]) (fun _ => by kernel_rfl) (G ?_)
 refine Exec.build Z (Qc (c := [O 1]) (Qe Z Z) (Qc (c := [O 0]) (Qe Z Z) Qh)) (v := Value.agg #[O 1, O 0]) (fun _ => by kernel_rfl) (G ?_)
 refine Exec.buildSlice (Te := 77) (cs := [O 0, O 0, O 1, O 0]) av Z (Qc (c := [O 0, O 0]) (Qe Z Z) (Qc (c := [O 1, O 0]) (Qe Z Z) Qh)) (fun _ => by kernel_rfl) ?_
 intro d bv aw
 have ax := St.boxArr (E := encFact) (xs := [(⟨0, 0⟩ : Fact), (⟨1, 0⟩ : Fact)]) aw ⟨[O 0, O 0], [O 1, O 0], rfl, ⟨[O 0], [O 0], rfl, rfl, rfl⟩, ⟨[O 1, O 0], [], rfl, ⟨[O 1], [O 0], rfl, rfl, rfl⟩, rfl⟩⟩ (by simp [maxLen])
 obtain ⟨bi, aL, ay, aX⟩ := ax.freezeArr
 refine G ?_
 refine Exec.build Z (Qc (c := [O 1]) (Qe Z Z) (Qc (c := [O 2]) (Qe Z Z) Qh)) (v := Value.agg #[Vn, O 1, O 2]) (fun _ => by kernel_rfl) (G ?_)
 refine Exec.buildSlice (Te := 79) (cs := [Vn, O 1, O 2]) ay Z (Qc (c := [Vn, O 1, O 2]) (Qe Z Z) Qh) (fun _ => by kernel_rfl) ?_
 intro f bw az
 have a0 := St.boxArr (E := encEffect) (xs := [(⟨[], 1, 2⟩ : Effect)]) az ⟨[Vn, O 1, O 2], [], rfl, ⟨[Vn], [O 1, O 2], rfl, ⟨_, rfl, (SliceRep.nil _ _)⟩, ⟨[O 1], [O 2], rfl, rfl, rfl⟩⟩, rfl⟩ (by simp [maxLen])
 obtain ⟨bj, aM, a1, aY⟩ := a0.freezeArr
 refine G ?_
 refine Exec.build Z (Qc (c := [O 1]) (Qe Z Z) (Qc (c := [Vs (some ⟨d, 0, none⟩) 2 2]) (Qe Z Z) (Qc (c := [Vs (some ⟨f, 0, none⟩) 1 1]) (Qe Z Z) Qh))) (v := Value.agg #[Value.string (⟨#[]⟩), O 1, Vs (some ⟨d, 0, none⟩) 2 2, Vs (some ⟨f, 0, none⟩) 1 1]) (fun _ => by kernel_rfl) (G ?_)
 refine Exec.build Z (Qc (c := [O 0]) (Qe Z Z) (Qc (c := [O 1]) (Qe Z Z) Qh)) (v := Value.agg #[O 0, O 1]) (fun _ => by kernel_rfl) (G ?_)
 refine Exec.build Z (Qc (c := [O 1]) (Qe Z Z) (Qc (c := [O 2]) (Qe Z Z) Qh)) (v := Value.agg #[O 1, O 2]) (fun _ => by kernel_rfl) (G ?_)
 refine Exec.buildSlice (Te := 77) (cs := [O 0, O 1, O 1, O 2]) a1 Z (Qc (c := [O 0, O 1]) (Qe Z Z) (Qc (c := [O 1, O 2]) (Qe Z Z) Qh)) (fun _ => by kernel_rfl) ?_
 intro a bx a2
 have a3 := St.boxArr (E := encFact) (xs := [(⟨0, 1⟩ : Fact), (⟨1, 2⟩ : Fact)]) a2 ⟨[O 0, O 1], [O 1, O 2], rfl, ⟨[O 0], [O 1], rfl, rfl, rfl⟩, ⟨[O 1, O 2], [], rfl, ⟨[O 1], [O 2], rfl, rfl, rfl⟩, rfl⟩⟩ (by simp [maxLen])
 obtain ⟨bk, aN, a4, aZ⟩ := a3.freezeArr
 refine G ?_
 refine Exec.build Z (Qc (c := [O 1]) (Qe Z Z) (Qc (c := [O 1]) (Qe Z Z) Qh)) (v := Value.agg #[Vn, O 1, O 1]) (fun _ => by kernel_rfl) (G ?_)
 refine Exec.buildSlice (Te := 79) (cs := [Vn, O 1, O 1]) a4 Z (Qc (c := [Vn, O 1, O 1]) (Qe Z Z) Qh) (fun _ => by kernel_rfl) ?_
 intro b bz a5
 have a6 := St.boxArr (E := encEffect) (xs := [(⟨[], 1, 1⟩ : Effect)]) a5 ⟨[Vn, O 1, O 1], [], rfl, ⟨[Vn], [O 1, O 1], rfl, ⟨_, rfl, (SliceRep.nil _ _)⟩, ⟨[O 1], [O 1], rfl, rfl, rfl⟩⟩, rfl⟩ (by simp [maxLen])
 obtain ⟨bl, aO, a7, aB⟩ := a6.freezeArr
 refine G ?_
 refine Exec.build Z (Qc (c := [O 1]) (Qe Z Z) (Qc (c := [Vs (some ⟨a, 0, none⟩) 2 2]) (Qe Z Z) (Qc (c := [Vs (some ⟨b, 0, none⟩) 1 1]) (Qe Z Z) Qh))) (v := Value.agg #[Value.string (⟨#[]⟩), O 1, Vs (some ⟨a, 0, none⟩) 2 2, Vs (some ⟨b, 0, none⟩) 1 1]) (fun _ => by kernel_rfl) (G ?_)
 refine Exec.buildSlice (Te := 82) (cs := [Value.string (⟨#[]⟩), O 1, Vs (some ⟨j, 0, none⟩) 1 1, Vs (some ⟨k, 0, none⟩) 1 1, Value.string (⟨#[]⟩), O 1, Vs (some ⟨g, 0, none⟩) 1 1, Vs (some ⟨i, 0, none⟩) 1 1, Value.string (⟨#[]⟩), O 1, Vs (some ⟨d, 0, none⟩) 2 2, Vs (some ⟨f, 0, none⟩) 1 1, Value.string (⟨#[]⟩), O 1, Vs (some ⟨a, 0, none⟩) 2 2, Vs (some ⟨b, 0, none⟩) 1 1]) a7 Z (Qc (c := [Value.string (⟨#[]⟩), O 1, Vs (some ⟨j, 0, none⟩) 1 1, Vs (some ⟨k, 0, none⟩) 1 1]) (Qe Z Z) (Qc (c := [Value.string (⟨#[]⟩), O 1, Vs (some ⟨g, 0, none⟩) 1 1, Vs (some ⟨i, 0, none⟩) 1 1]) (Qe Z Z) (Qc (c := [Value.string (⟨#[]⟩), O 1, Vs (some ⟨d, 0, none⟩) 2 2, Vs (some ⟨f, 0, none⟩) 1 1]) (Qe Z Z) (Qc (c := [Value.string (⟨#[]⟩), O 1, Vs (some ⟨a, 0, none⟩) 2 2, Vs (some ⟨b, 0, none⟩) 1 1]) (Qe Z Z) Qh)))) (fun _ => by kernel_rfl) ?_
 intro p b0 a8
 have a9 := St.boxArr (E := encOp) (xs := [(⟨⟨#[]⟩, 1, [(⟨0, 0⟩ : Fact)], [(⟨[], 0, 1⟩ : Effect)]⟩ : Op), (⟨⟨#[]⟩, 1, [(⟨0, 1⟩ : Fact)], [(⟨[], 0, 0⟩ : Effect)]⟩ : Op), (⟨⟨#[]⟩, 1, [(⟨0, 0⟩ : Fact), (⟨1, 0⟩ : Fact)], [(⟨[], 1, 2⟩ : Effect)]⟩ : Op), (⟨⟨#[]⟩, 1, [(⟨0, 1⟩ : Fact), (⟨1, 2⟩ : Fact)], [(⟨[], 1, 1⟩ : Effect)]⟩ : Op)]) a8 ⟨[Value.string (⟨#[]⟩), O 1, Vs (some ⟨j, 0, none⟩) 1 1, Vs (some ⟨k, 0, none⟩) 1 1], [Value.string (⟨#[]⟩), O 1, Vs (some ⟨g, 0, none⟩) 1 1, Vs (some ⟨i, 0, none⟩) 1 1, Value.string (⟨#[]⟩), O 1, Vs (some ⟨d, 0, none⟩) 2 2, Vs (some ⟨f, 0, none⟩) 1 1, Value.string (⟨#[]⟩), O 1, Vs (some ⟨a, 0, none⟩) 2 2, Vs (some ⟨b, 0, none⟩) 1 1], rfl, ⟨[Value.string (⟨#[]⟩)], [O 1, Vs (some ⟨j, 0, none⟩) 1 1, Vs (some ⟨k, 0, none⟩) 1 1], rfl, rfl, ⟨[O 1], [Vs (some ⟨j, 0, none⟩) 1 1, Vs (some ⟨k, 0, none⟩) 1 1], rfl, rfl, ⟨[Vs (some ⟨j, 0, none⟩) 1 1], [Vs (some ⟨k, 0, none⟩) 1 1], rfl, ⟨_, rfl, rq⟩, ⟨_, rfl, rq⟩⟩⟩⟩, ⟨[Value.string (⟨#[]⟩), O 1, Vs (some ⟨g, 0, none⟩) 1 1, Vs (some ⟨i, 0, none⟩) 1 1], [Value.string (⟨#[]⟩), O 1, Vs (some ⟨d, 0, none⟩) 2 2, Vs (some ⟨f, 0, none⟩) 1 1, Value.string (⟨#[]⟩), O 1, Vs (some ⟨a, 0, none⟩) 2 2, Vs (some ⟨b, 0, none⟩) 1 1], rfl, ⟨[Value.string (⟨#[]⟩)], [O 1, Vs (some ⟨g, 0, none⟩) 1 1, Vs (some ⟨i, 0, none⟩) 1 1], rfl, rfl, ⟨[O 1], [Vs (some ⟨g, 0, none⟩) 1 1, Vs (some ⟨i, 0, none⟩) 1 1], rfl, rfl, ⟨[Vs (some ⟨g, 0, none⟩) 1 1], [Vs (some ⟨i, 0, none⟩) 1 1], rfl, ⟨_, rfl, rq⟩, ⟨_, rfl, rq⟩⟩⟩⟩, ⟨[Value.string (⟨#[]⟩), O 1, Vs (some ⟨d, 0, none⟩) 2 2, Vs (some ⟨f, 0, none⟩) 1 1], [Value.string (⟨#[]⟩), O 1, Vs (some ⟨a, 0, none⟩) 2 2, Vs (some ⟨b, 0, none⟩) 1 1], rfl, ⟨[Value.string (⟨#[]⟩)], [O 1, Vs (some ⟨d, 0, none⟩) 2 2, Vs (some ⟨f, 0, none⟩) 1 1], rfl, rfl, ⟨[O 1], [Vs (some ⟨d, 0, none⟩) 2 2, Vs (some ⟨f, 0, none⟩) 1 1], rfl, rfl, ⟨[Vs (some ⟨d, 0, none⟩) 2 2], [Vs (some ⟨f, 0, none⟩) 1 1], rfl, ⟨_, rfl, rq⟩, ⟨_, rfl, rq⟩⟩⟩⟩, ⟨[Value.string (⟨#[]⟩), O 1, Vs (some ⟨a, 0, none⟩) 2 2, Vs (some ⟨b, 0, none⟩) 1 1], [], rfl, ⟨[Value.string (⟨#[]⟩)], [O 1, Vs (some ⟨a, 0, none⟩) 2 2, Vs (some ⟨b, 0, none⟩) 1 1], rfl, rfl, ⟨[O 1], [Vs (some ⟨a, 0, none⟩) 2 2, Vs (some ⟨b, 0, none⟩) 1 1], rfl, rfl, ⟨[Vs (some ⟨a, 0, none⟩) 2 2], [Vs (some ⟨b, 0, none⟩) 1 1], rfl, ⟨_, rfl, rq⟩, ⟨_, rfl, aB⟩⟩⟩⟩, rfl⟩⟩⟩⟩ (by simp [maxLen])
 obtain ⟨bm, aP, aD, ba⟩ := a9.freezeArr
 refine G ?_
 refine Exec.build Z (Qc (c := [Vs (some ⟨m, 0, none⟩) 2 2]) (Qe Z Z) (Qc (c := [Vs (some ⟨n, 0, none⟩) 2 2]) (Qe Z Z) (Qc (c := [Vs (some ⟨o, 0, none⟩) 1 1]) (Qe Z Z) (Qc (c := [Vs (some ⟨p, 0, none⟩) 4 4]) (Qe Z Z) Qh)))) (v := Value.agg #[Vs (some ⟨m, 0, none⟩) 2 2, Vs (some ⟨n, 0, none⟩) 2 2, Vs (some ⟨o, 0, none⟩) 1 1, Vs (some ⟨p, 0, none⟩) 4 4]) (fun _ => by kernel_rfl) (G ?_)
 refine JU Z Z Z ?_
 intro b1 aA
 cases hm
 refine G ?_
 refine ⟨_, QlM Z ⟨_, _, Z, Je (aA) A26.h⟩, ?_⟩
 exact fq
instance F26_0 : FTy Tryz.prog 26 0 0 := ⟨by kernel_rfl⟩
instance A22 : ATy Tryz.prog 22 false 1 := ⟨by kernel_rfl⟩
instance S22 : STy Tryz.prog 22 3 1 8 := ⟨by kernel_rfl⟩
instance F26_3 : FTy Tryz.prog 26 3 3 := ⟨by kernel_rfl⟩
instance A24 : ATy Tryz.prog 24 false 1 := ⟨by kernel_rfl⟩
instance S24 : STy Tryz.prog 24 82 4 72 := ⟨by kernel_rfl⟩
instance A82 : ATy Tryz.prog 82 true 4 := ⟨by kernel_rfl⟩
theorem Z82 : Jp Tryz.prog 82 = some (Value.agg #[Value.string ⟨#[]⟩, O 0, Value.slice none 0 0, Value.slice none 0 0]) := by kernel_rfl
instance F82_3 : FTy Tryz.prog 82 3 3 := ⟨by kernel_rfl⟩
instance A80 : ATy Tryz.prog 80 false 1 := ⟨by kernel_rfl⟩
instance S80 : STy Tryz.prog 80 79 3 40 := ⟨by kernel_rfl⟩
instance F26_2 : FTy Tryz.prog 26 2 2 := ⟨by kernel_rfl⟩
instance A23 : ATy Tryz.prog 23 false 1 := ⟨by kernel_rfl⟩
instance F82_2 : FTy Tryz.prog 82 2 2 := ⟨by kernel_rfl⟩
instance S83 : STy Tryz.prog 83 23 1 24 := ⟨by kernel_rfl⟩
theorem Z23 : Jp Tryz.prog 23 = some (Value.slice none 0 0) := by kernel_rfl
instance A79 : ATy Tryz.prog 79 true 3 := ⟨by kernel_rfl⟩
theorem Z79 : Jp Tryz.prog 79 = some (Value.agg #[Value.slice none 0 0, O 0, O 0]) := by kernel_rfl
instance F79_0 : FTy Tryz.prog 79 0 0 := ⟨by kernel_rfl⟩
theorem Qb2 {w0 w : World} {s : PHeap} {H : List Res} {a : Task} {ac : Value} {ad : Value} {g : Value} {i : Value} {r : (List (List Fact))} (hm : Kl a = some r) (hS : St w0 s (H) w) (a9 : SliceRep (U .i64) s ac a.Vars) (aA : SliceRep (U .i64) s ad a.Init) (t : SliceRep encFact s g a.Goal) (aB : SliceRep encOp s i a.Ops) :
  Calls Tryz.prog 32 #[Value.agg #[ac, ad, g, i]] w fun e w' => ∃ v, e = .returned v ∧ ((fun (a8 : (List (List Fact))) => ∃ (o : PHeap) (ae : Value), PHeap.le s o ∧ St w0 o (H) w' ∧ v = ae ∧ SliceRep (Qu encFact) o ae a8) r) := by
 unfold Kl at hm
 refine Qj Tryz.func32 Z Z (G ?_)
 refine JY Z Z ?_
 intro aC bx ao
 refine G ?_
 refine Exec.buildSlice (Te := 23) (cs := [g]) ao Z (Qc (c := [g]) (Qe Z (Ql t.one)) Qh) (fun _ => by kernel_rfl) ?_
 intro aD bz ap
 obtain ⟨n, ai, hm⟩ := V hm
 refine G ?_
 refine QH (fun k' s' f' w' => (fun (n : (List (List Fact))) => ∃ (aa : PHeap) (j : Value), PHeap.le s aa ∧ St w0 aa (Res.arr (Qu encFact) 23 j n :: H) w' ∧ Fx f' [(14, O (k' : Int)), (3, j), (12, i), (13, O ((a.Ops.length : Int)))]) s') ai ?_ ?_ ?_
 ·have aS := St.boxArr (E := (Qu encFact)) (xs := [a.Goal]) ap ⟨[g], [], rfl, ⟨_, rfl, t⟩, rfl⟩ (by simp [maxLen])
  exact fq
 ·intro ay n bn aK b0 aZ ak b
  obtain ⟨a5, j, bc, u, ⟨aL, rfl⟩⟩ := ak
  obtain ⟨af, az, b⟩ := V b
  refine G ?_
  refine Jt Z Z Z az ?_
  intro aE bj ag
  refine G ?_
  refine Zw (E := encOp) u A82.h Z Z Z ag ?_
  intro bt a0
  obtain ⟨p, a6, rfl, y, bl⟩ := Ys.1 a0
  refine G ?_
  refine Exec.alloc (cs := [Value.string (⟨#[]⟩), O 0, Vn, Vn]) u Z82 Z Z ?_
  intro aF b1 aT
  refine G ?_
  refine JU Z Z Z ?_
  intro b2 aq
  refine G ?_
  refine Exec.buildSlice (Te := 23) (cs := [p]) aq Z (Qc (c := [p]) (Qe Z (Ql y.one)) Qh) (fun _ => by kernel_rfl) ?_
  intro aG b3 ar
  obtain ⟨bd, a1, b⟩ := V b
  refine G ?_
  refine Qt (E := (Qu encFact)) (ys := [af.Pre]) ar.f2 S83.h Z23 Z (by decide) Z Z Z Z ⟨[p], [], Z, ⟨_, Z, y⟩, Z⟩ Z a1 ?_
  intro bu b4 au
  obtain ⟨m, aj, b⟩ := V b
  refine G ?_
  refine QH (fun k' s' f' w' => (fun (m : (List (List Fact))) => ∃ (ab : PHeap) (l : Value), PHeap.le a5 ab ∧ St w0 ab (Res.arr (Qu encFact) 23 l m :: H) w' ∧ Fx f' [(26, O (k' : Int)), (3, l), (12, i), (13, O ((a.Ops.length : Int))), (14, O ((ay : Int))), (24, a6), (25, O ((af.Effs.length : Int)))]) s') aj ?_ ?_ ?_
  ·have aU := (au.f1).drop
   exact fq
  ·intro bb m bo aM b5 ba al d
   obtain ⟨bp, l, be, x, ⟨aN, rfl⟩⟩ := al
   obtain ⟨a7, a2, d⟩ := V d
   refine G ?_
   refine Jt Z Z Z a2 ?_
   intro aH bk ah
   refine G ?_
   refine Zw (E := encEffect) x A79.h Z Z Z ah ?_
   intro bv a3
   obtain ⟨q, rfl, z⟩ := Yv.1 a3
   refine G ?_
   refine Exec.alloc (cs := [Vn, O 0, O 0]) x Z79 Z Z ?_
   intro aI b6 aV
   refine G ?_
   refine JU Z Z Z ?_
   intro b7 av
   refine G ?_
   refine Exec.buildSlice (Te := 23) (cs := [q]) av Z (Qc (c := [q]) (Qe Z (Ql z.one)) Qh) (fun _ => by kernel_rfl) ?_
   intro aJ b8 aw
   obtain ⟨bf, a4, d⟩ := V d
   refine G ?_
   refine Qt (E := (Qu encFact)) (ys := [a7.When]) aw.f2 S83.h Z23 Z (by decide) Z Z Z Z ⟨[q], [], Z, ⟨_, Z, z⟩, Z⟩ Z a4 ?_
   intro bw b9 aW
   cases d
   refine G ?_
   exact fq
  intro aO bA am
  obtain ⟨bq, l, bg, aX, ⟨aP, rfl⟩⟩ := am
  cases b
  refine G ?_
  exact fq
 intro aQ bB an
 obtain ⟨br, j, bh, ax, ⟨aR, rfl⟩⟩ := an
 cases hm
 refine G ?_
 refine ⟨_, Yc Z, ?_⟩
 obtain ⟨bs, bi, aY, bm⟩ := ax.freezeArr
 exact fq
instance S23 : STy Tryz.prog 23 77 2 16 := ⟨by kernel_rfl⟩
theorem N58 : (Tryz.f58.name == "runtime.NumGoroutine") = false := by kernel_rfl
theorem QeL {w0 w : World} {s : PHeap} {H : List Res} {a : (List Fact)} {c : Value} {r : Bool} (hm : Yj a = some r) (hS : St w0 s (H) w) (f : SliceRep encFact s c a) :
  Calls Tryz.prog 58 #[c] w fun e w' => ∃ v, e = .returned v ∧ ((fun (d : Bool) => ∃ (b : PHeap) , PHeap.le s b ∧ St w0 b (H) w' ∧ v = Value.bool (d)) r) := by
 unfold Yj at hm
 refine Qj Tryz.func58 Z Z ?_
 cases hm
 refine G ?_
 exact fr
theorem Qds {w0 w : World} {s : PHeap} {H : List Res} {b : (List (List Fact))} {c : Value} {r : Int} (hm : K9 b = some r) (hS : St w0 s (H) w) (aj : SliceRep (Qu encFact) s c b) :
  Calls Tryz.prog 80 #[c, Value.func (.func 58) #[] #[]] w fun e w' => ∃ v, e = .returned v ∧ ((fun (ai : Int) => ∃ (l : PHeap) , PHeap.le s l ∧ St w0 l (H) w' ∧ v = O ai) r) := by
 unfold K9 at hm
 refine Qj Tryz.func80 Z Z ?_
 obtain ⟨d, p, ab, z, x⟩ := Qs hm
 refine Zc (Zd (g ?_))
 refine Zc (Zc (Zd (g ?_)))
 refine Qo (M := fun f' w' => ∃ s', (d = .next s' ∨ d = .brk s') ∧ (fun (_ : Unit) => ∃ (m : PHeap) , PHeap.le s m ∧ St w0 m (H) w' ∧ Fx f' [(0, c), (1, Value.func (.func 58) #[] #[]), (7, O ((b.length : Int)))]) s') ?_ ?_
 ·refine G ?_
  refine QP (fun k' s' f' w' => (fun (_ : Unit) => ∃ (n : PHeap) , PHeap.le s n ∧ St w0 n (H) w' ∧ Fx f' [(8, O (k' : Int)), (0, c), (1, Value.func (.func 58) #[] #[]), (7, O ((b.length : Int)))]) s') p ?_ ?_ ?_
  ·exact fq
  ·intro ay a8 al am aC ax q a ac
   obtain ⟨a4, az, i, ⟨an, rfl⟩⟩ := q
   obtain ⟨ah, ae, a⟩ := V a
   refine G ?_
   refine Jt Z Z Z ae ?_
   intro ak a3 o
   refine G ?_
   refine Zw (E := (Qu encFact)) i A23.h Z Z Z o ?_
   intro aB af
   have ag := Jb.1 af
   refine G ?_
   refine Qkq Z Z Tryz.func58 Z N58 (Zi Z QT) ((QeL (Qch ah) i ag).mono ?_)
   rintro _ aD ⟨_, rfl, ⟨a5, a0, au, rfl⟩⟩
   refine ⟨_, Z, ?_⟩
   refine G ?_
   rcases Qp a with ⟨y, a⟩ | ⟨y, a⟩
   ·cases a
    have aa := ab _ (ac (by intro _ h; cases h))
    cases aa
    refine G ?_
    exact fr
   cases a
   refine G ?_
   exact ⟨_, Z, fq⟩
  intro a9 ao aE t ad
  obtain ⟨a6, a1, av, ⟨ap, rfl⟩⟩ := t
  refine G ?_
  exact ⟨_, .inl ad, fq⟩
 rintro aq aF ⟨aA, j, u⟩
 have hm := j.elim (z _) (x _)
 clear j
 obtain ⟨a7, a2, aw, ⟨ar, rfl⟩⟩ := u
 cases hm
 refine G ?_
 exact fr
theorem QeU {w0 w : World} {s : PHeap} {H : List Res} {b : (List (List Fact))} {c : Value} {r : Bool} (hm : Yq b = some r) (hS : St w0 s (H) w) (d : SliceRep (Qu encFact) s c b) :
  Calls Tryz.prog 57 #[c, Value.func (.func 58) #[] #[]] w fun e w' => ∃ v, e = .returned v ∧ ((fun (g : Bool) => ∃ (a : PHeap) , PHeap.le s a ∧ St w0 a (H) w' ∧ v = Value.bool (g)) r) := by
 unfold Yq at hm
 refine Qj Tryz.func57 Z Z ?_
 obtain ⟨l, f, hm⟩ := V hm
 refine G ?_
 refine Tc Z Z Z Z (Qds f hS d).r ?_
 rintro _ k ⟨j, i, h, rfl⟩
 cases hm
 refine G ?_
 exact fr
theorem QgY {w0 w : World} {s : PHeap} {H : List Res} {a : Task} {i : Value} {j : Value} {l : Value} {c : Value} {r : Bool} (hm : Qa4 a = some r) (hS : St w0 s (H) w) (ax : SliceRep (U .i64) s i a.Vars) (ay : SliceRep (U .i64) s j a.Init) (az : SliceRep encFact s l a.Goal) (a0 : SliceRep encOp s c a.Ops) :
  Calls Tryz.prog 31 #[Value.agg #[i, j, l, c]] w fun e w' => ∃ v, e = .returned v ∧ ((fun (aw : Bool) => ∃ (q : PHeap) , PHeap.le s q ∧ St w0 q (H) w' ∧ v = Value.bool (aw)) r) := by
 unfold Qa4 at hm
 refine Qj Tryz.func31 Z Z (G ?_)
 refine JY Z Z ?_
 intro d bf aC
 refine g ?_
 refine Zc (Zc (Qo (M := fun f' w' => ∃ (t : PHeap) , PHeap.le s t ∧ St w0 t (Res.box d 26 [i, j, l, c] :: H) w' ∧ Fx f' [(1, Vq d), (14, Vb (((decide (64 < (a.Vars.length : Int))) || decide (4096 < (a.Ops.length : Int)))))]) ?_ ?_))
 ·refine G ?_
  rcases tf (decide (64 < (a.Vars.length : Int))) with ai | ai
  ·refine G ?_
   exact fq
  refine G ?_
  exact fq
 intro a4 bg ad
 obtain ⟨u, aK, aD, ⟨a5, rfl⟩⟩ := ad
 refine G ?_
 rcases Qp hm with ⟨o, hm⟩ | ⟨o, hm⟩
 ·cases hm
  refine G ?_
  exact fr
 obtain ⟨m, aa, am, ak, ah⟩ := Qs hm
 refine W_c Z o (QaN (J3 (Ze (Zc (Zc (Zd (g ?_)))))))
 refine Qo (M := fun f' w' => ∃ s', (m = .next s' ∨ m = .brk s') ∧ (fun (_ : Unit) => ∃ (x : PHeap) , PHeap.le u x ∧ St w0 x (Res.box d 26 [i, j, l, c] :: H) w' ∧ Fx f' [(1, Vq d), (16, c), (17, O ((a.Ops.length : Int)))]) s') ?_ ?_
 ·refine G ?_
  refine QP (fun k' s' f' w' => (fun (_ : Unit) => ∃ (y : PHeap) , PHeap.le u y ∧ St w0 y (Res.box d 26 [i, j, l, c] :: H) w' ∧ Fx f' [(18, O (k' : Int)), (1, Vq d), (16, c), (17, O ((a.Ops.length : Int)))]) s') aa ?_ ?_ ?_
  ·exact fq
  ·intro aJ aY a3 a6 bh aI ab b an
   obtain ⟨aT, aL, n, ⟨a7, rfl⟩⟩ := ab
   obtain ⟨bo, ap, b⟩ := V b
   refine G ?_
   refine Jt Z Z Z ap ?_
   intro a1 aQ z
   refine G ?_
   refine Zw (E := encOp) n A82.h Z Z Z z ?_
   intro bd aq
   obtain ⟨bb, bc, rfl, aR, aS⟩ := Ys.1 aq
   refine G ?_
   refine Exec.alloc (cs := [Value.string (⟨#[]⟩), O 0, Vn, Vn]) n Z82 Z Z ?_
   intro a2 bi aE
   refine G ?_
   refine JU Z Z Z ?_
   intro bj aF
   refine G ?_
   rcases Qp b with ⟨aj, b⟩ | ⟨aj, b⟩
   ·cases b
    have al := am _ (an (by intro _ h; cases h))
    cases al
    refine G ?_
    exact fr
   cases b
   refine G ?_
   exact ⟨_, Z, fq⟩
  intro aZ a8 bk ac ao
  obtain ⟨aU, aM, aG, ⟨a9, rfl⟩⟩ := ac
  refine G ?_
  exact ⟨_, .inl ao, fq⟩
 rintro aA bl ⟨ba, p, ae⟩
 have hm := p.elim (ak _) (ah _)
 clear p
 obtain ⟨aV, aN, af, ⟨aB, rfl⟩⟩ := ae
 obtain ⟨bp, ar, hm⟩ := V hm
 refine G ?_
 refine Tc Z Z Z Z (Qb2 ar af rq rq rq rq).r ?_
 rintro be bm ⟨aW, _, aO, ag, rfl, av⟩
 obtain ⟨bq, au, hm⟩ := V hm
 refine G ?_
 refine Tc Z Z Z Z (QeU au ag av).r ?_
 rintro _ bn ⟨aX, aP, aH, rfl⟩
 cases hm
 refine G ?_
 exact fr
theorem C57 : Tryz.prog.concrete 57 = true := by kernel_rfl
instance A3 : ATy Tryz.prog 3 false 1 := ⟨by kernel_rfl⟩
instance F82_1 : FTy Tryz.prog 82 1 1 := ⟨by kernel_rfl⟩
instance F26_1 : FTy Tryz.prog 26 1 1 := ⟨by kernel_rfl⟩
theorem QfH {w0 w : World} {s : PHeap} {H : List Res} {x : (List Int)} {c : (List Int)} {d : Value} {i : Value} {r : Bool} (hm : YY x c = some r) (hS : St w0 s (H) w) (aw : SliceRep (U .i64) s d x) (ax : SliceRep (U .i64) s i c) :
  Calls Tryz.prog 29 #[d, i] w fun e w' => ∃ v, e = .returned v ∧ ((fun (av : Bool) => ∃ (p : PHeap) , PHeap.le s p ∧ St w0 p (H) w' ∧ v = Value.bool (av)) r) := by
 unfold YY at hm
 refine Qj Tryz.func29 Z Z (G ?_)
 rcases Qp hm with ⟨n, hm⟩ | ⟨n, hm⟩
 ·cases hm
  refine G ?_
  exact fr
 obtain ⟨l, aa, ak, ai, af⟩ := Qs hm
 refine W_c Z n (QaN (J3 (Ze (Zc (Zc (Zd (g ?_)))))))
 refine Qo (M := fun f' w' => ∃ s', (l = .next s' ∨ l = .brk s') ∧ (fun (_ : Unit) => ∃ (q : PHeap) , PHeap.le s q ∧ St w0 q (H) w' ∧ Fx f' [(0, d), (12, i), (13, O ((c.length : Int)))]) s') ?_ ?_
 ·refine G ?_
  refine QP (fun k' s' f' w' => (fun (_ : Unit) => ∃ (t : PHeap) , PHeap.le s t ∧ St w0 t (H) w' ∧ Fx f' [(14, O (k' : Int)), (0, d), (12, i), (13, O ((c.length : Int)))]) s') aa ?_ ?_ ?_
  ·exact fq
  ·intro an aM a0 a1 aR aC ab a al
   obtain ⟨au, aD, m, ⟨a2, rfl⟩⟩ := ab
   obtain ⟨aV, ao, a⟩ := V a
   refine G ?_
   refine Jt Z Z Z ao ?_
   intro ay aH y
   refine G ?_
   refine Zw (E := (U .i64)) m A3.h Z Z Z y ?_
   intro aP ap
   obtain rfl := Qf.1 ap
   obtain ⟨j, b, a⟩ := V a
   refine g ?_
   refine Zc (Qo (M := fun f' w' => (fun (j : Bool) => ∃ (u : PHeap) , PHeap.le au u ∧ St w0 u (H) w' ∧ Fx f' [(0, d), (12, i), (13, O ((c.length : Int))), (14, O ((an : Int))), (28, Vb j)]) j) ?_ ?_)
   ·refine G ?_
    rcases Qp b with ⟨ag, b⟩ | ⟨ag, b⟩
    ·cases b
     refine G ?_
     exact fq
    obtain ⟨aW, aq, b⟩ := V b
    refine G ?_
    refine Jt Z Z Z aq ?_
    intro az aI z
    refine G ?_
    refine Zw (E := (U .i64)) m A3.h Z Z Z z ?_
    intro aQ ar
    obtain rfl := Qf.1 ar
    cases b
    refine G ?_
    exact fq
   intro a3 aS ad
   obtain ⟨aJ, aE, a9, ⟨a4, rfl⟩⟩ := ad
   refine G ?_
   rcases Qp a with ⟨ah, a⟩ | ⟨ah, a⟩
   ·cases a
    have aj := ak _ (al (by intro _ h; cases h))
    cases aj
    refine G ?_
    exact fr
   cases a
   refine G ?_
   exact ⟨_, Z, fq⟩
  intro aN a5 aT ac am
  obtain ⟨aK, aF, aA, ⟨a6, rfl⟩⟩ := ac
  refine G ?_
  exact ⟨_, .inl am, fq⟩
 rintro a7 aU ⟨aO, o, ae⟩
 have hm := o.elim (ai _) (af _)
 clear o
 obtain ⟨aL, aG, aB, ⟨a8, rfl⟩⟩ := ae
 cases hm
 refine G ?_
 exact fr
instance A77 : ATy Tryz.prog 77 true 2 := ⟨by kernel_rfl⟩
theorem Z77 : Jp Tryz.prog 77 = some (Value.agg #[O 0, O 0]) := by kernel_rfl
theorem J2 : Tryz.prog.follows .mixedOrders = true := by kernel_rfl
instance F77_0 : FTy Tryz.prog 77 0 0 := ⟨by kernel_rfl⟩
instance F77_1 : FTy Tryz.prog 77 1 1 := ⟨by kernel_rfl⟩
theorem Qdh {w0 w : World} {s : PHeap} {H : List Res} {z : (List Int)} {c : (List Fact)} {d : Value} {i : Value} {r : Bool} (hm : YH z c = some r) (hS : St w0 s (H) w) (ab : SliceRep (U .i64) s d z) (a5 : SliceRep encFact s i c) :
  Calls Tryz.prog 33 #[d, i] w fun e w' => ∃ v, e = .returned v ∧ ((fun (a4 : Bool) => ∃ (t : PHeap) , PHeap.le s t ∧ St w0 t (H) w' ∧ v = Value.bool (a4)) r) := by
 unfold YH at hm
 refine Qj Tryz.func33 Z Z ?_
 obtain ⟨n, ae, au, aq, al⟩ := Qs hm
 refine Zc (Zd (g ?_))
 refine Zc (Zd (g ?_))
 refine Zc (Zc (Zd (g ?_)))
 refine Qo (M := fun f' w' => ∃ s', (n = .next s' ∨ n = .brk s') ∧ (fun (q : Int) => ∃ (u : PHeap) , PHeap.le s u ∧ St w0 u (H) w' ∧ Fx f' [(0, d), (5, O q), (8, i), (9, O ((c.length : Int)))]) s') ?_ ?_
 ·refine G ?_
  refine QP (fun k' s' f' w' => (fun (j : Int) => ∃ (x : PHeap) , PHeap.le s x ∧ St w0 x (H) w' ∧ Fx f' [(10, O (k' : Int)), (0, d), (5, O j), (8, i), (9, O ((c.length : Int)))]) s') ae ?_ ?_ ?_
  ·exact fq
  ·intro ax j a8 aA aX aM af b av
   obtain ⟨a3, ay, o, ⟨aB, rfl⟩⟩ := af
   obtain ⟨aa, az, b⟩ := V b
   refine G ?_
   refine Jt Z Z Z az ?_
   intro a6 aQ ac
   refine G ?_
   refine Zw (E := encFact) o A77.h Z Z Z ac ?_
   intro aV a0
   obtain rfl := KH.1 a0
   refine G ?_
   refine Exec.alloc (cs := [O 0, O 0]) o Z77 Z Z ?_
   intro m aY aI
   refine G ?_
   refine JU Z Z Z ?_
   intro aZ aj
   obtain ⟨l, a, b⟩ := V b
   refine g ?_
   refine Zc (Zc (Qo (M := fun f' w' => (fun (l : Bool) => ∃ (y : PHeap) , PHeap.le a3 y ∧ St w0 y (Res.box m 77 [O (aa.Var), O (aa.Val)] :: H) w' ∧ Fx f' [(0, d), (7, Vq m), (8, i), (9, O ((c.length : Int))), (10, O ((ax : Int))), (39, Vb l)]) l) ?_ ?_))
   ·refine Jz (n0 := 26) (qs 0 26 .done) J2 (by kernel_rfl) (by kernel_rfl) ?_
    have ak := aj.drew
    refine G ?_
    rcases Qp a with ⟨am, a⟩ | ⟨am, a⟩
    ·cases a
     refine G ?_
     exact fq
    refine G ?_
    rcases Qp a with ⟨an, a⟩ | ⟨an, a⟩
    ·cases a
     refine G ?_
     exact fq
    refine G ?_
    rcases Qp a with ⟨ao, a⟩ | ⟨ao, a⟩
    ·cases a
     refine G ?_
     exact fq
    obtain ⟨bd, a1, a⟩ := V a
    refine G ?_
    refine Qm S22.h Z Z Z (ab.mono ay) a1 ?_
    intro a7 aR ad a9
    refine ⟨Z, ?_⟩
    refine G ?_
    refine Zw (E := (U .i64)) ak A3.h Z Z Z ad ?_
    intro aW a2
    obtain rfl := Qf.1 a2
    refine ⟨Z, ?_⟩
    cases a
    refine G ?_
    exact fq
   intro aC ba ah
   obtain ⟨aS, aN, aJ, ⟨aD, rfl⟩⟩ := ah
   refine G ?_
   rcases Qp b with ⟨ap, b⟩ | ⟨ap, b⟩
   ·cases b
    have ar := au _ (av (by intro _ h; cases h))
    cases ar
    refine G ?_
    exact fr
   cases b
   refine G ?_
   exact ⟨_, Z, fq⟩
  intro j aE bb ag aw
  obtain ⟨aT, aO, aK, ⟨aF, rfl⟩⟩ := ag
  refine G ?_
  exact ⟨_, .inl aw, fq⟩
 rintro aG bc ⟨q, p, ai⟩
 have hm := p.elim (aq _) (al _)
 clear p
 obtain ⟨aU, aP, aL, ⟨aH, rfl⟩⟩ := ai
 cases hm
 refine G ?_
 exact fr
instance F79_1 : FTy Tryz.prog 79 1 1 := ⟨by kernel_rfl⟩
instance F79_2 : FTy Tryz.prog 79 2 2 := ⟨by kernel_rfl⟩
instance F82_0 : FTy Tryz.prog 82 0 0 := ⟨by kernel_rfl⟩
instance A9 : ATy Tryz.prog 9 false 1 := ⟨by kernel_rfl⟩
theorem QgX {w0 w : World} {s : PHeap} {H : List Res} {a : ByteArray} {r : Bool} (hm : Qa3 a = some r) (hS : St w0 s (H) w) :
  Calls Tryz.prog 34 #[Value.string (a)] w fun e w' => ∃ v, e = .returned v ∧ ((fun (an : Bool) => ∃ (m : PHeap) , PHeap.le s m ∧ St w0 m (H) w' ∧ v = Value.bool (an)) r) := by
 unfold Qa3 at hm
 refine Qj Tryz.func34 Z Z (G ?_)
 refine Qa9 Tryz.underlying9 Z Z ?_
 obtain ⟨aB, ak, hm⟩ := V hm
 obtain ⟨i, q, ag, ae, aa⟩ := Qs hm
 refine g ?_
 refine Qo (M := fun f' w' => ∃ s', (i = .next s' ∨ i = .brk s') ∧ (fun (_ : Unit) => ∃ (n : PHeap) , PHeap.le s n ∧ St w0 n (H) w' ∧ Fx f' [(0, Value.string (a)), (5, O ((a.size : Int)))]) s') ?_ ?_
 ·refine G ?_
  refine QP (fun k' s' f' w' => (fun (_ : Unit) => ∃ (o : PHeap) , PHeap.le s o ∧ St w0 o (H) w' ∧ Fx f' [(6, O (k' : Int)), (0, Value.string (a)), (5, O ((a.size : Int)))]) s') q ?_ ?_ ?_
  ·exact fq
  ·intro aj a8 ao ap aC ad t b ah
   obtain ⟨al, a2, az, ⟨aq, rfl⟩⟩ := t
   obtain ⟨d, c, b⟩ := V b
   refine Zc (Zd (g ?_))
   refine Zc (QaO (Zx (decide_eq_true (by omega))) (J3 (Ze (Zc (Qae (Zc (Zd (g ?_))))))))
   refine Zc (Qo (M := fun f' w' => (fun (d : Bool) => ∃ (p : PHeap) , PHeap.le al p ∧ St w0 p (H) w' ∧ Fx f' [(0, Value.string (a)), (5, O ((a.size : Int))), (6, O ((aj : Int))), (18, Vb d)]) d) ?_ ?_)
   ·obtain ⟨aG, l, c⟩ := V c
    refine G ?_
    refine QaB Tryz.underlying9 Z Z Z l (G ?_)
    rcases Qp c with ⟨ab, c⟩ | ⟨ab, c⟩
    ·cases c
     refine G ?_
     exact fq
    refine G ?_
    refine QaB Tryz.underlying9 Z Z Z l ?_
    cases c
    refine G ?_
    exact fq
   intro ar aD x
   obtain ⟨am, a3, z, ⟨au, rfl⟩⟩ := x
   refine G ?_
   rcases Qp b with ⟨ac, b⟩ | ⟨ac, b⟩
   ·cases b
    have af := ag _ (ah (by intro _ h; cases h))
    cases af
    refine G ?_
    exact fr
   cases b
   refine G ?_
   refine ⟨_, Z, ?_⟩; exact ⟨am, lq, z, (Fx.mk (FxL.cons (QD ad (by have h := Qr ak; simp at h; simp only [maxLen]; omega)) fxl))⟩
  intro a9 av aE u ai
  obtain ⟨a6, a4, a0, ⟨aw, rfl⟩⟩ := u
  refine G ?_
  exact ⟨_, .inl ai, fq⟩
 rintro ax aF ⟨aA, j, y⟩
 have hm := j.elim (ae _) (aa _)
 clear j
 obtain ⟨a7, a5, a1, ⟨ay, rfl⟩⟩ := y
 refine G ?_
 refine Qa9 Tryz.underlying9 Z Z ?_
 cases hm
 refine G ?_
 exact fr
theorem Qdi {w0 w : World} {s : PHeap} {H : List Res} {d : Task} {i : Value} {j : Value} {l : Value} {b : Value} {r : (Option Int)} (hm : YI d = some r) (hS : St w0 s (H) w) (aP : SliceRep (U .i64) s i d.Vars) (aQ : SliceRep (U .i64) s j d.Init) (aR : SliceRep encFact s l d.Goal) (aS : SliceRep encOp s b d.Ops) :
  Calls Tryz.prog 17 #[Value.agg #[i, j, l, b]] w fun e w' => ∃ v, e = .returned v ∧ ((fun (cC : (Option Int)) => ∃ (au : PHeap) , PHeap.le s au ∧ St w0 au (H) w' ∧ v = Qaw 57 (cC)) r) := by
 unfold YI at hm
 refine Qj Tryz.func17 Z Z (G ?_)
 refine JY Z Z ?_
 intro a fB bt
 obtain ⟨go, cp, hm⟩ := V hm
 refine G ?_
 refine Tc Z Z Z Z (QgY cp bt aP aQ aR aS).r ?_
 rintro _ fC ⟨av, eg, d9, rfl⟩
 refine G ?_
 rcases Qp hm with ⟨ak, hm⟩ | ⟨ak, hm⟩
 ·refine G ?_
  refine Exec.makeInterface C57 Z Z ?_
  cases hm
  refine G ?_
  exact fr
 obtain ⟨z, aT, bV, bJ, b5⟩ := Qs hm
 refine W_c Z ak (QaN (J3 (Ze (Zc (Zc (Zd (g ?_)))))))
 refine Qo (M := fun f' w' => ∃ s', (z = .next s' ∨ z = .brk s') ∧ (fun (_ : Unit) => ∃ (aw : PHeap) , PHeap.le av aw ∧ St w0 aw (Res.box a 26 [i, j, l, b] :: H) w' ∧ Fx f' [(1, Vq a), (19, i), (20, O ((d.Vars.length : Int)))]) s') ?_ ?_
 ·refine G ?_
  refine QP (fun k' s' f' w' => (fun (_ : Unit) => ∃ (ax : PHeap) , PHeap.le av ax ∧ St w0 ax (Res.box a 26 [i, j, l, b] :: H) w' ∧ Fx f' [(21, O (k' : Int)), (1, Vq a), (19, i), (20, O ((d.Vars.length : Int)))]) s') aT ?_ ?_ ?_
  ·exact fq
  ·intro cn ff cO cU fD dX aZ q cb
   obtain ⟨cA, eh, bu, ⟨cV, rfl⟩⟩ := aZ
   obtain ⟨x, cq, q⟩ := V q
   refine G ?_
   refine Jt Z Z Z cq ?_
   intro cD e8 aJ
   refine G ?_
   refine Zw (E := (U .i64)) bu A3.h Z Z Z aJ ?_
   intro f5 cr
   obtain rfl := Qf.1 cr
   refine g ?_
   refine Zc (Qo (M := fun f' w' => ∃ (ay : PHeap) , PHeap.le cA ay ∧ St w0 ay (Res.box a 26 [i, j, l, b] :: H) w' ∧ Fx f' [(1, Vq a), (19, i), (20, O ((d.Vars.length : Int))), (21, O ((cn : Int))), (30, Vb (((decide (x < 1)) || decide (64 < x))))]) ?_ ?_)
   ·refine G ?_
    rcases tf (decide (x < 1)) with bB | bB
    ·refine G ?_
     exact fq
    refine G ?_
    exact fq
   intro cW fE bl
   obtain ⟨eM, ei, dA, ⟨cX, rfl⟩⟩ := bl
   refine G ?_
   rcases Qp q with ⟨bC, q⟩ | ⟨bC, q⟩
   ·refine G ?_
    refine Exec.makeInterface C57 Z Z ?_
    cases q
    have bP := bV _ (cb (by intro _ h; cases h))
    cases bP
    refine G ?_
    exact fr
   cases q
   refine G ?_
   exact ⟨_, Z, fq⟩
  intro fg cY fF ba cc
  obtain ⟨eN, ej, dB, ⟨cZ, rfl⟩⟩ := ba
  refine G ?_
  exact ⟨_, .inl cc, fq⟩
 rintro da fG ⟨fh, al, bm⟩
 have hm := al.elim (bJ _) (b5 _)
 clear al
 obtain ⟨az, ek, dC, ⟨db, rfl⟩⟩ := bm
 obtain ⟨aa, aU, bW, bK, b6⟩ := Qs hm
 refine g ?_
 refine Zc (Zc (Zd (g ?_)))
 refine Qo (M := fun f' w' => ∃ s', (aa = .next s' ∨ aa = .brk s') ∧ (fun (_ : Unit) => ∃ (a0 : PHeap) , PHeap.le az a0 ∧ St w0 a0 (Res.box a 26 [i, j, l, b] :: H) w' ∧ Fx f' [(1, Vq a), (34, b), (35, O ((d.Ops.length : Int)))]) s') ?_ ?_
 ·refine G ?_
  refine QP (fun k' s' f' w' => (fun (_ : Unit) => ∃ (a1 : PHeap) , PHeap.le az a1 ∧ St w0 a1 (Res.box a 26 [i, j, l, b] :: H) w' ∧ Fx f' [(36, O (k' : Int)), (1, Vq a), (34, b), (35, O ((d.Ops.length : Int)))]) s') aU ?_ ?_ ?_
  ·exact fq
  ·intro co fi cP dc fH dY bb t cd
   obtain ⟨cB, el, af, ⟨dd, rfl⟩⟩ := bb
   obtain ⟨y, ct, t⟩ := V t
   refine G ?_
   refine Jt Z Z Z ct ?_
   intro cE e9 aK
   refine G ?_
   refine Zw (E := encOp) af A82.h Z Z Z aK ?_
   intro f6 cu
   obtain ⟨fz, f0, rfl, eE, eF⟩ := Ys.1 cu
   refine G ?_
   refine Exec.alloc (cs := [Value.string (⟨#[]⟩), O 0, Vn, Vn]) af Z82 Z Z ?_
   intro cF fI dD
   refine G ?_
   refine JU Z Z Z ?_
   intro fJ dE
   refine g ?_
   refine Zc (Qo (M := fun f' w' => ∃ (a2 : PHeap) , PHeap.le cB a2 ∧ St w0 a2 (Res.box a 26 [i, j, l, b] :: H) w' ∧ Fx f' [(1, Vq a), (34, b), (35, O ((d.Ops.length : Int))), (36, O ((co : Int))), (47, Vb (((decide (y.Cost < 0)) || decide (1048576 < y.Cost))))]) ?_ ?_)
   ·refine G ?_
    rcases tf (decide (y.Cost < 0)) with bD | bD
    ·refine G ?_
     exact fq
    refine G ?_
    exact fq
   intro de fK bn
   obtain ⟨eO, em, dF, ⟨df, rfl⟩⟩ := bn
   refine G ?_
   rcases Qp t with ⟨bE, t⟩ | ⟨bE, t⟩
   ·refine G ?_
    refine Exec.makeInterface C57 Z Z ?_
    cases t
    have bQ := bW _ (cd (by intro _ h; cases h))
    cases bQ
    refine G ?_
    exact fr
   cases t
   refine G ?_
   exact ⟨_, Z, fq⟩
  intro fj dg fL bc ce
  obtain ⟨eP, en, dG, ⟨dh, rfl⟩⟩ := bc
  refine G ?_
  exact ⟨_, .inl ce, fq⟩
 rintro di fM ⟨fk, am, bo⟩
 have hm := am.elim (bK _) (b6 _)
 clear am
 obtain ⟨eQ, eo, bv, ⟨dj, rfl⟩⟩ := bo
 obtain ⟨gp, cv, hm⟩ := V hm
 refine G ?_
 refine Tc Z Z Z Z (QfH cv bv rq rq).r ?_
 rintro _ fN ⟨eR, ep, bw, rfl⟩
 refine G ?_
 rcases Qp hm with ⟨bF, hm⟩ | ⟨bF, hm⟩
 ·refine G ?_
  refine Exec.makeInterface C57 Z Z ?_
  cases hm
  refine G ?_
  exact fr
 obtain ⟨aI, cw, hm⟩ := V hm
 refine G ?_
 refine Tc Z Z Z Z (Qb2 cw bw rq rq rq rq).r ?_
 rintro aG fO ⟨a3, _, er, dH, rfl, eG⟩
 obtain ⟨ab, aV, bX, bL, b7⟩ := Qs hm
 refine g ?_
 refine Qo (M := fun f' w' => ∃ s', (ab = .next s' ∨ ab = .brk s') ∧ (fun (_ : Unit) => ∃ (a4 : PHeap) , PHeap.le a3 a4 ∧ St w0 a4 (Res.box a 26 [i, j, l, b] :: H) w' ∧ Fx f' [(1, Vq a), (58, aG), (59, O ((aI.length : Int)))]) s') ?_ ?_
 ·refine G ?_
  refine QP (fun k' s' f' w' => (fun (_ : Unit) => ∃ (a5 : PHeap) , PHeap.le a3 a5 ∧ St w0 a5 (Res.box a 26 [i, j, l, b] :: H) w' ∧ Fx f' [(60, O (k' : Int)), (1, Vq a), (58, aG), (59, O ((aI.length : Int)))]) s') aV ?_ ?_ ?_
  ·exact fq
  ·intro ed fl cQ dk fP dZ bd n cf
   obtain ⟨eS, es, ag, ⟨dl, rfl⟩⟩ := bd
   obtain ⟨gm, cx, n⟩ := V n
   refine G ?_
   refine Jt Z Z Z cx ?_
   intro cG eA aL
   refine G ?_
   refine Zw (E := (Qu encFact)) ag A23.h Z Z Z aL ?_
   intro f7 cy
   have c8 := Jb.1 cy
   obtain ⟨gq, cz, n⟩ := V n
   refine G ?_
   refine Tc Z Z Z Z (Qdh cz ag rq c8).r ?_
   rintro _ fQ ⟨eT, et, dI, rfl⟩
   refine G ?_
   rcases Qp n with ⟨bG, n⟩ | ⟨bG, n⟩
   ·refine G ?_
    refine Exec.makeInterface C57 Z Z ?_
    cases n
    have bR := bX _ (cf (by intro _ h; cases h))
    cases bR
    refine G ?_
    exact fr
   cases n
   refine G ?_
   exact ⟨_, Z, fq⟩
  intro fm dm fR be cg
  obtain ⟨eU, eu, dJ, ⟨dn, rfl⟩⟩ := be
  refine G ?_
  exact ⟨_, .inl cg, fq⟩
 rintro dp fS ⟨fn, an, bp⟩
 have hm := an.elim (bL _) (b7 _)
 clear an
 obtain ⟨a6, ev, dK, ⟨dq, rfl⟩⟩ := bp
 obtain ⟨ac, aW, bY, bM, b8⟩ := Qs hm
 refine g ?_
 refine Zc (Zc (Zd (g ?_)))
 refine Qo (M := fun f' w' => ∃ s', (ac = .next s' ∨ ac = .brk s') ∧ (fun (_ : Unit) => ∃ (a7 : PHeap) , PHeap.le a6 a7 ∧ St w0 a7 (Res.box a 26 [i, j, l, b] :: H) w' ∧ Fx f' [(1, Vq a), (72, b), (73, O ((d.Ops.length : Int)))]) s') ?_ ?_
 ·refine G ?_
  refine QP (fun k' s' f' w' => (fun (_ : Unit) => ∃ (a8 : PHeap) , PHeap.le a6 a8 ∧ St w0 a8 (Res.box a 26 [i, j, l, b] :: H) w' ∧ Fx f' [(74, O (k' : Int)), (1, Vq a), (72, b), (73, O ((d.Ops.length : Int)))]) s') aW ?_ ?_ ?_
  ·exact fq
  ·intro ar fo cR dr fT ea bf u ch
   obtain ⟨a9, ew, ah, ⟨ds, rfl⟩⟩ := bf
   obtain ⟨aH, c0, u⟩ := V u
   refine G ?_
   refine Jt Z Z Z c0 ?_
   intro cH eB aM
   refine G ?_
   refine Zw (E := encOp) ah A82.h Z Z Z aM ?_
   intro f8 c1
   obtain ⟨f1, aF, rfl, eH, eI⟩ := Ys.1 c1
   refine G ?_
   refine Exec.alloc (cs := [Value.string (⟨#[]⟩), O 0, Vn, Vn]) ah Z82 Z Z ?_
   intro cI fU dL
   refine G ?_
   refine JU Z Z Z ?_
   intro fV bx
   obtain ⟨ad, aX, bZ, bN, b9⟩ := Qs u
   refine g ?_
   refine Zc (Zd (g ?_))
   refine Qo (M := fun f' w' => ∃ s', (ad = .next s' ∨ ad = .brk s') ∧ (fun (_ : Unit) => ∃ (aA : PHeap) , PHeap.le a9 aA ∧ St w0 aA (Res.box a 26 [i, j, l, b] :: H) w' ∧ Fx f' [(1, Vq a), (72, b), (73, O ((d.Ops.length : Int))), (74, O ((ar : Int))), (79, aF), (80, O ((aH.Effs.length : Int)))]) s') ?_ ?_
   ·refine G ?_
    refine QP (fun k' s' f' w' => (fun (_ : Unit) => ∃ (aB : PHeap) , PHeap.le a9 aB ∧ St w0 aB (Res.box a 26 [i, j, l, b] :: H) w' ∧ Fx f' [(81, O (k' : Int)), (1, Vq a), (72, b), (73, O ((d.Ops.length : Int))), (74, O ((ar : Int))), (79, aF), (80, O ((aH.Effs.length : Int)))]) s') aX ?_ ?_ ?_
    ·have dM := bx.drop
     exact fq
    ·intro ee fp cS dt fW eb bg o ci
     obtain ⟨eV, ex, ai, ⟨du, rfl⟩⟩ := bg
     obtain ⟨m, c2, o⟩ := V o
     refine G ?_
     refine Jt Z Z Z c2 ?_
     intro cJ eC aN
     refine G ?_
     refine Zw (E := encEffect) ai A79.h Z Z Z aN ?_
     intro f9 c3
     obtain ⟨f2, rfl, eJ⟩ := Yv.1 c3
     refine G ?_
     refine Exec.alloc (cs := [Vn, O 0, O 0]) ai Z79 Z Z ?_
     intro cK fX dN
     refine G ?_
     refine JU Z Z Z ?_
     intro fY bz
     refine G ?_
     refine Exec.build Z (Qc (c := [O (m.Var)]) (Qe Z Z) (Qc (c := [O (m.Val)]) (Qe Z Z) Qh)) (v := Value.agg #[O (m.Var), O (m.Val)]) (fun _ => by kernel_rfl) (G ?_)
     refine Exec.buildSlice (Te := 77) (cs := [O (m.Var), O (m.Val)]) bz Z (Qc (c := [O (m.Var), O (m.Val)]) (Qe Z Z) Qh) (fun _ => by kernel_rfl) ?_
     intro cL fZ b0
     have b1 := St.boxArr (E := encFact) (xs := [(⟨m.Var, m.Val⟩ : Fact)]) b0 ⟨[O (m.Var), O (m.Val)], [], rfl, ⟨[O (m.Var)], [O (m.Val)], rfl, rfl, rfl⟩, rfl⟩ (by simp [maxLen])
     obtain ⟨eW, ey, b2, c9⟩ := b1.freezeArr
     obtain ⟨gr, c4, o⟩ := V o
     refine G ?_
     refine Tc Z Z Z Z (Qdh c4 b2 rq c9).r ?_
     rintro _ ga ⟨eX, ez, dO, rfl⟩
     refine G ?_
     rcases Qp o with ⟨bH, o⟩ | ⟨bH, o⟩
     ·refine G ?_
      refine Exec.makeInterface C57 Z Z ?_
      cases o
      have bS := bZ _ (ci (by intro _ h; cases h))
      cases bS
      have bT := bY _ (ch (by intro _ h; cases h))
      cases bT
      refine G ?_
      exact fr
     cases o
     refine G ?_
     exact ⟨_, Z, fq⟩
    intro fs dv gb bh cj
    obtain ⟨eY, e0, dP, ⟨dw, rfl⟩⟩ := bh
    refine G ?_
    exact ⟨_, .inl cj, fq⟩
   rintro dx gc ⟨ft, ao, bq⟩
   have u := ao.elim (bN _) (b9 _)
   clear ao
   obtain ⟨eZ, e1, dQ, ⟨dy, rfl⟩⟩ := bq
   cases u
   refine G ?_
   exact ⟨_, Z, fq⟩
  intro fu dz gd bi ck
  obtain ⟨fa, e2, dR, ⟨d0, rfl⟩⟩ := bi
  refine G ?_
  exact ⟨_, .inl ck, fq⟩
 rintro d1 gf ⟨fv, ap, br⟩
 have hm := ap.elim (bM _) (b8 _)
 clear ap
 obtain ⟨aC, e3, b3, ⟨d2, rfl⟩⟩ := br
 obtain ⟨ae, aY, ca, bO, bA⟩ := Qs hm
 refine g ?_
 refine Zc (Zc (Zd (g ?_)))
 refine Qo (M := fun f' w' => ∃ s', (ae = .next s' ∨ ae = .brk s') ∧ (fun (_ : Unit) => ∃ (aD : PHeap) , PHeap.le aC aD ∧ St w0 aD (H) w' ∧ Fx f' [(99, b), (100, O ((d.Ops.length : Int)))]) s') ?_ ?_
 ·refine G ?_
  refine QP (fun k' s' f' w' => (fun (_ : Unit) => ∃ (aE : PHeap) , PHeap.le aC aE ∧ St w0 aE (H) w' ∧ Fx f' [(101, O (k' : Int)), (99, b), (100, O ((d.Ops.length : Int)))]) s') aY ?_ ?_ ?_
  ·have dS := b3.drop
   exact fq
  ·intro ef fw cT d3 gg ec bj p cl
   obtain ⟨fb, e4, aj, ⟨d4, rfl⟩⟩ := bj
   obtain ⟨gn, c5, p⟩ := V p
   refine G ?_
   refine Jt Z Z Z c5 ?_
   intro cM eD aO
   refine G ?_
   refine Zw (E := encOp) aj A82.h Z Z Z aO ?_
   intro fA c6
   obtain ⟨f3, f4, rfl, eK, eL⟩ := Ys.1 c6
   refine G ?_
   refine Exec.alloc (cs := [Value.string (⟨#[]⟩), O 0, Vn, Vn]) aj Z82 Z Z ?_
   intro cN gh dT
   refine G ?_
   refine JU Z Z Z ?_
   intro gi b4
   obtain ⟨gs, c7, p⟩ := V p
   refine G ?_
   refine Tc Z Z Z Z (QgX c7 b4).r ?_
   rintro _ gj ⟨fc, e5, dU, rfl⟩
   refine G ?_
   rcases Qp p with ⟨bI, p⟩ | ⟨bI, p⟩
   ·refine G ?_
    refine Exec.makeInterface C57 Z Z ?_
    cases p
    have bU := ca _ (cl (by intro _ h; cases h))
    cases bU
    refine G ?_
    exact fr
   cases p
   refine G ?_
   exact ⟨_, Z, fq⟩
  intro fx d5 gk bk cm
  obtain ⟨fd, e6, dV, ⟨d6, rfl⟩⟩ := bk
  refine G ?_
  exact ⟨_, .inl cm, fq⟩
 rintro d7 gl ⟨fy, aq, bs⟩
 have hm := aq.elim (bO _) (bA _)
 clear aq
 obtain ⟨fe, e7, dW, ⟨d8, rfl⟩⟩ := bs
 cases hm
 refine G ?_
 exact fr
end Go.Pw
