/- -/
import Derived.Test.YtcpkjkmbdolfnaaGreatDoorLC
import Derived.Test.YtcpkjkmbdolfnaaGreatDoorLD
import Derived.Test.YtcpkjkmbdolfnaaGreatDoorMb10
set_option maxRecDepth 100000
set_option maxHeartbeats 4000000
set_option linter.unusedVariables false
namespace Go.Pw
open Go.Proofs
attribute [local irreducible] Exec WL W andThen Y2 DL QW
theorem Qdq {w0 w : World} {s : PHeap} {H : List Res} {l : System} {ac : (List Int)} {aj : Value} {ah : Value} {ae : Value} {i : Value} {r : Bool × System} (hm : K8 l ac = some r) (hS : St w0 s (Res.arr (U .i64) 3 i ac :: H) w) (cG : SliceRep (U .i64) s aj l.Costs) (cH : SliceRep encEdge s ah l.Edges) (cI : SliceRep encBool s ae l.Goals) :
  Calls Tryz.prog 49 #[Value.agg #[O (l.States), O (l.Init), aj, ah, ae], i] w fun e w' => ∃ v, e = .returned v ∧ ((QM fun (cF : Bool) (a1 : System) => ∃ (a0 : PHeap) (bu : Value) (bv : Value) (bw : Value), PHeap.le s a0 ∧ St w0 a0 (Res.arr (U .i64) 3 i ac :: H) w' ∧ v = Value.tuple #[Value.agg #[O (a1.States), O (a1.Init), bu, bv, bw], Value.bool (cF)] ∧ SliceRep (U .i64) a0 bu a1.Costs ∧ SliceRep encEdge a0 bv a1.Edges ∧ SliceRep encBool a0 bw a1.Goals) r) := by
 unfold K8 at hm
 refine Qj Tryz.func49 Z Z (G ?_)
 refine JY Z Z ?_
 intro ab e3 bQ
 refine G ?_
 refine Exec.alloc (cs := [O 0, O 0, Vn, Vn, Vn]) bQ Z38 Z Z ?_
 intro o e4 bR
 obtain ⟨b, cu, hm⟩ := V hm
 refine G ?_
 refine Tc Z Z Z Z (QaV cu bR.f2).r ?_
 rintro _ e5 ⟨c9, dT, bS, rfl⟩
 obtain ⟨bc, ag, hm⟩ := V hm
 refine g ?_
 refine Zc (Zc (Qo (M := fun f' w' => (fun (bc : Bool) => ∃ (bq : PHeap) , PHeap.le c9 bq ∧ St w0 bq (Res.arr (U .i64) 3 i ac :: Res.box ab 38 [O (l.States), O (l.Init), aj, ah, ae] :: Res.box o 38 [O 0, O 0, Vn, Vn, Vn] :: H) w' ∧ Fx f' [(1, i), (2, Vq ab), (4, Vq o), (6, O b), (22, Vb bc)]) bc) ?_ ?_))
 ·obtain ⟨fF, cv, ag⟩ := V ag
  refine G ?_
  refine Tc Z Z Z Z (Qbx cv bS rq rq rq).r ?_
  rintro _ e6 ⟨el, dU, d6, rfl⟩
  refine G ?_
  rcases Qp ag with ⟨co, ag⟩ | ⟨co, ag⟩
  ·cases ag
   refine G ?_
   exact fq
  cases ag
  refine G ?_
  exact fq
 intro di e7 bN
 obtain ⟨cA, dV, bT, ⟨dj, rfl⟩⟩ := bN
 refine G ?_
 rcases Qp hm with ⟨bo, hm⟩ | ⟨bo, hm⟩
 ·refine G ?_
  refine Exec.build Z Qh (v := Value.agg #[O 0, O 0, Vn, Vn, Vn]) (fun _ => by kernel_rfl) (G ?_)
  refine JU Z Z Z ?_
  intro e8 bU
  cases hm
  refine G ?_
  refine ⟨_, Yg Z ⟨_, _, Z, Je (bU) A38.h⟩ Z, ?_⟩
  exact fq
 obtain ⟨j, a, hm⟩ := V hm
 obtain ⟨aN, n, hm⟩ := V hm
 obtain ⟨ct, aa, hm⟩ := V hm
 refine W_c Z bo (QaN (J3 (Ze (Zc (Qo (M := fun f' w' => ∃ (br : PHeap) (y : Nat) (u : Value) (x : Value), PHeap.le cA br ∧ St w0 br (Res.arr (U .i64) 3 i ac :: Res.box ab 38 [O (l.States), O (l.Init), aj, ah, ae] :: Res.box o 38 [O 0, O 0, Vn, Vn, Vn] :: Res.box y 38 [O b, O j, u, Vn, x] :: Res.arr (U .i64) 3 u aN :: Res.arr encBool 4 x ct :: H) w' ∧ Fx f' [(1, i), (2, Vq ab), (4, Vq o), (7, Vq y)]) ?_ ?_)))))
 ·refine Jz (n0 := 14) (qs 0 6 (.q 7 (.q 8 (.q 10 (.alt (.e 6 [0, 1, 2, 3, 4, 5, 7, 8, 10] (.alt (.e 9 [0, 1, 2, 3, 4, 5, 10] (.alt (.e 11 [0, 1, 2, 3, 4, 5] (.q 12 (.e 13 [0, 1, 2, 3, 4, 5, 12] .done))) (.e 13 [0, 1, 2, 3, 4, 5, 10] (.e 11 [0, 1, 2, 3, 4, 5] (.q 12 .done))))) (.alt (.e 11 [0, 1, 2, 3, 4, 5, 7, 8] (.alt (.e 9 [0, 1, 2, 3, 4, 5] (.q 12 (.e 13 [0, 1, 2, 3, 4, 5, 12] .done))) (.e 13 [0, 1, 2, 3, 4, 5, 7, 8] (.e 9 [0, 1, 2, 3, 4, 5] (.q 12 .done))))) (.e 13 [0, 1, 2, 3, 4, 5, 7, 8, 10] (.alt (.e 9 [0, 1, 2, 3, 4, 5, 10] (.e 11 [0, 1, 2, 3, 4, 5] (.q 12 .done))) (.e 11 [0, 1, 2, 3, 4, 5, 7, 8] (.e 9 [0, 1, 2, 3, 4, 5] (.q 12 .done)))))))) (.alt (.e 11 [0, 1, 2, 3, 4, 5, 7, 8] (.alt (.e 6 [0, 1, 2, 3, 4, 5, 7, 8] (.alt (.e 9 [0, 1, 2, 3, 4, 5] (.q 12 (.e 13 [0, 1, 2, 3, 4, 5, 12] .done))) (.e 13 [0, 1, 2, 3, 4, 5, 7, 8] (.e 9 [0, 1, 2, 3, 4, 5] (.q 12 .done))))) (.e 13 [0, 1, 2, 3, 4, 5, 7, 8] (.e 6 [0, 1, 2, 3, 4, 5, 7, 8] (.e 9 [0, 1, 2, 3, 4, 5] (.q 12 .done)))))) (.e 13 [0, 1, 2, 3, 4, 5, 7, 8, 10] (.alt (.e 6 [0, 1, 2, 3, 4, 5, 7, 8, 10] (.alt (.e 9 [0, 1, 2, 3, 4, 5, 10] (.e 11 [0, 1, 2, 3, 4, 5] (.q 12 .done))) (.e 11 [0, 1, 2, 3, 4, 5, 7, 8] (.e 9 [0, 1, 2, 3, 4, 5] (.q 12 .done))))) (.e 11 [0, 1, 2, 3, 4, 5, 7, 8] (.e 6 [0, 1, 2, 3, 4, 5, 7, 8] (.e 9 [0, 1, 2, 3, 4, 5] (.q 12 .done)))))))))))) J2 (by kernel_rfl) (by kernel_rfl) ?_
  have am := bT.drew
  obtain ⟨dy, da, d⟩ := am.arr_at a
  refine G ?_
  refine Qb S22.h Z d Z (Qd a).1 (Qd a).2.1 ⟨Z, ?_⟩
  refine G ?_
  refine Qg (F := (U .i64)) (am) d A3.h Z Z Z a (Sub.refl _) ?_
  intro ev cw
  obtain rfl := Qf.1 cw
  refine ⟨Z, ?_⟩
  refine G ?_
  refine KO ?_ ?_
  ·refine G ?_
   refine Exec.buildSlice (Te := 3) (cs := []) am Z Qh (fun _ => by kernel_rfl) ?_
   intro cJ e9 ai
   refine ⟨(Qa (Qi Z Z (Zm (v := O b) Z Z ⟨Z, Z⟩)) (Qa (Qi Z Z (Zm (v := i) Z Z ⟨Z, Z⟩)) (Qa (Qi Z Z (Zp F38_1.h Z Z Z ⟨Z, Z⟩)) (Qa (Qi Z Z (Zn (ai.f2) A3.h Z Z Z ⟨Z, Z⟩)) (Qa (Qi Z Z (Qb S22.h Z d Z (Qd a).1 (Qd a).2.1 ⟨Z, Z⟩)) (Qa (Qi Z Z (Qg (F := (U .i64)) (ai.f1) d A3.h Z Z Z a (Sub.refl _) (fun _ q => ⟨Z, Qf.1 q⟩))) (Qa (Qi Z Z (Zp F38_2.h Z Z Z ⟨Z, Z⟩)) (Qa (Qi Z Z (Zn (ai.f2) A22.h Z Z Z ⟨Z, Z⟩)) (Qa (Qi Z Z (Zm (v := O b) Z Z ⟨Z, Z⟩)) Q1))))))))), ?_⟩
   refine KO ?_ ?_
   ·have bV := St.boxArr (E := (U .i64)) (xs := []) ai rfl (by simp [maxLen])
    refine G ?_
    refine Q5 (E := (U .i64)) (ys := l.Costs) bV S22.h Z3 Z (by decide) Z Z Z rq n ?_
    intro ak eA a2
    refine ⟨(Qa (Qi Z Z (Zm (v := O b) Z Z ⟨Z, Z⟩)) (Qa (Qi Z Z (Zm (v := i) Z Z ⟨Z, Z⟩)) (Qa (Qi Z Z (Zp F38_1.h Z Z Z ⟨Z, Z⟩)) (Qa (Qi Z Z (Zn (a2.f2) A3.h Z Z Z ⟨Z, Z⟩)) (Qa (Qi Z Z (Qb S22.h Z d Z (Qd a).1 (Qd a).2.1 ⟨Z, Z⟩)) (Qa (Qi Z Z (Qg (F := (U .i64)) (a2.f1) d A3.h Z Z Z a (Sub.refl _) (fun _ q => ⟨Z, Qf.1 q⟩))) (Qa (Qi Z Z (Zm (v := O b) Z Z ⟨Z, Z⟩)) Q1))))))), ?_⟩
    refine KO ?_ ?_
    ·refine G ?_
     refine QU (E := encBool) a2 S36.h Z4 Z Z Z Z aa ?_
     intro aR eB an
     refine ⟨(Qa (Qi Z Z (Zm (v := O b) Z Z ⟨Z, Z⟩)) (Qa (Qi Z Z (Zm (v := i) Z Z ⟨Z, Z⟩)) (Qa (Qi Z Z (Zp F38_1.h Z Z Z ⟨Z, Z⟩)) (Qa (Qi Z Z (Zn (an.f3) A3.h Z Z Z ⟨Z, Z⟩)) (Qa (Qi Z Z (Qb S22.h Z d Z (Qd a).1 (Qd a).2.1 ⟨Z, Z⟩)) (Qa (Qi Z Z (Qg (F := (U .i64)) (an.f2) d A3.h Z Z Z a (Sub.refl _) (fun _ q => ⟨Z, Qf.1 q⟩))) Q1)))))), ?_⟩
     refine G ?_
     refine Exec.build Z (Qc (c := [O b]) (Qe Z Z) (Qc (c := [O j]) (Qe Z Z) (Qc (c := [ak]) (Qe Z (Ql (an.f1).arr_one)) (Qc (c := [aR]) (Qe Z (Ql an.arr_one)) Qh)))) (v := Value.agg #[O b, O j, ak, Vn, aR]) (fun _ => by kernel_rfl) ⟨Z, ?_⟩
     refine G ?_
     refine Exec.alloc (cs := [O 0, O 0, Vn, Vn, Vn]) an Z38 Z Z ?_
     intro cK eC a3
     refine ⟨(Qa (Qi Z Z (Zm (v := O b) Z Z ⟨Z, Z⟩)) (Qa (Qi Z Z (Zm (v := i) Z Z ⟨Z, Z⟩)) (Qa (Qi Z Z (Zp F38_1.h Z Z Z ⟨Z, Z⟩)) (Qa (Qi Z Z (Zn (a3.f4) A3.h Z Z Z ⟨Z, Z⟩)) (Qa (Qi Z Z (Qb S22.h Z d Z (Qd a).1 (Qd a).2.1 ⟨Z, Z⟩)) (Qa (Qi Z Z (Qg (F := (U .i64)) (a3.f3) d A3.h Z Z Z a (Sub.refl _) (fun _ q => ⟨Z, Qf.1 q⟩))) (Qa (Qi Z Z (Exec.build Z (Qc (c := [O b]) (Qe Z Z) (Qc (c := [O j]) (Qe Z Z) (Qc (c := [ak]) (Qe Z (Ql (a3.f2).arr_one)) (Qc (c := [aR]) (Qe Z (Ql (a3.f1).arr_one)) Qh)))) (v := Value.agg #[O b, O j, ak, Vn, aR]) (fun _ => by kernel_rfl) ⟨Z, Z⟩)) Q1))))))), ?_⟩
     refine G ?_
     refine JU Z Z Z ?_
     intro eD d7
     refine G ?_
     exact fq
    refine G ?_
    refine Exec.alloc (cs := [O 0, O 0, Vn, Vn, Vn]) a2 Z38 Z Z ?_
    intro cL eE aV
    refine ⟨(Qa (Qi Z Z (Zm (v := O b) Z Z ⟨Z, Z⟩)) (Qa (Qi Z Z (Zm (v := i) Z Z ⟨Z, Z⟩)) (Qa (Qi Z Z (Zp F38_1.h Z Z Z ⟨Z, Z⟩)) (Qa (Qi Z Z (Zn (aV.f3) A3.h Z Z Z ⟨Z, Z⟩)) (Qa (Qi Z Z (Qb S22.h Z d Z (Qd a).1 (Qd a).2.1 ⟨Z, Z⟩)) (Qa (Qi Z Z (Qg (F := (U .i64)) (aV.f2) d A3.h Z Z Z a (Sub.refl _) (fun _ q => ⟨Z, Qf.1 q⟩))) (Qa (Qi Z Z (Zm (v := O b) Z Z ⟨Z, Z⟩)) Q1))))))), ?_⟩
    refine G ?_
    refine QU (E := encBool) aV S36.h Z4 Z Z Z Z aa ?_
    intro bx eF a4
    refine ⟨(Qa (Qi Z Z (Zm (v := O b) Z Z ⟨Z, Z⟩)) (Qa (Qi Z Z (Zm (v := i) Z Z ⟨Z, Z⟩)) (Qa (Qi Z Z (Zp F38_1.h Z Z Z ⟨Z, Z⟩)) (Qa (Qi Z Z (Zn (a4.f4) A3.h Z Z Z ⟨Z, Z⟩)) (Qa (Qi Z Z (Qb S22.h Z d Z (Qd a).1 (Qd a).2.1 ⟨Z, Z⟩)) (Qa (Qi Z Z (Qg (F := (U .i64)) (a4.f3) d A3.h Z Z Z a (Sub.refl _) (fun _ q => ⟨Z, Qf.1 q⟩))) Q1)))))), ?_⟩
    refine G ?_
    refine Exec.build Z (Qc (c := [O b]) (Qe Z Z) (Qc (c := [O j]) (Qe Z Z) (Qc (c := [ak]) (Qe Z (Ql (a4.f2).arr_one)) (Qc (c := [bx]) (Qe Z (Ql a4.arr_one)) Qh)))) (v := Value.agg #[O b, O j, ak, Vn, bx]) (fun _ => by kernel_rfl) ⟨Z, ?_⟩
    refine G ?_
    refine JU Z Z Z ?_
    intro eG d8
    refine G ?_
    exact fq
   refine KO ?_ ?_
   ·refine G ?_
    refine QU (E := encBool) ai S36.h Z4 Z Z Z Z aa ?_
    intro al eH ao
    refine ⟨(Qa (Qi Z Z (Zm (v := O b) Z Z ⟨Z, Z⟩)) (Qa (Qi Z Z (Zm (v := i) Z Z ⟨Z, Z⟩)) (Qa (Qi Z Z (Zp F38_1.h Z Z Z ⟨Z, Z⟩)) (Qa (Qi Z Z (Zn (ao.f3) A3.h Z Z Z ⟨Z, Z⟩)) (Qa (Qi Z Z (Qb S22.h Z d Z (Qd a).1 (Qd a).2.1 ⟨Z, Z⟩)) (Qa (Qi Z Z (Qg (F := (U .i64)) (ao.f2) d A3.h Z Z Z a (Sub.refl _) (fun _ q => ⟨Z, Qf.1 q⟩))) (Qa (Qi Z Z (Zp F38_2.h Z Z Z ⟨Z, Z⟩)) (Qa (Qi Z Z (Zn (ao.f3) A22.h Z Z Z ⟨Z, Z⟩)) Q1)))))))), ?_⟩
    refine KO ?_ ?_
    ·have bW := ao.f1
     have bX := St.boxArr (E := (U .i64)) (xs := []) bW rfl (by simp [maxLen])
     refine G ?_
     refine Q5 (E := (U .i64)) (ys := l.Costs) bX S22.h Z3 Z (by decide) Z Z Z rq n ?_
     intro aS eI ap
     refine ⟨(Qa (Qi Z Z (Zm (v := O b) Z Z ⟨Z, Z⟩)) (Qa (Qi Z Z (Zm (v := i) Z Z ⟨Z, Z⟩)) (Qa (Qi Z Z (Zp F38_1.h Z Z Z ⟨Z, Z⟩)) (Qa (Qi Z Z (Zn (ap.f3) A3.h Z Z Z ⟨Z, Z⟩)) (Qa (Qi Z Z (Qb S22.h Z d Z (Qd a).1 (Qd a).2.1 ⟨Z, Z⟩)) (Qa (Qi Z Z (Qg (F := (U .i64)) (ap.f2) d A3.h Z Z Z a (Sub.refl _) (fun _ q => ⟨Z, Qf.1 q⟩))) Q1)))))), ?_⟩
     refine G ?_
     refine Exec.build Z (Qc (c := [O b]) (Qe Z Z) (Qc (c := [O j]) (Qe Z Z) (Qc (c := [aS]) (Qe Z (Ql ap.arr_one)) (Qc (c := [al]) (Qe Z (Ql (ap.f1).arr_one)) Qh)))) (v := Value.agg #[O b, O j, aS, Vn, al]) (fun _ => by kernel_rfl) ⟨Z, ?_⟩
     refine G ?_
     refine Exec.alloc (cs := [O 0, O 0, Vn, Vn, Vn]) ap Z38 Z Z ?_
     intro cM eJ a5
     refine ⟨(Qa (Qi Z Z (Zm (v := O b) Z Z ⟨Z, Z⟩)) (Qa (Qi Z Z (Zm (v := i) Z Z ⟨Z, Z⟩)) (Qa (Qi Z Z (Zp F38_1.h Z Z Z ⟨Z, Z⟩)) (Qa (Qi Z Z (Zn (a5.f4) A3.h Z Z Z ⟨Z, Z⟩)) (Qa (Qi Z Z (Qb S22.h Z d Z (Qd a).1 (Qd a).2.1 ⟨Z, Z⟩)) (Qa (Qi Z Z (Qg (F := (U .i64)) (a5.f3) d A3.h Z Z Z a (Sub.refl _) (fun _ q => ⟨Z, Qf.1 q⟩))) (Qa (Qi Z Z (Exec.build Z (Qc (c := [O b]) (Qe Z Z) (Qc (c := [O j]) (Qe Z Z) (Qc (c := [aS]) (Qe Z (Ql (a5.f1).arr_one)) (Qc (c := [al]) (Qe Z (Ql (a5.f2).arr_one)) Qh)))) (v := Value.agg #[O b, O j, aS, Vn, al]) (fun _ => by kernel_rfl) ⟨Z, Z⟩)) Q1))))))), ?_⟩
     refine G ?_
     refine JU Z Z Z ?_
     intro eK d9
     refine G ?_
     exact fq
    refine G ?_
    refine Exec.alloc (cs := [O 0, O 0, Vn, Vn, Vn]) ao Z38 Z Z ?_
    intro cN eL a6
    refine ⟨(Qa (Qi Z Z (Zm (v := O b) Z Z ⟨Z, Z⟩)) (Qa (Qi Z Z (Zm (v := i) Z Z ⟨Z, Z⟩)) (Qa (Qi Z Z (Zp F38_1.h Z Z Z ⟨Z, Z⟩)) (Qa (Qi Z Z (Zn (a6.f4) A3.h Z Z Z ⟨Z, Z⟩)) (Qa (Qi Z Z (Qb S22.h Z d Z (Qd a).1 (Qd a).2.1 ⟨Z, Z⟩)) (Qa (Qi Z Z (Qg (F := (U .i64)) (a6.f3) d A3.h Z Z Z a (Sub.refl _) (fun _ q => ⟨Z, Qf.1 q⟩))) (Qa (Qi Z Z (Zp F38_2.h Z Z Z ⟨Z, Z⟩)) (Qa (Qi Z Z (Zn (a6.f4) A22.h Z Z Z ⟨Z, Z⟩)) Q1)))))))), ?_⟩
    have bY := St.boxArr (E := (U .i64)) (xs := []) a6.f2 rfl (by simp [maxLen])
    refine G ?_
    refine Q5 (E := (U .i64)) (ys := l.Costs) bY S22.h Z3 Z (by decide) Z Z Z rq n ?_
    intro bz eM a7
    refine ⟨(Qa (Qi Z Z (Zm (v := O b) Z Z ⟨Z, Z⟩)) (Qa (Qi Z Z (Zm (v := i) Z Z ⟨Z, Z⟩)) (Qa (Qi Z Z (Zp F38_1.h Z Z Z ⟨Z, Z⟩)) (Qa (Qi Z Z (Zn (a7.f4) A3.h Z Z Z ⟨Z, Z⟩)) (Qa (Qi Z Z (Qb S22.h Z d Z (Qd a).1 (Qd a).2.1 ⟨Z, Z⟩)) (Qa (Qi Z Z (Qg (F := (U .i64)) (a7.f3) d A3.h Z Z Z a (Sub.refl _) (fun _ q => ⟨Z, Qf.1 q⟩))) Q1)))))), ?_⟩
    refine G ?_
    refine Exec.build Z (Qc (c := [O b]) (Qe Z Z) (Qc (c := [O j]) (Qe Z Z) (Qc (c := [bz]) (Qe Z (Ql a7.arr_one)) (Qc (c := [al]) (Qe Z (Ql (a7.f2).arr_one)) Qh)))) (v := Value.agg #[O b, O j, bz, Vn, al]) (fun _ => by kernel_rfl) ⟨Z, ?_⟩
    refine G ?_
    refine JU Z Z Z ?_
    intro eN dA
    refine G ?_
    exact fq
   refine G ?_
   refine Exec.alloc (cs := [O 0, O 0, Vn, Vn, Vn]) ai Z38 Z Z ?_
   intro cO eO aq
   refine ⟨(Qa (Qi Z Z (Zm (v := O b) Z Z ⟨Z, Z⟩)) (Qa (Qi Z Z (Zm (v := i) Z Z ⟨Z, Z⟩)) (Qa (Qi Z Z (Zp F38_1.h Z Z Z ⟨Z, Z⟩)) (Qa (Qi Z Z (Zn (aq.f3) A3.h Z Z Z ⟨Z, Z⟩)) (Qa (Qi Z Z (Qb S22.h Z d Z (Qd a).1 (Qd a).2.1 ⟨Z, Z⟩)) (Qa (Qi Z Z (Qg (F := (U .i64)) (aq.f2) d A3.h Z Z Z a (Sub.refl _) (fun _ q => ⟨Z, Qf.1 q⟩))) (Qa (Qi Z Z (Zp F38_2.h Z Z Z ⟨Z, Z⟩)) (Qa (Qi Z Z (Zn (aq.f3) A22.h Z Z Z ⟨Z, Z⟩)) (Qa (Qi Z Z (Zm (v := O b) Z Z ⟨Z, Z⟩)) Q1))))))))), ?_⟩
   refine KO ?_ ?_
   ·have bZ := aq.f1
    have ca := St.boxArr (E := (U .i64)) (xs := []) bZ rfl (by simp [maxLen])
    refine G ?_
    refine Q5 (E := (U .i64)) (ys := l.Costs) ca S22.h Z3 Z (by decide) Z Z Z rq n ?_
    intro b0 eP aW
    refine ⟨(Qa (Qi Z Z (Zm (v := O b) Z Z ⟨Z, Z⟩)) (Qa (Qi Z Z (Zm (v := i) Z Z ⟨Z, Z⟩)) (Qa (Qi Z Z (Zp F38_1.h Z Z Z ⟨Z, Z⟩)) (Qa (Qi Z Z (Zn (aW.f3) A3.h Z Z Z ⟨Z, Z⟩)) (Qa (Qi Z Z (Qb S22.h Z d Z (Qd a).1 (Qd a).2.1 ⟨Z, Z⟩)) (Qa (Qi Z Z (Qg (F := (U .i64)) (aW.f2) d A3.h Z Z Z a (Sub.refl _) (fun _ q => ⟨Z, Qf.1 q⟩))) (Qa (Qi Z Z (Zm (v := O b) Z Z ⟨Z, Z⟩)) Q1))))))), ?_⟩
    refine G ?_
    refine QU (E := encBool) aW S36.h Z4 Z Z Z Z aa ?_
    intro b1 eQ a8
    refine ⟨(Qa (Qi Z Z (Zm (v := O b) Z Z ⟨Z, Z⟩)) (Qa (Qi Z Z (Zm (v := i) Z Z ⟨Z, Z⟩)) (Qa (Qi Z Z (Zp F38_1.h Z Z Z ⟨Z, Z⟩)) (Qa (Qi Z Z (Zn (a8.f4) A3.h Z Z Z ⟨Z, Z⟩)) (Qa (Qi Z Z (Qb S22.h Z d Z (Qd a).1 (Qd a).2.1 ⟨Z, Z⟩)) (Qa (Qi Z Z (Qg (F := (U .i64)) (a8.f3) d A3.h Z Z Z a (Sub.refl _) (fun _ q => ⟨Z, Qf.1 q⟩))) Q1)))))), ?_⟩
    refine G ?_
    refine Exec.build Z (Qc (c := [O b]) (Qe Z Z) (Qc (c := [O j]) (Qe Z Z) (Qc (c := [b0]) (Qe Z (Ql (a8.f1).arr_one)) (Qc (c := [b1]) (Qe Z (Ql a8.arr_one)) Qh)))) (v := Value.agg #[O b, O j, b0, Vn, b1]) (fun _ => by kernel_rfl) ⟨Z, ?_⟩
    refine G ?_
    refine JU Z Z Z ?_
    intro eR dB
    refine G ?_
    exact fq
   refine G ?_
   refine QU (E := encBool) aq S36.h Z4 Z Z Z Z aa ?_
   intro b2 eS a9
   refine ⟨(Qa (Qi Z Z (Zm (v := O b) Z Z ⟨Z, Z⟩)) (Qa (Qi Z Z (Zm (v := i) Z Z ⟨Z, Z⟩)) (Qa (Qi Z Z (Zp F38_1.h Z Z Z ⟨Z, Z⟩)) (Qa (Qi Z Z (Zn (a9.f4) A3.h Z Z Z ⟨Z, Z⟩)) (Qa (Qi Z Z (Qb S22.h Z d Z (Qd a).1 (Qd a).2.1 ⟨Z, Z⟩)) (Qa (Qi Z Z (Qg (F := (U .i64)) (a9.f3) d A3.h Z Z Z a (Sub.refl _) (fun _ q => ⟨Z, Qf.1 q⟩))) (Qa (Qi Z Z (Zp F38_2.h Z Z Z ⟨Z, Z⟩)) (Qa (Qi Z Z (Zn (a9.f4) A22.h Z Z Z ⟨Z, Z⟩)) Q1)))))))), ?_⟩
   have cb := St.boxArr (E := (U .i64)) (xs := []) a9.f2 rfl (by simp [maxLen])
   refine G ?_
   refine Q5 (E := (U .i64)) (ys := l.Costs) cb S22.h Z3 Z (by decide) Z Z Z rq n ?_
   intro b3 eT aA
   refine ⟨(Qa (Qi Z Z (Zm (v := O b) Z Z ⟨Z, Z⟩)) (Qa (Qi Z Z (Zm (v := i) Z Z ⟨Z, Z⟩)) (Qa (Qi Z Z (Zp F38_1.h Z Z Z ⟨Z, Z⟩)) (Qa (Qi Z Z (Zn (aA.f4) A3.h Z Z Z ⟨Z, Z⟩)) (Qa (Qi Z Z (Qb S22.h Z d Z (Qd a).1 (Qd a).2.1 ⟨Z, Z⟩)) (Qa (Qi Z Z (Qg (F := (U .i64)) (aA.f3) d A3.h Z Z Z a (Sub.refl _) (fun _ q => ⟨Z, Qf.1 q⟩))) Q1)))))), ?_⟩
   refine G ?_
   refine Exec.build Z (Qc (c := [O b]) (Qe Z Z) (Qc (c := [O j]) (Qe Z Z) (Qc (c := [b3]) (Qe Z (Ql aA.arr_one)) (Qc (c := [b2]) (Qe Z (Ql (aA.f1).arr_one)) Qh)))) (v := Value.agg #[O b, O j, b3, Vn, b2]) (fun _ => by kernel_rfl) ⟨Z, ?_⟩
   refine G ?_
   refine JU Z Z Z ?_
   intro eU dC
   refine G ?_
   exact fq
  refine KO ?_ ?_
  ·refine G ?_
   refine QU (E := encBool) am S36.h Z4 Z Z Z Z aa ?_
   intro af eV ar
   refine ⟨(Qa (Qi Z Z (Zm (v := O b) Z Z ⟨Z, Z⟩)) (Qa (Qi Z Z (Zm (v := i) Z Z ⟨Z, Z⟩)) (Qa (Qi Z Z (Zp F38_1.h Z Z Z ⟨Z, Z⟩)) (Qa (Qi Z Z (Zn (ar.f2) A3.h Z Z Z ⟨Z, Z⟩)) (Qa (Qi Z Z (Qb S22.h Z d Z (Qd a).1 (Qd a).2.1 ⟨Z, Z⟩)) (Qa (Qi Z Z (Qg (F := (U .i64)) (ar.f1) d A3.h Z Z Z a (Sub.refl _) (fun _ q => ⟨Z, Qf.1 q⟩))) (Qa (Qi Z Z (Zp F38_2.h Z Z Z ⟨Z, Z⟩)) (Qa (Qi Z Z (Zn (ar.f2) A22.h Z Z Z ⟨Z, Z⟩)) Q1)))))))), ?_⟩
   refine KO ?_ ?_
   ·refine G ?_
    refine Exec.buildSlice (Te := 3) (cs := []) ar Z Qh (fun _ => by kernel_rfl) ?_
    intro cP eW au
    refine ⟨(Qa (Qi Z Z (Zm (v := O b) Z Z ⟨Z, Z⟩)) (Qa (Qi Z Z (Zm (v := i) Z Z ⟨Z, Z⟩)) (Qa (Qi Z Z (Zp F38_1.h Z Z Z ⟨Z, Z⟩)) (Qa (Qi Z Z (Zn (au.f3) A3.h Z Z Z ⟨Z, Z⟩)) (Qa (Qi Z Z (Qb S22.h Z d Z (Qd a).1 (Qd a).2.1 ⟨Z, Z⟩)) (Qa (Qi Z Z (Qg (F := (U .i64)) (au.f2) d A3.h Z Z Z a (Sub.refl _) (fun _ q => ⟨Z, Qf.1 q⟩))) (Qa (Qi Z Z (Zp F38_2.h Z Z Z ⟨Z, Z⟩)) (Qa (Qi Z Z (Zn (au.f3) A22.h Z Z Z ⟨Z, Z⟩)) Q1)))))))), ?_⟩
    refine KO ?_ ?_
    ·have cc := St.boxArr (E := (U .i64)) (xs := []) au rfl (by simp [maxLen])
     refine G ?_
     refine Q5 (E := (U .i64)) (ys := l.Costs) cc S22.h Z3 Z (by decide) Z Z Z rq n ?_
     intro aT eX av
     refine ⟨(Qa (Qi Z Z (Zm (v := O b) Z Z ⟨Z, Z⟩)) (Qa (Qi Z Z (Zm (v := i) Z Z ⟨Z, Z⟩)) (Qa (Qi Z Z (Zp F38_1.h Z Z Z ⟨Z, Z⟩)) (Qa (Qi Z Z (Zn (av.f3) A3.h Z Z Z ⟨Z, Z⟩)) (Qa (Qi Z Z (Qb S22.h Z d Z (Qd a).1 (Qd a).2.1 ⟨Z, Z⟩)) (Qa (Qi Z Z (Qg (F := (U .i64)) (av.f2) d A3.h Z Z Z a (Sub.refl _) (fun _ q => ⟨Z, Qf.1 q⟩))) Q1)))))), ?_⟩
     refine G ?_
     refine Exec.build Z (Qc (c := [O b]) (Qe Z Z) (Qc (c := [O j]) (Qe Z Z) (Qc (c := [aT]) (Qe Z (Ql av.arr_one)) (Qc (c := [af]) (Qe Z (Ql (av.f1).arr_one)) Qh)))) (v := Value.agg #[O b, O j, aT, Vn, af]) (fun _ => by kernel_rfl) ⟨Z, ?_⟩
     refine G ?_
     refine Exec.alloc (cs := [O 0, O 0, Vn, Vn, Vn]) av Z38 Z Z ?_
     intro cQ eY aB
     refine ⟨(Qa (Qi Z Z (Zm (v := O b) Z Z ⟨Z, Z⟩)) (Qa (Qi Z Z (Zm (v := i) Z Z ⟨Z, Z⟩)) (Qa (Qi Z Z (Zp F38_1.h Z Z Z ⟨Z, Z⟩)) (Qa (Qi Z Z (Zn (aB.f4) A3.h Z Z Z ⟨Z, Z⟩)) (Qa (Qi Z Z (Qb S22.h Z d Z (Qd a).1 (Qd a).2.1 ⟨Z, Z⟩)) (Qa (Qi Z Z (Qg (F := (U .i64)) (aB.f3) d A3.h Z Z Z a (Sub.refl _) (fun _ q => ⟨Z, Qf.1 q⟩))) (Qa (Qi Z Z (Exec.build Z (Qc (c := [O b]) (Qe Z Z) (Qc (c := [O j]) (Qe Z Z) (Qc (c := [aT]) (Qe Z (Ql (aB.f1).arr_one)) (Qc (c := [af]) (Qe Z (Ql (aB.f2).arr_one)) Qh)))) (v := Value.agg #[O b, O j, aT, Vn, af]) (fun _ => by kernel_rfl) ⟨Z, Z⟩)) Q1))))))), ?_⟩
     refine G ?_
     refine JU Z Z Z ?_
     intro eZ dD
     refine G ?_
     exact fq
    refine G ?_
    refine Exec.alloc (cs := [O 0, O 0, Vn, Vn, Vn]) au Z38 Z Z ?_
    intro cR fa aC
    refine ⟨(Qa (Qi Z Z (Zm (v := O b) Z Z ⟨Z, Z⟩)) (Qa (Qi Z Z (Zm (v := i) Z Z ⟨Z, Z⟩)) (Qa (Qi Z Z (Zp F38_1.h Z Z Z ⟨Z, Z⟩)) (Qa (Qi Z Z (Zn (aC.f4) A3.h Z Z Z ⟨Z, Z⟩)) (Qa (Qi Z Z (Qb S22.h Z d Z (Qd a).1 (Qd a).2.1 ⟨Z, Z⟩)) (Qa (Qi Z Z (Qg (F := (U .i64)) (aC.f3) d A3.h Z Z Z a (Sub.refl _) (fun _ q => ⟨Z, Qf.1 q⟩))) (Qa (Qi Z Z (Zp F38_2.h Z Z Z ⟨Z, Z⟩)) (Qa (Qi Z Z (Zn (aC.f4) A22.h Z Z Z ⟨Z, Z⟩)) Q1)))))))), ?_⟩
    have cd := St.boxArr (E := (U .i64)) (xs := []) aC.f1 rfl (by simp [maxLen])
    refine G ?_
    refine Q5 (E := (U .i64)) (ys := l.Costs) cd S22.h Z3 Z (by decide) Z Z Z rq n ?_
    intro b4 fb aD
    refine ⟨(Qa (Qi Z Z (Zm (v := O b) Z Z ⟨Z, Z⟩)) (Qa (Qi Z Z (Zm (v := i) Z Z ⟨Z, Z⟩)) (Qa (Qi Z Z (Zp F38_1.h Z Z Z ⟨Z, Z⟩)) (Qa (Qi Z Z (Zn (aD.f4) A3.h Z Z Z ⟨Z, Z⟩)) (Qa (Qi Z Z (Qb S22.h Z d Z (Qd a).1 (Qd a).2.1 ⟨Z, Z⟩)) (Qa (Qi Z Z (Qg (F := (U .i64)) (aD.f3) d A3.h Z Z Z a (Sub.refl _) (fun _ q => ⟨Z, Qf.1 q⟩))) Q1)))))), ?_⟩
    refine G ?_
    refine Exec.build Z (Qc (c := [O b]) (Qe Z Z) (Qc (c := [O j]) (Qe Z Z) (Qc (c := [b4]) (Qe Z (Ql aD.arr_one)) (Qc (c := [af]) (Qe Z (Ql (aD.f2).arr_one)) Qh)))) (v := Value.agg #[O b, O j, b4, Vn, af]) (fun _ => by kernel_rfl) ⟨Z, ?_⟩
    refine G ?_
    refine JU Z Z Z ?_
    intro fc dE
    refine G ?_
    exact fq
   refine G ?_
   refine Exec.alloc (cs := [O 0, O 0, Vn, Vn, Vn]) ar Z38 Z Z ?_
   intro cS fd aE
   refine ⟨(Qa (Qi Z Z (Zm (v := O b) Z Z ⟨Z, Z⟩)) (Qa (Qi Z Z (Zm (v := i) Z Z ⟨Z, Z⟩)) (Qa (Qi Z Z (Zp F38_1.h Z Z Z ⟨Z, Z⟩)) (Qa (Qi Z Z (Zn (aE.f3) A3.h Z Z Z ⟨Z, Z⟩)) (Qa (Qi Z Z (Qb S22.h Z d Z (Qd a).1 (Qd a).2.1 ⟨Z, Z⟩)) (Qa (Qi Z Z (Qg (F := (U .i64)) (aE.f2) d A3.h Z Z Z a (Sub.refl _) (fun _ q => ⟨Z, Qf.1 q⟩))) (Qa (Qi Z Z (Zp F38_2.h Z Z Z ⟨Z, Z⟩)) (Qa (Qi Z Z (Zn (aE.f3) A22.h Z Z Z ⟨Z, Z⟩)) Q1)))))))), ?_⟩
   refine G ?_
   refine Exec.buildSlice (Te := 3) (cs := []) aE Z Qh (fun _ => by kernel_rfl) ?_
   intro cT fe aF
   refine ⟨(Qa (Qi Z Z (Zm (v := O b) Z Z ⟨Z, Z⟩)) (Qa (Qi Z Z (Zm (v := i) Z Z ⟨Z, Z⟩)) (Qa (Qi Z Z (Zp F38_1.h Z Z Z ⟨Z, Z⟩)) (Qa (Qi Z Z (Zn (aF.f4) A3.h Z Z Z ⟨Z, Z⟩)) (Qa (Qi Z Z (Qb S22.h Z d Z (Qd a).1 (Qd a).2.1 ⟨Z, Z⟩)) (Qa (Qi Z Z (Qg (F := (U .i64)) (aF.f3) d A3.h Z Z Z a (Sub.refl _) (fun _ q => ⟨Z, Qf.1 q⟩))) (Qa (Qi Z Z (Zp F38_2.h Z Z Z ⟨Z, Z⟩)) (Qa (Qi Z Z (Zn (aF.f4) A22.h Z Z Z ⟨Z, Z⟩)) Q1)))))))), ?_⟩
   have ce := St.boxArr (E := (U .i64)) (xs := []) aF rfl (by simp [maxLen])
   refine G ?_
   refine Q5 (E := (U .i64)) (ys := l.Costs) ce S22.h Z3 Z (by decide) Z Z Z rq n ?_
   intro b5 ff aG
   refine ⟨(Qa (Qi Z Z (Zm (v := O b) Z Z ⟨Z, Z⟩)) (Qa (Qi Z Z (Zm (v := i) Z Z ⟨Z, Z⟩)) (Qa (Qi Z Z (Zp F38_1.h Z Z Z ⟨Z, Z⟩)) (Qa (Qi Z Z (Zn (aG.f4) A3.h Z Z Z ⟨Z, Z⟩)) (Qa (Qi Z Z (Qb S22.h Z d Z (Qd a).1 (Qd a).2.1 ⟨Z, Z⟩)) (Qa (Qi Z Z (Qg (F := (U .i64)) (aG.f3) d A3.h Z Z Z a (Sub.refl _) (fun _ q => ⟨Z, Qf.1 q⟩))) Q1)))))), ?_⟩
   refine G ?_
   refine Exec.build Z (Qc (c := [O b]) (Qe Z Z) (Qc (c := [O j]) (Qe Z Z) (Qc (c := [b5]) (Qe Z (Ql aG.arr_one)) (Qc (c := [af]) (Qe Z (Ql (aG.f2).arr_one)) Qh)))) (v := Value.agg #[O b, O j, b5, Vn, af]) (fun _ => by kernel_rfl) ⟨Z, ?_⟩
   refine G ?_
   refine JU Z Z Z ?_
   intro fg dF
   refine G ?_
   exact fq
  refine G ?_
  refine Exec.alloc (cs := [O 0, O 0, Vn, Vn, Vn]) am Z38 Z Z ?_
  intro cU fh aw
  refine ⟨(Qa (Qi Z Z (Zm (v := O b) Z Z ⟨Z, Z⟩)) (Qa (Qi Z Z (Zm (v := i) Z Z ⟨Z, Z⟩)) (Qa (Qi Z Z (Zp F38_1.h Z Z Z ⟨Z, Z⟩)) (Qa (Qi Z Z (Zn (aw.f2) A3.h Z Z Z ⟨Z, Z⟩)) (Qa (Qi Z Z (Qb S22.h Z d Z (Qd a).1 (Qd a).2.1 ⟨Z, Z⟩)) (Qa (Qi Z Z (Qg (F := (U .i64)) (aw.f1) d A3.h Z Z Z a (Sub.refl _) (fun _ q => ⟨Z, Qf.1 q⟩))) (Qa (Qi Z Z (Zp F38_2.h Z Z Z ⟨Z, Z⟩)) (Qa (Qi Z Z (Zn (aw.f2) A22.h Z Z Z ⟨Z, Z⟩)) (Qa (Qi Z Z (Zm (v := O b) Z Z ⟨Z, Z⟩)) Q1))))))))), ?_⟩
  refine KO ?_ ?_
  ·refine G ?_
   refine Exec.buildSlice (Te := 3) (cs := []) aw Z Qh (fun _ => by kernel_rfl) ?_
   intro cV fi ax
   refine ⟨(Qa (Qi Z Z (Zm (v := O b) Z Z ⟨Z, Z⟩)) (Qa (Qi Z Z (Zm (v := i) Z Z ⟨Z, Z⟩)) (Qa (Qi Z Z (Zp F38_1.h Z Z Z ⟨Z, Z⟩)) (Qa (Qi Z Z (Zn (ax.f3) A3.h Z Z Z ⟨Z, Z⟩)) (Qa (Qi Z Z (Qb S22.h Z d Z (Qd a).1 (Qd a).2.1 ⟨Z, Z⟩)) (Qa (Qi Z Z (Qg (F := (U .i64)) (ax.f2) d A3.h Z Z Z a (Sub.refl _) (fun _ q => ⟨Z, Qf.1 q⟩))) (Qa (Qi Z Z (Zp F38_2.h Z Z Z ⟨Z, Z⟩)) (Qa (Qi Z Z (Zn (ax.f3) A22.h Z Z Z ⟨Z, Z⟩)) (Qa (Qi Z Z (Zm (v := O b) Z Z ⟨Z, Z⟩)) Q1))))))))), ?_⟩
   refine KO ?_ ?_
   ·have cf := St.boxArr (E := (U .i64)) (xs := []) ax rfl (by simp [maxLen])
    refine G ?_
    refine Q5 (E := (U .i64)) (ys := l.Costs) cf S22.h Z3 Z (by decide) Z Z Z rq n ?_
    intro b6 fj aX
    refine ⟨(Qa (Qi Z Z (Zm (v := O b) Z Z ⟨Z, Z⟩)) (Qa (Qi Z Z (Zm (v := i) Z Z ⟨Z, Z⟩)) (Qa (Qi Z Z (Zp F38_1.h Z Z Z ⟨Z, Z⟩)) (Qa (Qi Z Z (Zn (aX.f3) A3.h Z Z Z ⟨Z, Z⟩)) (Qa (Qi Z Z (Qb S22.h Z d Z (Qd a).1 (Qd a).2.1 ⟨Z, Z⟩)) (Qa (Qi Z Z (Qg (F := (U .i64)) (aX.f2) d A3.h Z Z Z a (Sub.refl _) (fun _ q => ⟨Z, Qf.1 q⟩))) (Qa (Qi Z Z (Zm (v := O b) Z Z ⟨Z, Z⟩)) Q1))))))), ?_⟩
    refine G ?_
    refine QU (E := encBool) aX S36.h Z4 Z Z Z Z aa ?_
    intro b7 fk aH
    refine ⟨(Qa (Qi Z Z (Zm (v := O b) Z Z ⟨Z, Z⟩)) (Qa (Qi Z Z (Zm (v := i) Z Z ⟨Z, Z⟩)) (Qa (Qi Z Z (Zp F38_1.h Z Z Z ⟨Z, Z⟩)) (Qa (Qi Z Z (Zn (aH.f4) A3.h Z Z Z ⟨Z, Z⟩)) (Qa (Qi Z Z (Qb S22.h Z d Z (Qd a).1 (Qd a).2.1 ⟨Z, Z⟩)) (Qa (Qi Z Z (Qg (F := (U .i64)) (aH.f3) d A3.h Z Z Z a (Sub.refl _) (fun _ q => ⟨Z, Qf.1 q⟩))) Q1)))))), ?_⟩
    refine G ?_
    refine Exec.build Z (Qc (c := [O b]) (Qe Z Z) (Qc (c := [O j]) (Qe Z Z) (Qc (c := [b6]) (Qe Z (Ql (aH.f1).arr_one)) (Qc (c := [b7]) (Qe Z (Ql aH.arr_one)) Qh)))) (v := Value.agg #[O b, O j, b6, Vn, b7]) (fun _ => by kernel_rfl) ⟨Z, ?_⟩
    refine G ?_
    refine JU Z Z Z ?_
    intro fl dG
    refine G ?_
    exact fq
   refine G ?_
   refine QU (E := encBool) ax S36.h Z4 Z Z Z Z aa ?_
   intro b8 fm aI
   refine ⟨(Qa (Qi Z Z (Zm (v := O b) Z Z ⟨Z, Z⟩)) (Qa (Qi Z Z (Zm (v := i) Z Z ⟨Z, Z⟩)) (Qa (Qi Z Z (Zp F38_1.h Z Z Z ⟨Z, Z⟩)) (Qa (Qi Z Z (Zn (aI.f4) A3.h Z Z Z ⟨Z, Z⟩)) (Qa (Qi Z Z (Qb S22.h Z d Z (Qd a).1 (Qd a).2.1 ⟨Z, Z⟩)) (Qa (Qi Z Z (Qg (F := (U .i64)) (aI.f3) d A3.h Z Z Z a (Sub.refl _) (fun _ q => ⟨Z, Qf.1 q⟩))) (Qa (Qi Z Z (Zp F38_2.h Z Z Z ⟨Z, Z⟩)) (Qa (Qi Z Z (Zn (aI.f4) A22.h Z Z Z ⟨Z, Z⟩)) Q1)))))))), ?_⟩
   have cg := St.boxArr (E := (U .i64)) (xs := []) aI.f1 rfl (by simp [maxLen])
   refine G ?_
   refine Q5 (E := (U .i64)) (ys := l.Costs) cg S22.h Z3 Z (by decide) Z Z Z rq n ?_
   intro b9 fn aJ
   refine ⟨(Qa (Qi Z Z (Zm (v := O b) Z Z ⟨Z, Z⟩)) (Qa (Qi Z Z (Zm (v := i) Z Z ⟨Z, Z⟩)) (Qa (Qi Z Z (Zp F38_1.h Z Z Z ⟨Z, Z⟩)) (Qa (Qi Z Z (Zn (aJ.f4) A3.h Z Z Z ⟨Z, Z⟩)) (Qa (Qi Z Z (Qb S22.h Z d Z (Qd a).1 (Qd a).2.1 ⟨Z, Z⟩)) (Qa (Qi Z Z (Qg (F := (U .i64)) (aJ.f3) d A3.h Z Z Z a (Sub.refl _) (fun _ q => ⟨Z, Qf.1 q⟩))) Q1)))))), ?_⟩
   refine G ?_
   refine Exec.build Z (Qc (c := [O b]) (Qe Z Z) (Qc (c := [O j]) (Qe Z Z) (Qc (c := [b9]) (Qe Z (Ql aJ.arr_one)) (Qc (c := [b8]) (Qe Z (Ql (aJ.f1).arr_one)) Qh)))) (v := Value.agg #[O b, O j, b9, Vn, b8]) (fun _ => by kernel_rfl) ⟨Z, ?_⟩
   refine G ?_
   refine JU Z Z Z ?_
   intro fo dH
   refine G ?_
   exact fq
  refine G ?_
  refine QU (E := encBool) aw S36.h Z4 Z Z Z Z aa ?_
  intro bA fp aK
  refine ⟨(Qa (Qi Z Z (Zm (v := O b) Z Z ⟨Z, Z⟩)) (Qa (Qi Z Z (Zm (v := i) Z Z ⟨Z, Z⟩)) (Qa (Qi Z Z (Zp F38_1.h Z Z Z ⟨Z, Z⟩)) (Qa (Qi Z Z (Zn (aK.f3) A3.h Z Z Z ⟨Z, Z⟩)) (Qa (Qi Z Z (Qb S22.h Z d Z (Qd a).1 (Qd a).2.1 ⟨Z, Z⟩)) (Qa (Qi Z Z (Qg (F := (U .i64)) (aK.f2) d A3.h Z Z Z a (Sub.refl _) (fun _ q => ⟨Z, Qf.1 q⟩))) (Qa (Qi Z Z (Zp F38_2.h Z Z Z ⟨Z, Z⟩)) (Qa (Qi Z Z (Zn (aK.f3) A22.h Z Z Z ⟨Z, Z⟩)) Q1)))))))), ?_⟩
  refine G ?_
  refine Exec.buildSlice (Te := 3) (cs := []) aK Z Qh (fun _ => by kernel_rfl) ?_
  intro cW fr aL
  refine ⟨(Qa (Qi Z Z (Zm (v := O b) Z Z ⟨Z, Z⟩)) (Qa (Qi Z Z (Zm (v := i) Z Z ⟨Z, Z⟩)) (Qa (Qi Z Z (Zp F38_1.h Z Z Z ⟨Z, Z⟩)) (Qa (Qi Z Z (Zn (aL.f4) A3.h Z Z Z ⟨Z, Z⟩)) (Qa (Qi Z Z (Qb S22.h Z d Z (Qd a).1 (Qd a).2.1 ⟨Z, Z⟩)) (Qa (Qi Z Z (Qg (F := (U .i64)) (aL.f3) d A3.h Z Z Z a (Sub.refl _) (fun _ q => ⟨Z, Qf.1 q⟩))) (Qa (Qi Z Z (Zp F38_2.h Z Z Z ⟨Z, Z⟩)) (Qa (Qi Z Z (Zn (aL.f4) A22.h Z Z Z ⟨Z, Z⟩)) Q1)))))))), ?_⟩
  have ch := St.boxArr (E := (U .i64)) (xs := []) aL rfl (by simp [maxLen])
  refine G ?_
  refine Q5 (E := (U .i64)) (ys := l.Costs) ch S22.h Z3 Z (by decide) Z Z Z rq n ?_
  intro bB fs aM
  refine ⟨(Qa (Qi Z Z (Zm (v := O b) Z Z ⟨Z, Z⟩)) (Qa (Qi Z Z (Zm (v := i) Z Z ⟨Z, Z⟩)) (Qa (Qi Z Z (Zp F38_1.h Z Z Z ⟨Z, Z⟩)) (Qa (Qi Z Z (Zn (aM.f4) A3.h Z Z Z ⟨Z, Z⟩)) (Qa (Qi Z Z (Qb S22.h Z d Z (Qd a).1 (Qd a).2.1 ⟨Z, Z⟩)) (Qa (Qi Z Z (Qg (F := (U .i64)) (aM.f3) d A3.h Z Z Z a (Sub.refl _) (fun _ q => ⟨Z, Qf.1 q⟩))) Q1)))))), ?_⟩
  refine G ?_
  refine Exec.build Z (Qc (c := [O b]) (Qe Z Z) (Qc (c := [O j]) (Qe Z Z) (Qc (c := [bB]) (Qe Z (Ql aM.arr_one)) (Qc (c := [bA]) (Qe Z (Ql (aM.f1).arr_one)) Qh)))) (v := Value.agg #[O b, O j, bB, Vn, bA]) (fun _ => by kernel_rfl) ⟨Z, ?_⟩
  refine G ?_
  refine JU Z Z Z ?_
  intro ft dI
  refine G ?_
  exact fq
 intro dk fu bO
 obtain ⟨cB, y, u, x, dW, ci, ⟨dl, rfl⟩⟩ := bO
 obtain ⟨aO, bH, hm⟩ := V hm
 refine G ?_
 refine QH (fun k' s' f' w' => (fun (aO : (List Bool)) => ∃ (bs : PHeap) , PHeap.le cB bs ∧ St w0 bs (Res.arr (U .i64) 3 i ac :: Res.box ab 38 [O (l.States), O (l.Init), aj, ah, ae] :: Res.box o 38 [O 0, O 0, Vn, Vn, Vn] :: Res.box y 38 [O b, O j, u, Vn, x] :: Res.arr (U .i64) 3 u aN :: Res.arr encBool 4 x aO :: H) w' ∧ Fx f' [(40, O (k' : Int)), (1, i), (2, Vq ab), (4, Vq o), (7, Vq y), (38, ae), (39, O ((l.Goals.length : Int)))]) s') bH ?_ ?_ ?_
 ·have dJ := ci.f5
  exact fq
 ·intro cr aO em dm fv dR bJ az
  obtain ⟨cC, dX, bl, ⟨dn, rfl⟩⟩ := bJ
  obtain ⟨fC, cx, az⟩ := V az
  refine G ?_
  refine Jt Z Z Z cx ?_
  intro cX eh bF
  refine G ?_
  refine Zw (E := encBool) bl A4.h Z Z Z bF ?_
  intro ew cy
  obtain rfl := QC.1 cy
  obtain ⟨aY, m, az⟩ := V az
  refine g ?_
  refine Qo (M := fun f' w' => (fun (aY : (List Bool)) => ∃ (bt : PHeap) , PHeap.le cC bt ∧ St w0 bt (Res.arr (U .i64) 3 i ac :: Res.box ab 38 [O (l.States), O (l.Init), aj, ah, ae] :: Res.box o 38 [O 0, O 0, Vn, Vn, Vn] :: Res.box y 38 [O b, O j, u, Vn, x] :: Res.arr (U .i64) 3 u aN :: Res.arr encBool 4 x aY :: H) w' ∧ Fx f' [(1, i), (2, Vq ab), (4, Vq o), (7, Vq y), (38, ae), (39, O ((l.Goals.length : Int))), (40, O ((cr : Int)))]) aY) ?_ ?_
  ·refine Jz (n0 := 17) (qs 0 17 .done) J2 (by kernel_rfl) (by kernel_rfl) ?_
   have p := bl.drew
   obtain ⟨fD, ad, m⟩ := V m
   obtain ⟨dz, db, be⟩ := p.arr_at ad
   refine G ?_
   refine Qb S22.h Z be Z (Qd ad).1 (Qd ad).2.1 ⟨Z, ?_⟩
   refine G ?_
   refine Qg (F := (U .i64)) (p) be A3.h Z Z Z ad (Sub.refl _) ?_
   intro ex cz
   obtain rfl := Qf.1 cz
   refine ⟨Z, ?_⟩
   obtain ⟨d0, dc, bf⟩ := p.arr_at ad
   refine G ?_
   refine Qb S22.h Z bf Z (Qd ad).1 (Qd ad).2.1 ⟨Z, ?_⟩
   refine G ?_
   refine Qg (F := (U .i64)) (p) bf A3.h Z Z Z ad (Sub.refl _) ?_
   intro ey c0
   obtain rfl := Qf.1 c0
   refine ⟨Z, ?_⟩
   obtain ⟨fE, t, m⟩ := V m
   obtain ⟨d1, dd, bg⟩ := (p.f5).arr_at t
   refine G ?_
   refine Qb S36.h Z bg Z (Qd t).1 (Qd t).2.1 ⟨Z, ?_⟩
   refine G ?_
   refine Qg (F := encBool) (p.f5) bg A4.h Z Z Z t (Sub.refl _) ?_
   intro ez c1
   obtain rfl := QC.1 c1
   refine ⟨Z, ?_⟩
   refine G ?_
   rcases Qp m with ⟨cp, m⟩ | ⟨cp, m⟩
   ·obtain ⟨d2, de, bh⟩ := (p.f5).arr_at t
    refine G ?_
    refine Qb S36.h Z bh Z (Qd t).1 (Qd t).2.1 ?_
    obtain ⟨dY, c2, m⟩ := V m
    refine G ?_
    refine Qv p.f5 bh A4.h Z Z Z Z (QC.2 Z) c2 ?_
    intro fw dK
    cases m
    refine G ?_
    exact fq
   obtain ⟨d3, df, bi⟩ := (p.f5).arr_at t
   refine G ?_
   refine Qb S36.h Z bi Z (Qd t).1 (Qd t).2.1 ?_
   obtain ⟨dZ, c3, m⟩ := V m
   refine G ?_
   refine Qv p.f5 bi A4.h Z Z Z Z (QC.2 Z) c3 ?_
   intro fx dL
   cases m
   refine G ?_
   exact fq
  intro dp fy bP
  obtain ⟨en, ea, dM, ⟨dq, rfl⟩⟩ := bP
  cases az
  refine G ?_
  exact fq
 intro dr fz bK
 obtain ⟨cD, eb, cj, ⟨dt, rfl⟩⟩ := bK
 obtain ⟨bd, bI, hm⟩ := V hm
 refine G ?_
 refine QH (fun k' s' f' w' => (fun (bd : (List Edge)) => ∃ (ba : PHeap) (aU : Value), PHeap.le cD ba ∧ St w0 ba (Res.arr (U .i64) 3 i ac :: Res.box o 38 [O 0, O 0, Vn, Vn, Vn] :: Res.box y 38 [O b, O j, u, aU, x] :: Res.arr (U .i64) 3 u aN :: Res.arr encBool 4 x aO :: H) w' ∧ Fx f' [(67, O (k' : Int)), (1, i), (4, Vq o), (7, Vq y), (65, ah), (66, O ((l.Edges.length : Int)))] ∧ SliceRep encEdge ba aU bd) s') bI ?_ ?_ ?_
 ·have dN := (cj.f1).drop
  exact fq
 ·intro dS bd eo du f0 cq bL z
  obtain ⟨ep, aU, ec, bm, ⟨dv, rfl⟩, bp⟩ := bL
  obtain ⟨bC, c4, z⟩ := V z
  refine G ?_
  refine Jt Z Z Z c4 ?_
  intro cY ei bG
  refine G ?_
  refine Zw (E := encEdge) bm A73.h Z Z Z bG ?_
  intro e0 c5
  obtain rfl := QK.1 c5
  refine G ?_
  refine Exec.alloc (cs := [O 0, O 0, O 0]) bm Z73 Z Z ?_
  intro cZ f6 dO
  refine G ?_
  refine JU Z Z Z ?_
  intro f7 ck
  refine G ?_
  refine Jz (n0 := 16) (qs 0 15 (.e 15 [] .done)) J2 (by kernel_rfl) (by kernel_rfl) ?_
  have ay := ck.drew
  obtain ⟨bD, aP, z⟩ := V z
  obtain ⟨d4, dg, bj⟩ := (ay.f1).arr_at aP
  refine G ?_
  refine Qb S22.h Z bj Z (Qd aP).1 (Qd aP).2.1 ⟨Z, ?_⟩
  refine G ?_
  refine Qg (F := (U .i64)) (ay.f1) bj A3.h Z Z Z aP (Sub.refl _) ?_
  intro e1 c6
  obtain rfl := Qf.1 c6
  refine ⟨Z, ?_⟩
  obtain ⟨bE, aQ, z⟩ := V z
  obtain ⟨d5, dh, bk⟩ := (ay.f1).arr_at aQ
  refine G ?_
  refine Qb S22.h Z bk Z (Qd aQ).1 (Qd aQ).2.1 ⟨Z, ?_⟩
  refine G ?_
  refine Qg (F := (U .i64)) (ay.f1) bk A3.h Z Z Z aQ (Sub.refl _) ?_
  intro e2 c7
  obtain rfl := Qf.1 c7
  refine ⟨Z, ?_⟩
  refine G ?_
  refine Exec.build Z (Qc (c := [O bD]) (Qe Z Z) (Qc (c := [O (bC.Label)]) (Qe Z Z) (Qc (c := [O bE]) (Qe Z Z) Qh))) (v := Value.agg #[O bD, O (bC.Label), O bE]) (fun _ => by kernel_rfl) ⟨Z, ?_⟩
  obtain ⟨fG, c8, z⟩ := V z
  refine G ?_
  refine Tc Z Z Z Z (QaW c8 ay bp).r ?_
  rintro bb f8 ⟨cE, _, ed, cl, rfl, aZ⟩
  refine ⟨YD, ?_⟩
  refine G ?_
  refine Qq (ds := [bb]) (es := [O b, O j, u, bb, x]) cl.f3 A35.h Z Z Z (Ql aZ.one) (Zj aZ.one Ja) (Nat.le_of_ble_eq_true Z) Z ?_
  intro f9 cm
  cases z
  refine G ?_
  exact ⟨cE, bb, lq, ((((((cm.f1).drop).f4).f4).f2).f4).f4, (Fx.mk (FxL.cons (QD cq (SliceRep.le rq)) fxl)), aZ⟩
 intro dw fA bM
 obtain ⟨er, aU, ee, dP, ⟨dx, rfl⟩, bp⟩ := bM
 refine G ?_
 refine JU Z Z Z ?_
 intro fB bn
 cases hm
 refine G ?_
 refine ⟨_, Yg Z ⟨_, _, Z, Je (bn) A38.h⟩ Z, ?_⟩
 obtain ⟨et, ef, cn, ej⟩ := bn.f3.freezeArr
 obtain ⟨eu, eg, dQ, ek⟩ := cn.f3.freezeArr
 exact fq
theorem Qc2 {w0 w : World} {s : PHeap} {H : List Res} {a : System} {ae : Int} {l : Value} {m : Value} {n : Value} {r : (List Int) × Bool × System} (hm : JQ a ae = some r) (hS : St w0 s (H) w) (ak : SliceRep (U .i64) s l a.Costs) (al : SliceRep encEdge s m a.Edges) (am : SliceRep encBool s n a.Goals) :
  Calls Tryz.prog 27 #[Value.agg #[O (a.States), O (a.Init), l, m, n], O ae] w fun e w' => ∃ v, e = .returned v ∧ ((un3 fun (aC : (List Int)) (aD : Bool) (i : System) => ∃ (b : PHeap) (ag : Value) (ah : Value) (ai : Value) (aj : Value), PHeap.le s b ∧ St w0 b (H) w' ∧ v = Value.tuple #[Value.agg #[O (i.States), O (i.Init), ah, ai, aj], ag, Value.bool (aD)] ∧ SliceRep (U .i64) b ag aC ∧ SliceRep (U .i64) b ah i.Costs ∧ SliceRep encEdge b ai i.Edges ∧ SliceRep encBool b aj i.Goals) r) := by
 unfold JQ at hm
 refine Qj Tryz.func27 Z Z (G ?_)
 refine JY Z Z ?_
 intro z bn aq
 refine G ?_
 refine Exec.alloc (cs := [O 0, O 0, Vn, Vn, Vn]) aq Z38 Z Z ?_
 intro aa bo ab
 refine G ?_
 rcases Qp hm with ⟨a0, hm⟩ | ⟨a0, hm⟩
 ·obtain ⟨bk, a3, hm⟩ := V hm
  obtain ⟨p, an, hm⟩ := V hm
  refine G ?_
  refine QH (fun k' s' f' w' => (fun (p : (List Int)) => ∃ (af : PHeap) (o : Value), PHeap.le s af ∧ St w0 af (Res.box z 38 [O (a.States), O (a.Init), l, m, n] :: Res.box aa 38 [O 0, O 0, Vn, Vn, Vn] :: Res.arr (U .i64) 3 o p :: H) w' ∧ Fx f' [(17, O (k' : Int)), (2, Vq z), (4, Vq aa), (7, o), (16, O (a.States))]) s') an ?_ ?_ ?_
  ·have aK := ab.nilArr (U .i64) 3
   exact fq
  ·intro j p bc aG bp a1 ao t
   obtain ⟨a9, o, a2, ar, ⟨aH, rfl⟩⟩ := ao
   refine G ?_
   refine Exec.buildSlice (Te := 3) (cs := [O ((j : Int))]) ar Z (Qc (c := [O ((j : Int))]) (Qe Z Z) Qh) (fun _ => by kernel_rfl) ?_
   intro aE bq au
   obtain ⟨aP, a4, t⟩ := V t
   refine G ?_
   refine Qt (E := (U .i64)) (ys := [(j : Int)]) au.f3 S22.h Z3 Z (by decide) Z Z Z Z ⟨[O ((j : Int))], [], Z, Z, Z⟩ Z a4 ?_
   intro aB br av
   cases t
   refine G ?_
   exact ⟨a9, aB, a2, (av.f2).f2, (Fx.mk (FxL.cons (QD a1 (by have h := Qr a3; simp at h; simp only [maxLen]; omega)) fxl))⟩
  intro aI bs ap
  obtain ⟨bd, o, aQ, aL, ⟨aJ, rfl⟩⟩ := ap
  refine G ?_
  refine JU Z Z Z ?_
  intro bt ac
  cases hm
  refine G ?_
  refine ⟨_, Qh5 Z ⟨_, _, Z, Je (ac) A38.h⟩ Z Z, ?_⟩
  obtain ⟨be, aR, aM, aX⟩ := ac.f2.freezeArr
  exact fq
 obtain ⟨b2, a5, hm⟩ := V hm
 refine G ?_
 refine Tc Z Z Z Z (QfL a5 ab ak al am).r ?_
 rintro bl bu ⟨bf, _, aS, aw, rfl⟩
 obtain ⟨aA, a6, hm⟩ := V hm
 obtain ⟨b3, d⟩ := aA
 replace hm := Q6 hm
 refine G ?_
 refine Tc Z Z Z Z (Qdq a6 aw rq rq rq).r ?_
 rintro _ bv ⟨bg, u, x, y, aT, ax, rfl, aY, aZ, ba⟩
 refine G ?_
 refine Exec.alloc (cs := [O 0, O 0, Vn, Vn, Vn]) ax Z38 Z Z ?_
 intro aF bw aN
 refine G ?_
 refine JU Z Z Z ?_
 intro bx g
 refine G ?_
 refine Jz (n0 := 12) (qs 0 5 (.q 6 (.q 7 (.e 5 [0, 1, 2, 3, 6, 7] (.e 8 [0, 1, 2, 3] (.q 9 (.e 10 [1, 2, 3, 9] (.q 11 .done)))))))) J2 (by kernel_rfl) (by kernel_rfl) (G ?_)
 refine Q4 (ds := [O (d.States), O (d.Init), u, x, y]) (g.drew) A38.h Z Z Z ⟨Z, ?_⟩
 refine G ?_
 refine Zn (g.drew) A3.h Z Z Z ⟨Z, ?_⟩
 refine G ?_
 refine Q4 (ds := [O (a.States), O (a.Init), l, m, n]) ((g.drew).f3) A38.h Z Z Z ⟨Z, ?_⟩
 refine G ?_
 refine Zn ((g.drew).f3) A3.h Z Z Z ⟨Z, ?_⟩
 obtain ⟨b4, a7, hm⟩ := V hm
 refine G ?_
 refine Tc Z Z Z Z (QaH a7 g.drew rq rq rq).r ?_
 rintro bm bz ⟨bh, _, aU, ay, rfl⟩
 refine ⟨YD, ?_⟩
 obtain ⟨b5, a8, hm⟩ := V hm
 refine G ?_
 refine Tc Z Z Z Z (QaV a8 ay).r ?_
 rintro _ b0 ⟨bi, aV, az, rfl⟩
 refine ⟨YD, ?_⟩
 refine G ?_
 refine Qq (ds := [O (d.States), O (d.Init), u, x, y]) (es := [O (d.States), O (d.Init), u, x, y]) az.f3 A38.h Z Z Z Z (Zj Z (Zj Z (Zj (rq).one (Zj (rq).one (Zj (rq).one Ja))))) (Nat.le_of_ble_eq_true Z) Z ?_
 intro b1 ad
 refine ⟨YD, ?_⟩
 cases hm
 refine G ?_
 refine ⟨_, Qh5 Z ⟨_, _, Z, Je (ad) A38.h⟩ Z Z, ?_⟩
 obtain ⟨bj, aW, aO, bb⟩ := ad.f3.freezeArr
 exact fq
instance F40_2 : FTy Tryz.prog 40 2 6 := ⟨by kernel_rfl⟩
instance F40_1 : FTy Tryz.prog 40 1 5 := ⟨by kernel_rfl⟩
theorem Qhw {w0 w : World} {s : PHeap} {H : List Res} {b : (List Int)} {m : (List Int)} {i : Value} {j : Value} {r : Bool} (hm : Qcf b m = some r) (hS : St w0 s (H) w) (l : SliceRep (U .i64) s i b) (y : SliceRep (U .i64) s j m) :
  Calls Tryz.prog 53 #[i, j] w fun e w' => ∃ v, e = .returned v ∧ ((fun (au : Bool) => ∃ (q : PHeap) , PHeap.le s q ∧ St w0 q (H) w' ∧ v = Value.bool (au)) r) := by
 unfold Qcf at hm
 refine Qj Tryz.func53 Z Z (G ?_)
 rcases Qp hm with ⟨o, hm⟩ | ⟨o, hm⟩
 ·cases hm
  refine G ?_
  exact fr
 obtain ⟨n, ac, al, aj, ag⟩ := Qs hm
 refine W_c Z o (QaN (J3 (Ze (Zc (Zc (Zd (g ?_)))))))
 refine Qo (M := fun f' w' => ∃ s', (n = .next s' ∨ n = .brk s') ∧ (fun (_ : Unit) => ∃ (t : PHeap) , PHeap.le s t ∧ St w0 t (H) w' ∧ Fx f' [(0, i), (1, j), (12, O ((b.length : Int)))]) s') ?_ ?_
 ·refine G ?_
  refine QP (fun k' s' f' w' => (fun (_ : Unit) => ∃ (u : PHeap) , PHeap.le s u ∧ St w0 u (H) w' ∧ Fx f' [(13, O (k' : Int)), (0, i), (1, j), (12, O ((b.length : Int)))]) s') ac ?_ ?_ ?_
  ·exact fq
  ·intro a8 aF ab a0 aK ai ad a am
   obtain ⟨x, d, c, ⟨a1, rfl⟩⟩ := ad
   refine G ?_
   refine Jz (n0 := 9) (qs 0 9 .done) J2 (by kernel_rfl) (by kernel_rfl) ?_
   obtain ⟨aN, ao, a⟩ := V a
   refine G ?_
   refine Qm S22.h Z Z Z (l.mono d) ao ?_
   intro av aB z ax
   refine ⟨Z, ?_⟩
   refine G ?_
   refine Zw (E := (U .i64)) c.drew A3.h Z Z Z z ?_
   intro aI ap
   obtain rfl := Qf.1 ap
   refine ⟨Z, ?_⟩
   obtain ⟨aO, aq, a⟩ := V a
   refine G ?_
   refine Qm S22.h Z Z Z (y.mono d) aq ?_
   intro aw aC aa ay
   refine ⟨Z, ?_⟩
   refine G ?_
   refine Zw (E := (U .i64)) c.drew A3.h Z Z Z aa ?_
   intro aJ ar
   obtain rfl := Qf.1 ar
   refine ⟨Z, ?_⟩
   refine G ?_
   rcases Qp a with ⟨ah, a⟩ | ⟨ah, a⟩
   ·cases a
    have ak := al _ (am (by intro _ h; cases h))
    cases ak
    refine G ?_
    refine ⟨_, Yc Z, ?_⟩
    exact ⟨x, d, c.drew, Z⟩
   have az := Zu a
   subst ab
   refine G ?_
   refine ⟨_, Z, ?_⟩; exact ⟨x, d, c.drew, (Fx.mk (FxL.cons (QD ai (SliceRep.le l)) fxl))⟩
  intro aG a2 aL ae an
  obtain ⟨aD, a9, a6, ⟨a3, rfl⟩⟩ := ae
  refine G ?_
  exact ⟨_, .inl an, fq⟩
 rintro a4 aM ⟨aH, p, af⟩
 have hm := p.elim (aj _) (ag _)
 clear p
 obtain ⟨aE, aA, a7, ⟨a5, rfl⟩⟩ := af
 cases hm
 refine G ?_
 exact fr
theorem QeQ {w0 w : World} {s : PHeap} {H : List Res} {b : System} {a : System} {ac : Value} {x : Value} {ad : Value} {y : Value} {o : Value} {z : Value} {r : Int × System} (hm : KF b a = some r) (hS : St w0 s (H) w) (bf : SliceRep (U .i64) s ac b.Costs) (bg : SliceRep encEdge s x b.Edges) (aF : SliceRep encBool s ad b.Goals) (cz : SliceRep (U .i64) s y a.Costs) (c0 : SliceRep encEdge s o a.Edges) (bh : SliceRep encBool s z a.Goals) :
  Calls Tryz.prog 28 #[Value.agg #[O (b.States), O (b.Init), ac, x, ad], Value.agg #[O (a.States), O (a.Init), y, o, z]] w fun e w' => ∃ v, e = .returned v ∧ ((QM fun (cy : Int) (aj : System) => ∃ (ai : PHeap) (aZ : Value) (ba : Value) (bb : Value), PHeap.le s ai ∧ St w0 ai (H) w' ∧ v = Value.tuple #[Value.agg #[O (aj.States), O (aj.Init), aZ, ba, bb], O cy] ∧ SliceRep (U .i64) ai aZ aj.Costs ∧ SliceRep encEdge ai ba aj.Edges ∧ SliceRep encBool ai bb aj.Goals) r) := by
 unfold KF at hm
 refine Qj Tryz.func28 Z Z (G ?_)
 refine JY Z Z ?_
 intro u ej df
 refine G ?_
 refine JY Z Z ?_
 intro i ek b3
 refine G ?_
 refine Exec.alloc (cs := [O 0, O 0, Vn, Vn, Vn]) b3 Z38 Z Z ?_
 intro j el b4
 obtain ⟨aC, m, hm⟩ := V hm
 refine g ?_
 refine Zc (Zc (Qo (M := fun f' w' => (fun (aC : Bool) => ∃ (aU : PHeap) , PHeap.le s aU ∧ St w0 aU (Res.box u 38 [O (b.States), O (b.Init), ac, x, ad] :: Res.box i 38 [O (a.States), O (a.Init), y, o, z] :: Res.box j 38 [O 0, O 0, Vn, Vn, Vn] :: H) w' ∧ Fx f' [(2, Vq u), (3, Vq i), (4, Vq j), (28, Vb aC)]) aC) ?_ ?_))
 ·obtain ⟨eV, cd, m⟩ := V m
  refine G ?_
  refine Tc Z Z Z Z (Qbx cd b4 bf bg aF).r ?_
  rintro _ em ⟨dQ, d4, b5, rfl⟩
  refine G ?_
  rcases Qp m with ⟨bV, m⟩ | ⟨bV, m⟩
  ·cases m
   refine G ?_
   exact fq
  obtain ⟨eW, ce, m⟩ := V m
  refine G ?_
  refine Tc Z Z Z Z (Qbx ce b5 rq rq rq).r ?_
  rintro _ en ⟨dR, d5, b6, rfl⟩
  refine G ?_
  rcases Qp m with ⟨bW, m⟩ | ⟨bW, m⟩
  ·cases m
   refine G ?_
   exact fq
  obtain ⟨eX, cf, m⟩ := V m
  refine G ?_
  refine Tc Z Z Z Z (Qhw cf b6 rq rq).r ?_
  rintro _ eo ⟨dS, d6, dg, rfl⟩
  cases m
  refine G ?_
  exact fq
 intro cH ep bz
 obtain ⟨cr, aP, b7, ⟨cI, rfl⟩⟩ := bz
 refine G ?_
 rcases Qp hm with ⟨bX, hm⟩ | ⟨bX, hm⟩
 ·refine G ?_
  refine Exec.build Z Qh (v := Value.agg #[O 0, O 0, Vn, Vn, Vn]) (fun _ => by kernel_rfl) (G ?_)
  refine JU Z Z Z ?_
  intro er b8
  cases hm
  refine G ?_
  refine ⟨_, Yg Z ⟨_, _, Z, Je (b8) A38.h⟩ Z, ?_⟩
  exact fq
 refine G ?_
 rcases Qp hm with ⟨aM, hm⟩ | ⟨aM, hm⟩
 ·refine G ?_
  refine Exec.build Z Qh (v := Value.agg #[O 0, O 0, Vn, Vn, Vn]) (fun _ => by kernel_rfl) (G ?_)
  refine JU Z Z Z ?_
  intro et b9
  cases hm
  refine G ?_
  refine ⟨_, Yg Z ⟨_, _, Z, Je (b9) A38.h⟩ Z, ?_⟩
  exact fq
 obtain ⟨ab, a3, hm⟩ := V hm
 refine W_c Z aM (QaN (J3 (Ze (Zc (Qo (M := fun f' w' => ∃ (aV : PHeap) (l : Nat) (d : Value), PHeap.le cr aV ∧ St w0 aV (Res.box u 38 [O (b.States), O (b.Init), ac, x, ad] :: Res.box i 38 [O (a.States), O (a.Init), y, o, z] :: Res.box j 38 [O 0, O 0, Vn, Vn, Vn] :: Res.box l 38 [O (IntKind.i64.wrap (b.States * a.States)), O (IntKind.i64.wrap ((IntKind.i64.wrap (b.Init * a.States)) + a.Init)), d, Vn, Vn] :: Res.arr (U .i64) 3 d ab :: H) w' ∧ Fx f' [(2, Vq u), (3, Vq i), (4, Vq j), (6, Vq l)]) ?_ ?_)))))
 ·refine Jz (n0 := 19) (qs 0 13 (.q 14 (.q 15 (.alt (.e 13 [0, 1, 2, 3, 4, 5, 6, 7, 8, 9, 10, 11, 12, 14, 15] (.alt (.e 16 [0, 1, 2, 3, 4, 5, 6, 7, 8, 9, 10, 11, 12] (.q 17 (.e 18 [0, 1, 2, 3, 4, 5, 6, 7, 8, 9, 10, 11, 12, 17] .done))) (.e 18 [0, 1, 2, 3, 4, 5, 6, 7, 8, 9, 10, 11, 12, 14, 15] (.e 16 [0, 1, 2, 3, 4, 5, 6, 7, 8, 9, 10, 11, 12] (.q 17 .done))))) (.e 18 [0, 1, 2, 3, 4, 5, 6, 7, 8, 9, 10, 11, 12, 14, 15] (.e 13 [0, 1, 2, 3, 4, 5, 6, 7, 8, 9, 10, 11, 12, 14, 15] (.e 16 [0, 1, 2, 3, 4, 5, 6, 7, 8, 9, 10, 11, 12] (.q 17 .done)))))))) J2 (by kernel_rfl) (by kernel_rfl) ?_
  have aG := b7.drew
  refine G ?_
  refine KO ?_ ?_
  ·refine G ?_
   refine Exec.buildSlice (Te := 3) (cs := []) aG Z Qh (fun _ => by kernel_rfl) ?_
   intro c1 eu aH
   refine ⟨YD, ?_⟩
   refine KO ?_ ?_
   ·have bA := St.boxArr (E := (U .i64)) (xs := []) aH rfl (by simp [maxLen])
    refine G ?_
    refine Q5 (E := (U .i64)) (ys := b.Costs) bA S22.h Z3 Z (by decide) Z Z Z rq a3 ?_
    intro ao ev aI
    refine ⟨YD, ?_⟩
    refine G ?_
    refine Exec.build Z (Qc (c := [O (IntKind.i64.wrap (b.States * a.States))]) (Qe Z Z) (Qc (c := [O (IntKind.i64.wrap ((IntKind.i64.wrap (b.Init * a.States)) + a.Init))]) (Qe Z Z) (Qc (c := [ao]) (Qe Z (Ql aI.arr_one)) Qh))) (v := Value.agg #[O (IntKind.i64.wrap (b.States * a.States)), O (IntKind.i64.wrap ((IntKind.i64.wrap (b.Init * a.States)) + a.Init)), ao, Vn, Vn]) (fun _ => by kernel_rfl) ⟨Z, ?_⟩
    refine G ?_
    refine Exec.alloc (cs := [O 0, O 0, Vn, Vn, Vn]) aI Z38 Z Z ?_
    intro c2 ew ae
    refine ⟨(Qa (Qi Z Z (Zp F38_0.h Z Z Z ⟨Z, Z⟩)) (Qa (Qi Z Z (Zn (ae.f2) A3.h Z Z Z ⟨Z, Z⟩)) (Qa (Qi Z Z (Zp F38_0.h Z Z Z ⟨Z, Z⟩)) (Qa (Qi Z Z (Zn (ae.f3) A3.h Z Z Z ⟨Z, Z⟩)) (Qa (Qi Z Z (Exec.mul Z Z Z ⟨Z, Z⟩)) (Qa (Qi Z Z (Zp F38_1.h Z Z Z ⟨Z, Z⟩)) (Qa (Qi Z Z (Zn (ae.f2) A3.h Z Z Z ⟨Z, Z⟩)) (Qa (Qi Z Z (Zp F38_0.h Z Z Z ⟨Z, Z⟩)) (Qa (Qi Z Z (Zn (ae.f3) A3.h Z Z Z ⟨Z, Z⟩)) (Qa (Qi Z Z (Exec.mul Z Z Z ⟨Z, Z⟩)) (Qa (Qi Z Z (Zp F38_1.h Z Z Z ⟨Z, Z⟩)) (Qa (Qi Z Z (Zn (ae.f3) A3.h Z Z Z ⟨Z, Z⟩)) (Qa (Qi Z Z (Exec.add Z Z Z ⟨Z, Z⟩)) (Qa (Qi Z Z (Exec.build Z (Qc (c := [O (IntKind.i64.wrap (b.States * a.States))]) (Qe Z Z) (Qc (c := [O (IntKind.i64.wrap ((IntKind.i64.wrap (b.Init * a.States)) + a.Init))]) (Qe Z Z) (Qc (c := [ao]) (Qe Z (Ql (ae.f1).arr_one)) Qh))) (v := Value.agg #[O (IntKind.i64.wrap (b.States * a.States)), O (IntKind.i64.wrap ((IntKind.i64.wrap (b.Init * a.States)) + a.Init)), ao, Vn, Vn]) (fun _ => by kernel_rfl) ⟨Z, Z⟩)) Q1)))))))))))))), ?_⟩
    refine G ?_
    refine JU Z Z Z ?_
    intro ex dh
    refine G ?_
    exact fq
   refine G ?_
   refine Exec.alloc (cs := [O 0, O 0, Vn, Vn, Vn]) aH Z38 Z Z ?_
   intro c3 ey bB
   refine ⟨YD, ?_⟩
   have bC := St.boxArr (E := (U .i64)) (xs := []) bB.f1 rfl (by simp [maxLen])
   refine G ?_
   refine Q5 (E := (U .i64)) (ys := b.Costs) bC S22.h Z3 Z (by decide) Z Z Z rq a3 ?_
   intro bc ez bD
   refine ⟨YD, ?_⟩
   refine G ?_
   refine Exec.build Z (Qc (c := [O (IntKind.i64.wrap (b.States * a.States))]) (Qe Z Z) (Qc (c := [O (IntKind.i64.wrap ((IntKind.i64.wrap (b.Init * a.States)) + a.Init))]) (Qe Z Z) (Qc (c := [bc]) (Qe Z (Ql bD.arr_one)) Qh))) (v := Value.agg #[O (IntKind.i64.wrap (b.States * a.States)), O (IntKind.i64.wrap ((IntKind.i64.wrap (b.Init * a.States)) + a.Init)), bc, Vn, Vn]) (fun _ => by kernel_rfl) ⟨Z, ?_⟩
   refine G ?_
   refine JU Z Z Z ?_
   intro e0 di
   refine G ?_
   exact fq
  refine G ?_
  refine Exec.alloc (cs := [O 0, O 0, Vn, Vn, Vn]) aG Z38 Z Z ?_
  intro c4 e1 bE
  refine ⟨YD, ?_⟩
  refine G ?_
  refine Exec.buildSlice (Te := 3) (cs := []) bE Z Qh (fun _ => by kernel_rfl) ?_
  intro c5 e2 bF
  refine ⟨YD, ?_⟩
  have bG := St.boxArr (E := (U .i64)) (xs := []) bF rfl (by simp [maxLen])
  refine G ?_
  refine Q5 (E := (U .i64)) (ys := b.Costs) bG S22.h Z3 Z (by decide) Z Z Z rq a3 ?_
  intro bd e3 bH
  refine ⟨YD, ?_⟩
  refine G ?_
  refine Exec.build Z (Qc (c := [O (IntKind.i64.wrap (b.States * a.States))]) (Qe Z Z) (Qc (c := [O (IntKind.i64.wrap ((IntKind.i64.wrap (b.Init * a.States)) + a.Init))]) (Qe Z Z) (Qc (c := [bd]) (Qe Z (Ql bH.arr_one)) Qh))) (v := Value.agg #[O (IntKind.i64.wrap (b.States * a.States)), O (IntKind.i64.wrap ((IntKind.i64.wrap (b.Init * a.States)) + a.Init)), bd, Vn, Vn]) (fun _ => by kernel_rfl) ⟨Z, ?_⟩
  refine G ?_
  refine JU Z Z Z ?_
  intro e4 dj
  refine G ?_
  exact fq
 intro cJ e5 b0
 obtain ⟨ct, l, d, aQ, bI, ⟨cK, rfl⟩⟩ := b0
 obtain ⟨af, bm, hm⟩ := V hm
 refine G ?_
 refine QH (fun k' s' f' w' => (fun (af : (List Bool)) => ∃ (aW : PHeap) (t : Value), PHeap.le ct aW ∧ St w0 aW (Res.box u 38 [O (b.States), O (b.Init), ac, x, ad] :: Res.box i 38 [O (a.States), O (a.Init), y, o, z] :: Res.box j 38 [O 0, O 0, Vn, Vn, Vn] :: Res.box l 38 [O (IntKind.i64.wrap (b.States * a.States)), O (IntKind.i64.wrap ((IntKind.i64.wrap (b.Init * a.States)) + a.Init)), d, Vn, t] :: Res.arr (U .i64) 3 d ab :: Res.arr encBool 4 t af :: H) w' ∧ Fx f' [(58, O (k' : Int)), (2, Vq u), (3, Vq i), (4, Vq j), (6, Vq l), (57, O ((b.Goals.length : Int)))]) s') bm ?_ ?_ ?_
 ·have dk := bI.nilArr encBool 4
  exact fq
 ·intro am af dT cL e6 dz bq a0
  obtain ⟨cu, t, aR, bJ, ⟨cM, rfl⟩⟩ := bq
  obtain ⟨a2, bn, a0⟩ := V a0
  refine G ?_
  refine QH (fun k' s' f' w' => (fun (a2 : (List Bool)) => ∃ (aX : PHeap) (ap : Value), PHeap.le cu aX ∧ St w0 aX (Res.box u 38 [O (b.States), O (b.Init), ac, x, ad] :: Res.box i 38 [O (a.States), O (a.Init), y, o, z] :: Res.box j 38 [O 0, O 0, Vn, Vn, Vn] :: Res.box l 38 [O (IntKind.i64.wrap (b.States * a.States)), O (IntKind.i64.wrap ((IntKind.i64.wrap (b.Init * a.States)) + a.Init)), d, Vn, ap] :: Res.arr (U .i64) 3 d ab :: Res.arr encBool 4 ap a2 :: H) w' ∧ Fx f' [(64, O (k' : Int)), (2, Vq u), (3, Vq i), (4, Vq j), (6, Vq l), (7, O ((am : Int))), (57, O ((b.Goals.length : Int))), (58, O ((am : Int))), (63, O ((a.Goals.length : Int)))]) s') bn ?_ ?_ ?_
  ·have dl := bJ.f5
   exact fq
  ·intro cb a2 dU cN e7 d0 br a1
   obtain ⟨a4, ap, aS, bK, ⟨cO, rfl⟩⟩ := br
   obtain ⟨an, n, a1⟩ := V a1
   refine Zc (Zd (g ?_))
   refine Zc (QaO (Zx (decide_eq_true (by omega))) (J3 (Ze (Zc (Qae (Zc (Zd (g ?_))))))))
   refine Qo (M := fun f' w' => (fun (an : (List Bool)) => ∃ (aY : PHeap) (a8 : Value), PHeap.le a4 aY ∧ St w0 aY (Res.box u 38 [O (b.States), O (b.Init), ac, x, ad] :: Res.box i 38 [O (a.States), O (a.Init), y, o, z] :: Res.box j 38 [O 0, O 0, Vn, Vn, Vn] :: Res.box l 38 [O (IntKind.i64.wrap (b.States * a.States)), O (IntKind.i64.wrap ((IntKind.i64.wrap (b.Init * a.States)) + a.Init)), d, Vn, a8] :: Res.arr (U .i64) 3 d ab :: Res.arr encBool 4 a8 an :: H) w' ∧ Fx f' [(2, Vq u), (3, Vq i), (4, Vq j), (6, Vq l), (7, O ((am : Int))), (57, O ((b.Goals.length : Int))), (58, O ((am : Int))), (63, O ((a.Goals.length : Int))), (64, O ((cb : Int)))]) an) ?_ ?_
   ·refine Jz (n0 := 16) (qs 0 14 (.e 14 [0, 1] (.e 15 [] .done))) J2 (by kernel_rfl) (by kernel_rfl) ?_
    have al := bK.drew
    obtain ⟨eU, cg, n⟩ := V n
    refine G ?_
    refine Qm S36.h Z Z Z (aF.mono (Zt (Zt (Zt aP aQ) aR) aS)) cg ?_
    intro c6 dK bi cD
    refine ⟨Z, ?_⟩
    refine G ?_
    refine Zw (E := encBool) al A4.h Z Z Z bi ?_
    intro ef ch
    obtain rfl := QC.1 ch
    refine ⟨Z, ?_⟩
    refine G ?_
    rcases Qp n with ⟨bY, n⟩ | ⟨bY, n⟩
    ·obtain ⟨au, ci, n⟩ := V n
     refine G ?_
     refine Qm S36.h Z Z Z (bh.mono (Zt (Zt (Zt aP aQ) aR) aS)) ci ?_
     intro c7 dL bj cE
     refine ⟨Z, ?_⟩
     refine G ?_
     refine Zw (E := encBool) al A4.h Z Z Z bj ?_
     intro eg cj
     obtain rfl := QC.1 cj
     refine ⟨Z, ?_⟩
     refine G ?_
     refine Exec.buildSlice (Te := 4) (cs := [Vb au]) al Z (Qc (c := [Vb au]) (Qe Z Z) Qh) (fun _ => by kernel_rfl) ?_
     intro c8 e8 bL
     refine ⟨YD, ?_⟩
     obtain ⟨d7, ck, n⟩ := V n
     refine G ?_
     refine Qt (E := encBool) (ys := [au]) bL.f6 S36.h Z4 Z (by decide) Z Z Z Z ⟨[Vb au], [], Z, Z, Z⟩ Z ck ?_
     intro a9 e9 ax
     refine ⟨YD, ?_⟩
     refine G ?_
     refine Qq (ds := [a9]) (es := [O (IntKind.i64.wrap (b.States * a.States)), O (IntKind.i64.wrap ((IntKind.i64.wrap (b.Init * a.States)) + a.Init)), d, Vn, a9]) ax.f4 A36.h Z Z Z (Ql ((ax.f4).f1).arr_one) (Zj ((ax.f4).f1).arr_one Ja) (Nat.le_of_ble_eq_true Z) Z ?_
     intro eA bM
     cases n
     refine G ?_
     exact ⟨a4, a9, (Zv _), (((((bM.f1).f5).f2).f5).f5).f5, (Fx.mk)⟩
    refine G ?_
    refine Exec.buildSlice (Te := 4) (cs := [Vb false]) al Z (Qc (c := [Vb false]) (Qe Z Z) Qh) (fun _ => by kernel_rfl) ?_
    intro c9 eB bN
    refine ⟨YD, ?_⟩
    obtain ⟨d8, cl, n⟩ := V n
    refine G ?_
    refine Qt (E := encBool) (ys := [false]) bN.f6 S36.h Z4 Z (by decide) Z Z Z Z ⟨[Vb false], [], Z, Z, Z⟩ Z cl ?_
    intro aA eC ay
    refine ⟨Q1, ?_⟩
    refine G ?_
    refine Qq (ds := [aA]) (es := [O (IntKind.i64.wrap (b.States * a.States)), O (IntKind.i64.wrap ((IntKind.i64.wrap (b.Init * a.States)) + a.Init)), d, Vn, aA]) ay.f4 A36.h Z Z Z (Ql ((ay.f4).f1).arr_one) (Zj ((ay.f4).f1).arr_one Ja) (Nat.le_of_ble_eq_true Z) Z ?_
    intro eD bO
    have cF := Zu n
    subst an
    refine G ?_
    exact ⟨a4, aA, (Zv _), (((((bO.f1).f5).f2).f5).f5).f5, (Fx.mk)⟩
   intro cP eE b1
   obtain ⟨dV, a8, d9, dm, ⟨cQ, rfl⟩⟩ := b1
   cases a1
   refine G ?_
   exact fq
  intro cR eF bs
  obtain ⟨dW, ap, dA, dn, ⟨cS, rfl⟩⟩ := bs
  cases a0
  refine G ?_
  exact fq
 intro cT eG bt
 obtain ⟨cv, t, dB, bP, ⟨cU, rfl⟩⟩ := bt
 obtain ⟨aD, bo, hm⟩ := V hm
 refine G ?_
 refine QH (fun k' s' f' w' => (fun (aD : (List Edge)) => ∃ (a5 : PHeap) (aq : Value), PHeap.le cv a5 ∧ St w0 a5 (Res.box i 38 [O (a.States), O (a.Init), y, o, z] :: Res.box j 38 [O 0, O 0, Vn, Vn, Vn] :: Res.box l 38 [O (IntKind.i64.wrap (b.States * a.States)), O (IntKind.i64.wrap ((IntKind.i64.wrap (b.Init * a.States)) + a.Init)), d, aq, t] :: Res.arr (U .i64) 3 d ab :: Res.arr encBool 4 t af :: H) w' ∧ Fx f' [(89, O (k' : Int)), (3, Vq i), (4, Vq j), (6, Vq l), (87, x), (88, O ((b.Edges.length : Int)))] ∧ SliceRep encEdge a5 aq aD) s') bo ?_ ?_ ?_
 ·have dp := bP.drop
  exact fq
 ·intro aO aD dX cV eH d1 bu ag
  obtain ⟨cw, aq, dC, aJ, ⟨cW, rfl⟩, ca⟩ := bu
  obtain ⟨p, cm, ag⟩ := V ag
  refine G ?_
  refine Jt Z Z Z cm ?_
  intro cA dM bk
  refine G ?_
  refine Zw (E := encEdge) aJ A73.h Z Z Z bk ?_
  intro eh cn
  obtain rfl := QK.1 cn
  refine G ?_
  refine Exec.alloc (cs := [O 0, O 0, O 0]) aJ Z73 Z Z ?_
  intro ak eI dq
  refine G ?_
  refine JU Z Z Z ?_
  intro eJ bQ
  obtain ⟨aE, bp, ag⟩ := V ag
  refine G ?_
  refine QH (fun k' s' f' w' => (fun (aE : (List Edge)) => ∃ (a6 : PHeap) (ar : Value), PHeap.le cw a6 ∧ St w0 a6 (Res.box i 38 [O (a.States), O (a.Init), y, o, z] :: Res.box j 38 [O 0, O 0, Vn, Vn, Vn] :: Res.box l 38 [O (IntKind.i64.wrap (b.States * a.States)), O (IntKind.i64.wrap ((IntKind.i64.wrap (b.Init * a.States)) + a.Init)), d, ar, t] :: Res.box ak 73 [O (p.From), O (p.Label), O (p.To)] :: Res.arr (U .i64) 3 d ab :: Res.arr encBool 4 t af :: H) w' ∧ Fx f' [(96, O (k' : Int)), (3, Vq i), (4, Vq j), (6, Vq l), (10, Vq ak), (87, x), (88, O ((b.Edges.length : Int))), (89, O ((aO : Int))), (94, o), (95, O ((a.Edges.length : Int)))] ∧ SliceRep encEdge a6 ar aE) s') bp ?_ ?_ ?_
  ·have dr := bQ.f5
   exact fq
  ·intro cc aE dY cX eK d2 bv ah
   obtain ⟨cx, ar, dD, aK, ⟨cY, rfl⟩, aN⟩ := bv
   obtain ⟨av, co, ah⟩ := V ah
   refine G ?_
   refine Jt Z Z Z co ?_
   intro cB dN bl
   refine G ?_
   refine Zw (E := encEdge) aK A73.h Z Z Z bl ?_
   intro ei cp
   obtain rfl := QK.1 cp
   refine G ?_
   refine Exec.alloc (cs := [O 0, O 0, O 0]) aK Z73 Z Z ?_
   intro cC eL dt
   refine G ?_
   refine JU Z Z Z ?_
   intro eM bR
   obtain ⟨aw, aa, ah⟩ := V ah
   refine g ?_
   refine Zc (Zd (g ?_))
   refine Qo (M := fun f' w' => (fun (aw : (List Edge)) => ∃ (a7 : PHeap) (aB : Value), PHeap.le cx a7 ∧ St w0 a7 (Res.box i 38 [O (a.States), O (a.Init), y, o, z] :: Res.box j 38 [O 0, O 0, Vn, Vn, Vn] :: Res.box l 38 [O (IntKind.i64.wrap (b.States * a.States)), O (IntKind.i64.wrap ((IntKind.i64.wrap (b.Init * a.States)) + a.Init)), d, aB, t] :: Res.box ak 73 [O (p.From), O (p.Label), O (p.To)] :: Res.arr (U .i64) 3 d ab :: Res.arr encBool 4 t af :: H) w' ∧ Fx f' [(3, Vq i), (4, Vq j), (6, Vq l), (10, Vq ak), (87, x), (88, O ((b.Edges.length : Int))), (89, O ((aO : Int))), (94, o), (95, O ((a.Edges.length : Int))), (96, O ((cc : Int)))] ∧ SliceRep encEdge a7 aB aw) aw) ?_ ?_
   ·rcases KV aa with ⟨az, aa⟩ | ⟨az, aa⟩
    ·refine G ?_
     refine Exec.build Z (Qc (c := [O (IntKind.i64.wrap ((IntKind.i64.wrap (p.From * a.States)) + av.From))]) (Qe Z Z) (Qc (c := [O (p.Label)]) (Qe Z Z) (Qc (c := [O (IntKind.i64.wrap ((IntKind.i64.wrap (p.To * a.States)) + av.To))]) (Qe Z Z) Qh))) (v := Value.agg #[O (IntKind.i64.wrap ((IntKind.i64.wrap (p.From * a.States)) + av.From)), O (p.Label), O (IntKind.i64.wrap ((IntKind.i64.wrap (p.To * a.States)) + av.To))]) (fun _ => by kernel_rfl) ?_
     obtain ⟨eY, cq, aa⟩ := V aa
     refine G ?_
     refine Tc Z Z Z (Zi Z (Zi Z QT)) (QaW cq bR aN).r ?_
     rintro be eN ⟨dZ, _, dE, bS, rfl, aT⟩
     refine G ?_
     refine Qq (ds := [be]) (es := [O (IntKind.i64.wrap (b.States * a.States)), O (IntKind.i64.wrap ((IntKind.i64.wrap (b.Init * a.States)) + a.Init)), d, be, t]) bS.f3 A35.h Z Z Z (Ql aT.one) (Zj aT.one Ja) (Nat.le_of_ble_eq_true Z) Z ?_
     intro eO du
     have cG := Zu aa
     subst aw
     refine G ?_
     exact fq
    replace az := Zk az
    cases aa
    refine G ?_
    exact fq
   intro cZ eP b2
   obtain ⟨ea, aB, dF, dv, ⟨da, rfl⟩, d3⟩ := b2
   cases ah
   refine G ?_
   exact fq
  intro db eQ bw
  obtain ⟨eb, ar, dG, dw, ⟨dc, rfl⟩, aN⟩ := bw
  cases ag
  refine G ?_
  exact fq
 intro dd eR bx
 obtain ⟨ec, aq, dH, dx, ⟨de, rfl⟩, ca⟩ := bx
 refine G ?_
 rcases Qp hm with ⟨bZ, hm⟩ | ⟨bZ, hm⟩
 ·refine G ?_
  refine Exec.build Z Qh (v := Value.agg #[O 0, O 0, Vn, Vn, Vn]) (fun _ => by kernel_rfl) (G ?_)
  refine JU Z Z Z ?_
  intro eS bT
  cases hm
  refine G ?_
  refine ⟨_, Yg Z ⟨_, _, Z, Je (bT) A38.h⟩ Z, ?_⟩
  exact fq
 refine G ?_
 refine JU Z Z Z ?_
 intro eT aL
 cases hm
 refine G ?_
 refine ⟨_, Yg Z ⟨_, _, Z, Je (aL) A38.h⟩ Z, ?_⟩
 obtain ⟨ed, dI, bU, dO⟩ := aL.f3.freezeArr
 obtain ⟨ee, dJ, dy, dP⟩ := bU.f3.freezeArr
 exact fq
theorem QcO {w0 w : World} {s : PHeap} {H : List Res} {a4 : Task} {ac : (List Int)} {m : Int} {p : Value} {q : Value} {t : Value} {u : Value} {x : Value} {r : ref46_Abstraction} (hm : Yt a4 ac m = some r) (hS : St w0 s (H) w) (dB : SliceRep (U .i64) s p a4.Vars) (dC : SliceRep (U .i64) s q a4.Init) (dD : SliceRep encFact s t a4.Goal) (dE : SliceRep encOp s u a4.Ops) (dF : SliceRep (U .i64) s x ac) :
  Calls Tryz.prog 8 #[Value.agg #[p, q, t, u], x, O m] w fun e w' => ∃ v, e = .returned v ∧ ((fun (ar : ref46_Abstraction) => ∃ (av : PHeap) (bD : Value) (bE : Value) (bF : Value) (bG : Value), PHeap.le s av ∧ St w0 av (H) w' ∧ v = Value.agg #[O (ar.System.States), O (ar.System.Init), bD, bE, bF, bG, Value.bool (ar.Exact)] ∧ SliceRep (U .i64) av bD ar.System.Costs ∧ SliceRep encEdge av bE ar.System.Edges ∧ SliceRep encBool av bF ar.System.Goals ∧ SliceRep (U .i64) av bG ar.To) r) := by
 unfold Yt at hm
 refine Qj Tryz.func8 Z Z (G ?_)
 refine JY Z Z ?_
 intro b fP co
 refine G ?_
 refine Exec.alloc (cs := [O 0, O 0, Vn, Vn, Vn, Vn, Vb false]) co Z40 Z Z ?_
 intro d fQ cp
 refine G ?_
 refine Tc Z Z Z Z (QdW (Qbc m 1 4096) cp).r ?_
 rintro _ fR ⟨bw, eS, cq, rfl⟩
 obtain ⟨ba, bW, eP, cK, cA⟩ := Qs hm
 refine g ?_
 refine Zc (Zd (g ?_))
 refine Zc (Qo (M := fun f' w' => ∃ s', (ba = .next s' ∨ ba = .brk s') ∧ (fun (ad : Int) => ∃ (bx : PHeap) , PHeap.le bw bx ∧ St w0 bx (Res.box b 26 [p, q, t, u] :: Res.box d 40 [O 0, O 0, Vn, Vn, Vn, Vn, Vb false] :: H) w' ∧ Fx f' [(1, x), (3, Vq b), (6, Vq d), (7, O ((QN m 1 4096))), (8, O ad)]) s') ?_ ?_)
 ·refine G ?_
  refine KA (fun s' f' w' => (fun (bv : Int) => ∃ (bz : PHeap) , PHeap.le bw bz ∧ St w0 bz (Res.box b 26 [p, q, t, u] :: Res.box d 40 [O 0, O 0, Vn, Vn, Vn, Vn, Vb false] :: H) w' ∧ Fx f' [(1, x), (3, Vq b), (6, Vq d), (7, O ((QN m 1 4096))), (8, O bv)]) s') bW ?_ ?_
  ·have e6 := cq.f1
   exact fq
  intro bv dP ea fS ca az cL
  obtain ⟨fx, eT, e7, ⟨eb, rfl⟩⟩ := ca
  refine G ?_
  rcases Qp az with ⟨cB, az⟩ | ⟨cB, az⟩
  ·cases az
   refine G ?_
   exact ⟨_, Z, fq⟩
  cases az
  refine G ?_
  exact ⟨_, .inr (cL (by intro _ h; cases h)), fq⟩
 rintro ec fT ⟨ad, bh, ch⟩
 have hm := bh.elim (cK _) (cA _)
 clear bh
 obtain ⟨fy, eU, cr, ⟨ed, rfl⟩⟩ := ch
 obtain ⟨bL, cN, hm⟩ := V hm
 refine G ?_
 refine Tc Z Z Z Z (Qbz cN cr rq).r ?_
 rintro ae fU ⟨dx, _, eV, ct, rfl, dn⟩
 refine G ?_
 refine Exec.build Z (Qc (c := [Vb true]) (Qe Z Z) Qh) (v := Value.agg #[O 0, O 0, Vn, Vn, Vn, Vn, Vb true]) (fun _ => by kernel_rfl) (G ?_)
 refine Exec.alloc (cs := [O 0, O 0, Vn, Vn, Vn, Vn, Vb false]) ct Z40 Z Z ?_
 intro j fV e8
 refine G ?_
 refine JU Z Z Z ?_
 intro fW cu
 obtain ⟨d6, bX, hm⟩ := V hm
 refine G ?_
 refine QH (fun k' s' f' w' => (un7 fun (af : Int) (ag : Int) (aW : (List Int)) (aX : (List Edge)) (aY : (List Bool)) (al : (List Int)) (au : Bool) => ∃ (a3 : PHeap) (y : Value) (z : Value) (aa : Value) (i : Value), PHeap.le dx a3 ∧ St w0 a3 (Res.box b 26 [p, q, t, u] :: Res.box d 40 [O 0, O 0, Vn, Vn, Vn, Vn, Vb false] :: Res.box j 40 [O af, O ag, y, z, aa, i, Vb au] :: Res.arr (U .i64) 3 i al :: H) w' ∧ Fx f' [(42, O (k' : Int)), (3, Vq b), (6, Vq d), (7, O ((QN m 1 4096))), (8, O ad), (9, ae), (10, Vq j), (40, x), (41, O ((ac.length : Int)))] ∧ SliceRep (U .i64) a3 y aW ∧ SliceRep encEdge a3 z aX ∧ SliceRep encBool a3 aa aY) s') bX ?_ ?_ ?_
 ·have e9 := cu.nilArr (U .i64) 3
  exact fq
 ·intro o d7 dy ee fX cH cb a
  obtain ⟨af, ag, aW, aX, aY, al, au⟩ := d7
  replace a := QhW a
  obtain ⟨fz, y, z, aa, i, eW, bd, ⟨ef, rfl⟩, aH, aI, aJ⟩ := cb
  obtain ⟨am, cO, a⟩ := V a
  refine G ?_
  refine Jt Z Z Z cO ?_
  intro dG ff bO
  refine G ?_
  refine Zw (E := (U .i64)) bd A3.h Z Z Z bO ?_
  intro fG cP
  obtain rfl := Qf.1 cP
  obtain ⟨an, cQ, a⟩ := V a
  refine G ?_
  refine Tc Z Z Z Z (Qfs cQ bd rq rq rq rq).r ?_
  rintro _ fY ⟨a9, aA, aB, aC, aL, cv, rfl, fn, fo, fp⟩
  refine G ?_
  refine Exec.alloc (cs := [O 0, O 0, Vn, Vn, Vn]) cv Z38 Z Z ?_
  intro l fZ eA
  refine G ?_
  refine JU Z Z Z ?_
  intro ga cw
  obtain ⟨b9, aj, a⟩ := V a
  refine g ?_
  refine Zc (Zd (g ?_))
  refine Zc (Zc (Zd (g ?_)))
  refine Qo (M := fun f' w' => (QM fun (aK : Int) (bq : Int) => ∃ (b0 : PHeap) , PHeap.le a9 b0 ∧ St w0 b0 (Res.box b 26 [p, q, t, u] :: Res.box d 40 [O 0, O 0, Vn, Vn, Vn, Vn, Vb false] :: Res.box j 40 [O af, O ag, y, z, aa, i, Vb au] :: Res.box l 38 [O (an.States), O (an.Init), aA, aB, aC] :: Res.arr (U .i64) 3 i al :: H) w' ∧ Fx f' [(3, Vq b), (6, Vq d), (7, O ((QN m 1 4096))), (8, O ad), (9, ae), (10, Vq j), (11, O ((o : Int))), (12, O am), (13, Vq l), (14, O aK), (15, O bq), (40, x), (41, O ((ac.length : Int))), (42, O ((o : Int)))]) b9) ?_ ?_
  ·rcases Qp aj with ⟨cC, aj⟩ | ⟨cC, aj⟩
   ·refine G ?_
    refine Jz (n0 := 6) (qs 0 6 .done) J2 (by kernel_rfl) (by kernel_rfl) ?_
    have eB := cw.drew
    obtain ⟨bA, ak, aj⟩ := V aj
    refine g ?_
    refine Zc (Zd (g ?_))
    refine Qo (M := fun f' w' => (QM fun (bk : Int) (br : Int) => ∃ (b1 : PHeap) , PHeap.le a9 b1 ∧ St w0 b1 (Res.box b 26 [p, q, t, u] :: Res.box d 40 [O 0, O 0, Vn, Vn, Vn, Vn, Vb false] :: Res.box j 40 [O af, O ag, y, z, aa, i, Vb au] :: Res.box l 38 [O (an.States), O (an.Init), aA, aB, aC] :: Res.arr (U .i64) 3 i al :: H) w' ∧ Fx f' [(3, Vq b), (6, Vq d), (7, O ((QN m 1 4096))), (8, O ad), (9, ae), (10, Vq j), (11, O ((o : Int))), (12, O am), (13, Vq l), (14, O bk), (15, O br), (40, x), (41, O ((ac.length : Int))), (42, O ((o : Int)))]) bA) ?_ ?_
    ·rcases Qp ak with ⟨bi, ak⟩ | ⟨bi, ak⟩
     ·obtain ⟨bB, ab, ak⟩ := V ak
      refine W_c Z bi (QlG (Qae (Zc (Zd (g ?_)))))
      refine Qo (M := fun f' w' => (QM fun (bl : Int) (bs : Int) => ∃ (b2 : PHeap) , PHeap.le a9 b2 ∧ St w0 b2 (Res.box b 26 [p, q, t, u] :: Res.box d 40 [O 0, O 0, Vn, Vn, Vn, Vn, Vb false] :: Res.box j 40 [O af, O ag, y, z, aa, i, Vb au] :: Res.box l 38 [O (an.States), O (an.Init), aA, aB, aC] :: Res.arr (U .i64) 3 i al :: H) w' ∧ Fx f' [(3, Vq b), (6, Vq d), (7, O ((QN m 1 4096))), (8, O ad), (9, ae), (10, Vq j), (11, O ((o : Int))), (12, O am), (13, Vq l), (14, O bl), (15, O bs), (40, x), (41, O ((ac.length : Int))), (42, O ((o : Int)))]) bB) ?_ ?_
      ·rcases Qp ab with ⟨bj, ab⟩ | ⟨bj, ab⟩
       ·obtain ⟨fE, cR, ab⟩ := V ab
        refine G ?_
        refine Exec.quo Z Z Z (by simpa using Qr cR) ?_
        cases ab
        refine G ?_
        exact fq
       obtain ⟨bC, ap, ab⟩ := V ab
       refine W_c Z bj (QaN (Zc (Zd (g ?_))))
       refine Qo (M := fun f' w' => (QM fun (bm : Int) (bt : Int) => ∃ (b3 : PHeap) , PHeap.le a9 b3 ∧ St w0 b3 (Res.box b 26 [p, q, t, u] :: Res.box d 40 [O 0, O 0, Vn, Vn, Vn, Vn, Vb false] :: Res.box j 40 [O af, O ag, y, z, aa, i, Vb au] :: Res.box l 38 [O (an.States), O (an.Init), aA, aB, aC] :: Res.arr (U .i64) 3 i al :: H) w' ∧ Fx f' [(3, Vq b), (6, Vq d), (7, O ((QN m 1 4096))), (8, O ad), (9, ae), (10, Vq j), (11, O ((o : Int))), (12, O am), (13, Vq l), (14, O bm), (15, O bt), (40, x), (41, O ((ac.length : Int))), (42, O ((o : Int)))]) bC) ?_ ?_
       ·rcases Qp ap with ⟨cD, ap⟩ | ⟨cD, ap⟩
        ·obtain ⟨fF, cS, ap⟩ := V ap
         refine G ?_
         refine Exec.quo Z Z Z (by simpa using Qr cS) ?_
         cases ap
         refine G ?_
         exact fq
        cases ap
        refine G ?_
        exact fq
       intro eg gb ci
       obtain ⟨bm, bt⟩ := bC
       replace ab := Q6 ab
       obtain ⟨f0, eX, eC, ⟨eh, rfl⟩⟩ := ci
       cases ab
       refine G ?_
       exact fq
      intro ei gc cj
      obtain ⟨bl, bs⟩ := bB
      replace ak := Q6 ak
      obtain ⟨f6, eY, eD, ⟨ej, rfl⟩⟩ := cj
      cases ak
      refine G ?_
      exact fq
     cases ak
     refine G ?_
     exact fq
    intro ek gd ck
    obtain ⟨bk, br⟩ := bA
    replace aj := Q6 aj
    obtain ⟨f7, eZ, eE, ⟨el, rfl⟩⟩ := ck
    cases aj
    refine G ?_
    exact fq
   cases aj
   refine G ?_
   exact fq
  intro em gf cl
  obtain ⟨aK, bq⟩ := b9
  replace a := Q6 a
  obtain ⟨f8, aM, cx, ⟨en, rfl⟩⟩ := cl
  obtain ⟨d8, cT, a⟩ := V a
  obtain ⟨gC, gD, ah⟩ := d8
  replace a := Qaz a
  refine G ?_
  refine Tc Z Z Z Z (Qc2 cT cx rq rq rq).r ?_
  rintro _ gg ⟨dz, aD, a5, a6, a7, aN, eF, rfl, bu, fr, fs, ft⟩
  refine G ?_
  refine JU Z Z Z ?_
  intro gh eG
  obtain ⟨a8, a0, a⟩ := V a
  refine g ?_
  refine Zc (Qo (M := fun f' w' => (fun (a8 : Bool) => ∃ (b4 : PHeap) , PHeap.le dz b4 ∧ St w0 b4 (Res.box b 26 [p, q, t, u] :: Res.box d 40 [O 0, O 0, Vn, Vn, Vn, Vn, Vb false] :: Res.box j 40 [O af, O ag, y, z, aa, i, Vb a8] :: Res.box l 38 [O (ah.States), O (ah.Init), a5, a6, a7] :: Res.arr (U .i64) 3 i al :: H) w' ∧ Fx f' [(3, Vq b), (6, Vq d), (7, O ((QN m 1 4096))), (8, O ad), (9, ae), (10, Vq j), (11, O ((o : Int))), (12, O am), (13, Vq l), (14, O aK), (16, aD), (40, x), (41, O ((ac.length : Int))), (42, O ((o : Int)))]) a8) ?_ ?_)
  ·refine G ?_
   rcases Qp a0 with ⟨cE, a0⟩ | ⟨cE, a0⟩
   ·refine G ?_
    refine JU Z Z Z ?_
    intro gi eH
    cases a0
    refine G ?_
    exact fq
   refine G ?_
   refine JU Z Z Z ?_
   intro gj eI
   cases a0
   refine G ?_
   exact fq
  intro eo gk cm
  obtain ⟨d0, a2, cy, ⟨ep, rfl⟩⟩ := cm
  refine G ?_
  rcases Qp a with ⟨cF, a⟩ | ⟨cF, a⟩
  ·refine G ?_
   refine JU Z Z Z ?_
   intro gl cz
   obtain ⟨aO, bY, a⟩ := V a
   refine G ?_
   refine QH (fun k' s' f' w' => (fun (aO : (List Int)) => ∃ (b5 : PHeap) (aE : Value), PHeap.le d0 b5 ∧ St w0 b5 (Res.box b 26 [p, q, t, u] :: Res.box d 40 [O 0, O 0, Vn, Vn, Vn, Vn, Vb false] :: Res.box j 40 [O (ah.States), O (ah.Init), a5, a6, a7, aE, Vb a8] :: Res.arr (U .i64) 3 aE aO :: H) w' ∧ Fx f' [(99, O (k' : Int)), (3, Vq b), (6, Vq d), (7, O ((QN m 1 4096))), (8, O ad), (9, ae), (10, Vq j), (12, O am), (16, aD), (40, x), (41, O ((ac.length : Int))), (42, O ((o : Int))), (97, ae), (98, O ((bL.length : Int)))]) s') bY ?_ ?_ ?_
   ·have eJ := (cz.f3).drop
    exact fq
   ·intro eQ aO f9 er gm cI cc ai
    obtain ⟨d1, aE, bn, ay, ⟨et, rfl⟩⟩ := cc
    obtain ⟨g5, cU, ai⟩ := V ai
    refine G ?_
    refine Jt Z Z Z cU ?_
    intro dH fg bP
    refine G ?_
    refine Zw (E := (Qu (U .i64))) ay A22.h Z Z Z bP ?_
    intro fH cV
    have dp := Jb.1 cV
    refine G ?_
    refine Jz (n0 := 11) (qs 0 9 (.e 9 [0, 1] (.e 10 [] .done))) J2 (by kernel_rfl) (by kernel_rfl) (G ?_)
    refine Zn ((ay.drew).f2) A22.h Z Z Z ⟨Z, ?_⟩
    obtain ⟨g6, cW, ai⟩ := V ai
    refine G ?_
    refine Qm S22.h Z Z Z dp cW ?_
    intro dI fh bQ dS
    refine ⟨Z, ?_⟩
    refine G ?_
    refine Zw (E := (U .i64)) ay.drew A3.h Z Z Z bQ ?_
    intro fI cX
    obtain rfl := Qf.1 cX
    refine ⟨Z, ?_⟩
    obtain ⟨aF, cY, ai⟩ := V ai
    refine G ?_
    refine Qm S22.h Z Z Z (bu.mono (Zt a2 bn)) cY ?_
    intro dJ fi bR dT
    refine ⟨Z, ?_⟩
    refine G ?_
    refine Zw (E := (U .i64)) ay.drew A3.h Z Z Z bR ?_
    intro fJ cZ
    obtain rfl := Qf.1 cZ
    refine ⟨Z, ?_⟩
    refine G ?_
    refine Exec.buildSlice (Te := 3) (cs := [O aF]) ay.drew Z (Qc (c := [O aF]) (Qe Z Z) Qh) (fun _ => by kernel_rfl) ?_
    intro dK gn c0
    refine ⟨YD, ?_⟩
    obtain ⟨fa, da, ai⟩ := V ai
    refine G ?_
    refine Qt (E := (U .i64)) (ys := [aF]) c0.f4 S22.h Z3 Z (by decide) Z Z Z Z ⟨[O aF], [], Z, Z, Z⟩ Z da ?_
    intro aS go aG
    refine ⟨YD, ?_⟩
    refine G ?_
    refine Qq (ds := [aS]) (es := [O (ah.States), O (ah.Init), a5, a6, a7, aS, Vb a8]) aG.f3 A22.h Z Z Z (Ql ((aG.f3).f1).arr_one) (Zj ((aG.f3).f1).arr_one Ja) (Nat.le_of_ble_eq_true Z) Z ?_
    intro gp c1
    cases ai
    refine G ?_
    exact ⟨d1, aS, bn, (((c1.f1).f1).f3).f3, (Fx.mk (FxL.cons (QD cI (SliceRep.le rq)) fxl))⟩
   intro eu gq cd
   obtain ⟨fA, aE, fb, eK, ⟨ev, rfl⟩⟩ := cd
   cases a
   refine G ?_
   exact fq
  obtain ⟨d9, db, a⟩ := V a
  obtain ⟨gE, bM, aw⟩ := d9
  replace a := Qaz a
  refine G ?_
  refine Tc Z Z Z (Zi Z (Zi Z QT)) (Qc2 db cy (aH.mono (Zt (Zt (Zt aL aM) aN) a2)) (aI.mono (Zt (Zt (Zt aL aM) aN) a2)) (aJ.mono (Zt (Zt (Zt aL aM) aN) a2))).r ?_
  rintro _ gr ⟨b6, bH, aT, aU, aV, cM, c2, rfl, dq, dr, dt, du⟩
  refine G ?_
  refine Exec.alloc (cs := [O 0, O 0, Vn, Vn, Vn]) c2 Z38 Z Z ?_
  intro aZ gs c3
  refine G ?_
  refine Qq (ds := [O (aw.States), O (aw.Init), aT, aU, aV]) (es := [O (aw.States), O (aw.Init), aT, aU, aV]) c3 A38.h Z Z Z Z (Zj Z (Zj Z (Zj dr.one (Zj dt.one (Zj du.one Ja))))) (Nat.le_of_ble_eq_true Z) Z ?_
  intro gu be
  obtain ⟨ax, a1, a⟩ := V a
  refine g ?_
  refine Zc (Qo (M := fun f' w' => (fun (ax : Bool) => ∃ (b7 : PHeap) , PHeap.le b6 b7 ∧ St w0 b7 (Res.box b 26 [p, q, t, u] :: Res.box d 40 [O 0, O 0, Vn, Vn, Vn, Vn, Vb false] :: Res.box j 40 [O af, O ag, y, z, aa, i, Vb ax] :: Res.box l 38 [O (ah.States), O (ah.Init), a5, a6, a7] :: Res.box aZ 38 [O (aw.States), O (aw.Init), aT, aU, aV] :: Res.arr (U .i64) 3 i al :: H) w' ∧ Fx f' [(3, Vq b), (6, Vq d), (7, O ((QN m 1 4096))), (8, O ad), (9, ae), (10, Vq j), (12, O am), (13, Vq l), (16, aD), (20, Vq aZ), (21, bH), (40, x), (41, O ((ac.length : Int))), (42, O ((o : Int)))]) ax) ?_ ?_)
  ·refine G ?_
   rcases Qp a1 with ⟨cG, a1⟩ | ⟨cG, a1⟩
   ·refine G ?_
    refine Qq (ds := [Vb bM]) (es := [O af, O ag, y, z, aa, i, Vb bM]) be.f3 A4.h Z Z Z Z (Zj Z Ja) (Nat.le_of_ble_eq_true Z) Z ?_
    intro gv c4
    have dU := Zu a1
    subst ax
    refine G ?_
    exact ⟨b6, (Zv _), (((((c4.f5).f2).f5).f3).f5).f5, (Fx.mk)⟩
   refine G ?_
   refine Qq (ds := [Vb false]) (es := [O af, O ag, y, z, aa, i, Vb false]) be.f3 A4.h Z Z Z Z (Zj Z Ja) (Nat.le_of_ble_eq_true Z) Z ?_
   intro gw eL
   have dV := Zu a1
   subst ax
   refine G ?_
   exact fq
  intro ew gx cn
  obtain ⟨fB, bo, c5, ⟨ex, rfl⟩⟩ := cn
  obtain ⟨dA, dc, a⟩ := V a
  obtain ⟨gF, bN⟩ := dA
  replace a := Q6 a
  refine G ?_
  refine Tc Z Z Z Z (QeQ dc c5 rq rq rq rq rq rq).r ?_
  rintro _ gy ⟨d2, bI, bJ, bK, bp, eM, rfl, fu, fv, fw⟩
  refine G ?_
  refine JU Z Z Z ?_
  intro gz c6
  obtain ⟨aP, bZ, a⟩ := V a
  refine G ?_
  refine QH (fun k' s' f' w' => (fun (aP : (List Int)) => ∃ (b8 : PHeap) , PHeap.le d2 b8 ∧ St w0 b8 (Res.box b 26 [p, q, t, u] :: Res.box d 40 [O 0, O 0, Vn, Vn, Vn, Vn, Vb false] :: Res.box j 40 [O (bN.States), O (bN.Init), bI, bJ, bK, i, Vb ax] :: Res.box l 38 [O (ah.States), O (ah.Init), a5, a6, a7] :: Res.arr (U .i64) 3 i aP :: H) w' ∧ Fx f' [(139, O (k' : Int)), (3, Vq b), (6, Vq d), (7, O ((QN m 1 4096))), (8, O ad), (9, ae), (10, Vq j), (12, O am), (13, Vq l), (16, aD), (21, bH), (40, x), (41, O ((ac.length : Int))), (42, O ((o : Int))), (137, ae), (138, O ((bL.length : Int)))]) s') bZ ?_ ?_ ?_
  ·have eN := (c6.f4).drop
   exact fq
  ·intro eR aP fC ey g0 cJ ce n
   obtain ⟨d3, aQ, bf, ⟨ez, rfl⟩⟩ := ce
   obtain ⟨g7, dd, n⟩ := V n
   refine G ?_
   refine Jt Z Z Z dd ?_
   intro dL fj bS
   refine G ?_
   refine Zw (E := (Qu (U .i64))) bf A22.h Z Z Z bS ?_
   intro fK de
   have dv := Jb.1 de
   refine G ?_
   refine Jz (n0 := 22) (qs 0 22 .done) J2 (by kernel_rfl) (by kernel_rfl) ?_
   have ao := bf.drew
   obtain ⟨g8, aq, n⟩ := V n
   obtain ⟨e4, dQ, bb⟩ := (ao.f4).arr_at aq
   refine G ?_
   refine Qb S22.h Z bb Z (Qd aq).1 (Qd aq).2.1 ⟨Z, ?_⟩
   refine G ?_
   refine Qg (F := (U .i64)) (ao.f4) bb A3.h Z Z Z aq (Sub.refl _) ?_
   intro fL df
   obtain rfl := Qf.1 df
   refine ⟨Z, ?_⟩
   obtain ⟨g9, dg, n⟩ := V n
   refine G ?_
   refine Qm S22.h Z Z Z (dq.mono (Zt (Zt bo bp) aQ)) dg ?_
   intro dM fk bT dW
   refine ⟨Z, ?_⟩
   refine G ?_
   refine Zw (E := (U .i64)) ao A3.h Z Z Z bT ?_
   intro fM dh
   obtain rfl := Qf.1 dh
   refine ⟨Z, ?_⟩
   obtain ⟨gA, di, n⟩ := V n
   refine G ?_
   refine Qm S22.h Z Z Z dv di ?_
   intro dN fl bU dX
   refine ⟨Z, ?_⟩
   refine G ?_
   refine Zw (E := (U .i64)) ao A3.h Z Z Z bU ?_
   intro fN dj
   obtain rfl := Qf.1 dj
   refine ⟨Z, ?_⟩
   obtain ⟨gB, dk, n⟩ := V n
   refine G ?_
   refine Qm S22.h Z Z Z (bu.mono (Zt (Zt (Zt (Zt a2 cM) bo) bp) aQ)) dk ?_
   intro dO fm bV dY
   refine ⟨Z, ?_⟩
   refine G ?_
   refine Zw (E := (U .i64)) ao A3.h Z Z Z bV ?_
   intro fO dl
   obtain rfl := Qf.1 dl
   refine ⟨Z, ?_⟩
   obtain ⟨e5, dR, bc⟩ := (ao.f4).arr_at aq
   refine G ?_
   refine Qb S22.h Z bc Z (Qd aq).1 (Qd aq).2.1 ?_
   obtain ⟨fc, dm, n⟩ := V n
   refine G ?_
   refine Qv ao.f4 bc A3.h Z Z Z Z (Qf.2 Z) dm ?_
   intro g1 c7
   cases n
   refine G ?_
   exact ⟨d3, aQ, (((c7.f4).f4).f4).f4, (Fx.mk (FxL.cons (QD cJ (SliceRep.le (dn.mono lq))) fxl))⟩
  intro e0 g2 cf
  obtain ⟨d4, fd, c8, ⟨e1, rfl⟩⟩ := cf
  have dZ := Zu a
  subst dy
  refine G ?_
  exact ⟨d4, bI, bJ, bK, i, lq, (((((c8.f3).drop).f3).f3).f3).f3, (Fx.mk (FxL.cons (QD cH (SliceRep.le rq)) fxl)), rq, rq, rq⟩
 intro e2 g3 cg
 obtain ⟨af, ag, aW, aX, aY, al, au⟩ := d6
 replace hm := QhW hm
 obtain ⟨fD, y, z, aa, i, fe, eO, ⟨e3, rfl⟩, aH, aI, aJ⟩ := cg
 refine G ?_
 refine JU Z Z Z ?_
 intro g4 bg
 cases hm
 refine G ?_
 refine ⟨_, QlM Z ⟨_, _, Z, Je (bg) A40.h⟩, ?_⟩
 obtain ⟨d5, aR, c9, dw⟩ := bg.f3.freezeArr
 exact ⟨d5, y, z, aa, i, lq, ((c9.drop).drop).drop, Z, (aH.mono aR), (aI.mono aR), (aJ.mono aR), dw⟩
end Go.Pw
