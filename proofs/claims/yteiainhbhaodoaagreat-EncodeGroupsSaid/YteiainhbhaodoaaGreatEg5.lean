/- -/
import Derived.Test.YteiainhbhaodoaaGreatL29
import Derived.Test.YteiainhbhaodoaaGreatL27
import Derived.Test.YteiainhbhaodoaaGreatL61
import Derived.Test.YteiainhbhaodoaaGreatEg4
set_option maxRecDepth 100000
set_option maxHeartbeats 4000000
set_option linter.unusedVariables false
namespace Go.Pw
open Go.Proofs
attribute [local irreducible] Exec WL W andThen YR DL Jh
theorem QbO {w0 w : World} {s : PHeap} {H : List Res} {fu : Nat} {n : encode_encoder} {b : Encoding} {gq : (List Int)} {p : Nat} {aw : Value} {ax : Value} {ay : Value} {ac : Value} {az : Value} {y : Value} {z : Value} {aa : Value} {ab : Value} {a : Nat} {bf : Value} {o : Value} {m : Value} {j : Value} {d : Value} {i : Value} {l : Value} {ap : Value} {r : Bool × (List Fact) × (List Int) × (List Int) × (List Op) × (List Int)} (hm : Jx fu n b gq = some r) (hS : St w0 s (Res.box p 67 [aw, ax, ay, ac, az, y, z, aa, ab] :: Res.arr (Qc .i64) 3 y n.vars :: Res.arr encFact 51 z n.atoms :: Res.arr encBool 4 aa n.grouped :: Res.arr (Qc .i64) 3 ab n.fluents :: Res.box a 29 [bf, o, m, j, d, i, l] :: Res.arr (Qc .i64) 3 bf b.Task.Vars :: Res.arr (Qc .i64) 3 o b.Task.Init :: Res.arr encFact 51 m b.Task.Goal :: Res.arr encOp 55 j b.Task.Ops :: Res.arr (Qc .i64) 3 l b.Ops :: H) w) (cW : SliceRep encAtom s aw n.g.Atoms) (cX : SliceRep encGFluent s ax n.g.Fluents) (cY : SliceRep (Qc .i64) s ay n.g.Init) (a5 : SliceRep encCond s ac n.g.Goal) (cZ : SliceRep encGOp s az n.g.Ops) (da : SliceRep (Qc .i64) s ap gq) :
  Calls Tryz.prog 26 #[Value.pointer (some ⟨p, 0, none⟩), Value.pointer (some ⟨a, 0, none⟩), ap] w fun e w' => ∃ v, e = .returned v ∧ ((un6 fun (nz : Bool) (n1 : (List Fact)) (mf : (List Int)) (mg : (List Int)) (mh : (List Op)) (mi : (List Int)) => ∃ (fS : PHeap) (iD : Value) (iE : Value) (iF : Value) (iG : Value) (iH : Value), PHeap.le s fS ∧ St w0 fS (Res.box p 67 [aw, ax, ay, ac, az, y, z, aa, ab] :: Res.arr (Qc .i64) 3 y n.vars :: Res.arr encFact 51 z n.atoms :: Res.arr encBool 4 aa n.grouped :: Res.arr (Qc .i64) 3 ab n.fluents :: Res.box a 29 [iE, iF, iD, iG, d, i, iH] :: Res.arr (Qc .i64) 3 iE mf :: Res.arr (Qc .i64) 3 iF mg :: Res.arr encFact 51 m b.Task.Goal :: Res.arr encOp 55 iG mh :: Res.arr (Qc .i64) 3 iH mi :: H) w' ∧ v = Value.bool (nz) ∧ SliceRep encFact fS iD n1) r) := by
 unfold Jx at hm
 refine Ql Tryz.func26 Z Z (Zc (Zd (Za Z Z (Zo (v := Vb false) Z Z (Zb (Ze (Zc (Zc ?_))))))))
 obtain ⟨bB, aV, hm⟩ := Zg hm
 refine Qs (M := fun f' w' => (fun (bB : Bool) => ∃ (iy : PHeap) , PHeap.le s iy ∧ St w0 iy (Res.box p 67 [aw, ax, ay, ac, az, y, z, aa, ab] :: Res.arr (Qc .i64) 3 y n.vars :: Res.arr encFact 51 z n.atoms :: Res.arr encBool 4 aa n.grouped :: Res.arr (Qc .i64) 3 ab n.fluents :: Res.box a 29 [bf, o, m, j, d, i, l] :: Res.arr (Qc .i64) 3 bf b.Task.Vars :: Res.arr (Qc .i64) 3 o b.Task.Init :: Res.arr encFact 51 m b.Task.Goal :: Res.arr encOp 55 j b.Task.Ops :: Res.arr (Qc .i64) 3 l b.Ops :: H) w' ∧ Fx f' [(0, Vq p), (1, Vq a), (2, ap), (32, Vb bB)]) bB) ?_ ?_
 ·refine Zd (Za Z Z (Zm (v := Vq p) Z Z (Za Z Z (Qb Z Z (Za Z Z (Zp F67_0.h Z Z Z (Za Z Z (Zp F44_3.h Z Z Z (Za Z Z (Zn (hS) A41.h Z Z Z (Za Z Z (Zr S41.h Z Z a5 (Za Z Z (Exec.eql Z Z Z ?_))))))))))))))
  refine Za Z Z (Zm (v := Vb (decide ((n.g.Goal.length : Int) = 1))) Z Z ?_)
  rcases JV aV with ⟨a0, aV⟩ | ⟨a0, aV⟩
  ·refine QaR Z (Zf Z (Zx a0)) Z (Zm (v := Vq p) Z Z (QaR Z (Zf Z (Zx a0)) Z (Qb Z Z (QaR Z (Zf Z (Zx a0)) Z (Zp F67_0.h Z Z Z (QaR Z (Zf Z (Zx a0)) Z (Zp F44_3.h Z Z Z (QaR Z (Zf Z (Zx a0)) Z (Zn (hS) A41.h Z Z Z ?_)))))))))
   obtain ⟨iI, m2, aV⟩ := Zg aV
   refine QaR Z (Zf Z (Zx a0)) Z (QJ S41.h Z Z Z a5 m2 ?_)
   intro n2 pf iJ
   refine QaR Z (Zf Z (Zx a0)) Z (Zp F85_2.h Z Z Z (QaR Z (Zf Z (Zx a0)) Z (Zw (E := (Qp encGTest)) hS A83.h Z Z Z (iJ.sub (Sub.iso (QD (QD (Sub.refl _) Z) Z)) Z) ?_)))
   intro ps m3
   have mH : SliceRep _ _ _ (iI.Tests) := QG.1 m3
   refine QaR Z (Zf Z (Zx a0)) Z (Zr S83.h Z Z mH (QaR Z (Zf Z (Zx a0)) Z (Exec.eql Z Z Z (Za Z Z (Zs (v := Vb (decide ((iI.Tests.length : Int) = 0))) Z (Zx a0) Z (Zb (Ze ?_)))))))
   have os := Zu aV
   subst bB
   exact ⟨s, (Zv _), ((((((((((hS.f10).f10).f10).f10).f10).f10).f10).f10).f10).f10).f10, (Fx.mk)⟩
  replace a0 := Zk a0
  refine Qar 11 (by rw [a0]; rfl) ?_
  refine Zb (Ze ?_)
  have ot := Zu aV
  subst bB
  exact ⟨s, (Zv _), ((((((((((hS.f10).f10).f10).f10).f10).f10).f10).f10).f10).f10).f10, (Fx.mk)⟩
 intro o7 pw jb
 obtain ⟨am, x, aJ, ⟨o8, rfl⟩⟩ := jb
 refine (Ze ?_)
 rcases JV hm with ⟨bo, hm⟩ | ⟨bo, hm⟩
 ·refine Qd0 Z bo (Zc (Zd (Za Z Z (Zm (v := Vq p) Z Z (Za Z Z (Zm (v := Vq p) Z Z (Za Z Z (Qb Z Z (Za Z Z (Zp F67_0.h Z Z Z (Za Z Z (Zp F44_3.h Z Z Z ?_))))))))))))
  refine Za Z Z (Zn (aJ) A41.h Z Z Z ?_)
  obtain ⟨uz, m4, hm⟩ := Zg hm
  refine Za Z Z (QJ S41.h Z Z Z (a5.mono x) m4 ?_)
  intro n3 pg iK
  refine Za Z Z (Zw (E := encCond) aJ A85.h Z Z Z iK ?_)
  intro pt m5
  obtain ⟨pp, pq, pr, rfl, mI, mJ, mK⟩ := KJ.1 m5
  refine Za Z Z (Zm (v := ap) Z Z ?_)
  obtain ⟨nm, m6, hm⟩ := Zg hm
  obtain ⟨u2, cV⟩ := nm
  replace hm := Q3 hm
  refine Za Z Z (Tc Z Z Z (Zi Z (Zi Z (Zi Z (Zi Z (Zi Z Qx))))) (K6 m6 ((((aJ.f4).f4).f4).f4).f4 (cW.mono x) (cX.mono x) (cY.mono x) (a5.mono x) (cZ.mono x) mI mJ mK (SliceRep.nil _ _) (da.mono x) (SliceRep.nil _ _)).r ?_)
  rintro _ px ⟨ad, aY, a6, aS, rfl, fP⟩
  refine Za Z Z (Zm (v := Value.tuple #[aY, Vb cV]) Z Z (Za Z Z (Exec.extract (v := aY) Z Z Z (Za Z Z (Exec.extract (v := Vb cV) Z Z Z (Za Z Z (Zo (v := aY) Z Z (Za Z Z (Zo (v := Vb cV) Z Z (Zb (Ze (Zc (Zd ?_)))))))))))))
  refine Za Z Z (Zm (v := Vb cV) Z Z (Zb (Ze ?_)))
  rcases JV hm with ⟨bp, hm⟩ | ⟨bp, hm⟩
  ·refine Qd0 Z bp (Zc (Zd (Za Z Z (Zm (v := Vq a) Z Z (Za Z Z (Zm (v := aY) Z Z (Za Z Z (Qb Z Z (Za Z Z (Zp F29_0.h Z Z Z (Za Z Z (Zp F27_2.h Z Z Z ?_))))))))))))
   refine Za Z Z (Qe (ds := [aY]) (es := [bf, o, aY, j, d, i, l]) aS.f5 A24.h Z Z Z (Qj fP.one) (Zj fP.one Qk) (Nat.le_of_ble_eq_true Z) Z ?_)
   intro py jE
   refine Zb (Ze (Zc (Zd (Za Z Z (Zo (v := Vb true) Z Z (Zb (Ze (Qf8 (KN ?_)))))))))
   have ou := Zu hm
   subst r
   refine ⟨_, Qa5 Z, ?_⟩
   exact ⟨ad, aY, bf, o, j, l, (Zt x a6), ((((((((((jE.f10).f10).f10).f10).f10).f5).f10).f10).f10).f10).f10, Z, fP⟩
  refine Qd1 Z bp ?_
  replace bp := Zk bp
  refine JG (Ze (Zc (Zd (Za Z Z (Zm (v := Vq a) Z Z (Za Z Z (Qb Z Z (Za Z Z (Zp F29_0.h Z Z Z (Za Z Z (Zp F27_0.h Z Z Z (Za Z Z (Zn (aS.f5) A22.h Z Z Z ?_)))))))))))))
  refine Za Z Z (Q2 (aS.f6) S22.h Z Z (Za Z Z (Zo (v := O ((b.Task.Vars.length : Int))) Z Z (Zb (Ze (Zc ?_))))))
  obtain ⟨bb, aH, hm⟩ := Zg hm
  obtain ⟨bc, a1, hm⟩ := Zg hm
  refine Qs (M := fun f' w' => ∃ (iz : PHeap) (ae : Value) (af : Value) (ag : Value), PHeap.le ad iz ∧ St w0 iz (Res.box p 67 [aw, ax, ay, ac, az, y, z, aa, ab] :: Res.arr (Qc .i64) 3 y n.vars :: Res.arr encFact 51 z n.atoms :: Res.arr encBool 4 aa n.grouped :: Res.arr (Qc .i64) 3 ab n.fluents :: Res.box a 29 [ae, af, ag, j, d, i, l] :: Res.arr (Qc .i64) 3 ae bb :: Res.arr (Qc .i64) 3 af bc :: Res.arr encFact 51 m b.Task.Goal :: Res.arr encOp 55 j b.Task.Ops :: Res.arr (Qc .i64) 3 l b.Ops :: Res.arr encFact 51 ag [(⟨(b.Task.Vars.length : Int), 1⟩ : Fact)] :: H) w' ∧ Fx f' [(0, Vq p), (1, Vq a), (2, ap), (9, O ((b.Task.Vars.length : Int)))]) ?_ ?_
  ·refine KM (n0 := 28) (qs 0 8 (qs 10 5 (.q 17 (.q 18 (.alt (.e 8 [0, 1, 2, 3, 4, 5, 6, 7, 10, 11, 12, 13, 14, 17, 18] (.alt (.e 9 [0, 1, 2, 10, 11, 12, 13, 14, 17, 18] (.alt (.e 15 [0, 1, 2, 10, 11, 12, 13, 14, 17, 18] (.alt (.e 16 [0, 1, 2, 17, 18] (qs 20 3 (.alt (.e 19 [0, 1, 2, 20, 21, 22] (.e 23 [1, 2] (qs 24 3 (.e 27 [2] .done)))) (.e 23 [1, 2, 17, 18] (qs 24 3 (.alt (.e 19 [1, 2, 24, 25, 26] (.e 27 [2] .done)) (.e 27 [2, 17, 18] (.e 19 [2] .done)))))))) (.e 19 [0, 1, 2, 10, 11, 12, 13, 14] (.e 16 [0, 1, 2] (qs 20 3 (.e 23 [1, 2] (qs 24 3 (.e 27 [2] .done)))))))) (.e 19 [0, 1, 2, 10, 11, 12, 13, 14] (.e 15 [0, 1, 2, 10, 11, 12, 13, 14] (.e 16 [0, 1, 2] (qs 20 3 (.e 23 [1, 2] (qs 24 3 (.e 27 [2] .done))))))))) (.alt (.e 15 [0, 1, 2, 3, 4, 5, 6, 7, 10, 11, 12, 13, 14, 17, 18] (.alt (.e 9 [0, 1, 2, 10, 11, 12, 13, 14, 17, 18] (.alt (.e 16 [0, 1, 2, 17, 18] (qs 20 3 (.alt (.e 19 [0, 1, 2, 20, 21, 22] (.e 23 [1, 2] (qs 24 3 (.e 27 [2] .done)))) (.e 23 [1, 2, 17, 18] (qs 24 3 (.alt (.e 19 [1, 2, 24, 25, 26] (.e 27 [2] .done)) (.e 27 [2, 17, 18] (.e 19 [2] .done)))))))) (.e 19 [0, 1, 2, 10, 11, 12, 13, 14] (.e 16 [0, 1, 2] (qs 20 3 (.e 23 [1, 2] (qs 24 3 (.e 27 [2] .done)))))))) (.e 19 [0, 1, 2, 3, 4, 5, 6, 7, 10, 11, 12, 13, 14] (.e 9 [0, 1, 2, 10, 11, 12, 13, 14] (.e 16 [0, 1, 2] (qs 20 3 (.e 23 [1, 2] (qs 24 3 (.e 27 [2] .done))))))))) (.e 19 [0, 1, 2, 3, 4, 5, 6, 7, 10, 11, 12, 13, 14] (.alt (.e 9 [0, 1, 2, 10, 11, 12, 13, 14] (.e 15 [0, 1, 2, 10, 11, 12, 13, 14] (.e 16 [0, 1, 2] (qs 20 3 (.e 23 [1, 2] (qs 24 3 (.e 27 [2] .done))))))) (.e 15 [0, 1, 2, 3, 4, 5, 6, 7, 10, 11, 12, 13, 14] (.e 9 [0, 1, 2, 10, 11, 12, 13, 14] (.e 16 [0, 1, 2] (qs 20 3 (.e 23 [1, 2] (qs 24 3 (.e 27 [2] .done)))))))))))) (.alt (.e 15 [0, 1, 2, 3, 4, 5, 6, 7, 10, 11, 12, 13, 14, 17, 18] (.alt (.e 8 [0, 1, 2, 3, 4, 5, 6, 7, 10, 11, 12, 13, 14, 17, 18] (.alt (.e 9 [0, 1, 2, 10, 11, 12, 13, 14, 17, 18] (.alt (.e 16 [0, 1, 2, 17, 18] (qs 20 3 (.alt (.e 19 [0, 1, 2, 20, 21, 22] (.e 23 [1, 2] (qs 24 3 (.e 27 [2] .done)))) (.e 23 [1, 2, 17, 18] (qs 24 3 (.alt (.e 19 [1, 2, 24, 25, 26] (.e 27 [2] .done)) (.e 27 [2, 17, 18] (.e 19 [2] .done)))))))) (.e 19 [0, 1, 2, 10, 11, 12, 13, 14] (.e 16 [0, 1, 2] (qs 20 3 (.e 23 [1, 2] (qs 24 3 (.e 27 [2] .done)))))))) (.e 19 [0, 1, 2, 3, 4, 5, 6, 7, 10, 11, 12, 13, 14] (.e 9 [0, 1, 2, 10, 11, 12, 13, 14] (.e 16 [0, 1, 2] (qs 20 3 (.e 23 [1, 2] (qs 24 3 (.e 27 [2] .done))))))))) (.e 19 [0, 1, 2, 3, 4, 5, 6, 7, 10, 11, 12, 13, 14] (.e 8 [0, 1, 2, 3, 4, 5, 6, 7, 10, 11, 12, 13, 14] (.e 9 [0, 1, 2, 10, 11, 12, 13, 14] (.e 16 [0, 1, 2] (qs 20 3 (.e 23 [1, 2] (qs 24 3 (.e 27 [2] .done)))))))))) (.e 19 [0, 1, 2, 3, 4, 5, 6, 7, 10, 11, 12, 13, 14] (.alt (.e 8 [0, 1, 2, 3, 4, 5, 6, 7, 10, 11, 12, 13, 14] (.alt (.e 9 [0, 1, 2, 10, 11, 12, 13, 14] (.e 15 [0, 1, 2, 10, 11, 12, 13, 14] (.e 16 [0, 1, 2] (qs 20 3 (.e 23 [1, 2] (qs 24 3 (.e 27 [2] .done))))))) (.e 15 [0, 1, 2, 3, 4, 5, 6, 7, 10, 11, 12, 13, 14] (.e 9 [0, 1, 2, 10, 11, 12, 13, 14] (.e 16 [0, 1, 2] (qs 20 3 (.e 23 [1, 2] (qs 24 3 (.e 27 [2] .done))))))))) (.e 15 [0, 1, 2, 3, 4, 5, 6, 7, 10, 11, 12, 13, 14] (.e 8 [0, 1, 2, 3, 4, 5, 6, 7, 10, 11, 12, 13, 14] (.e 9 [0, 1, 2, 10, 11, 12, 13, 14] (.e 16 [0, 1, 2] (qs 20 3 (.e 23 [1, 2] (qs 24 3 (.e 27 [2] .done)))))))))))))))) KL (by kernel_rfl) (by kernel_rfl) ?_
   refine Qo Z Z (Zm (v := Vq a) Z Z ⟨Z, ?_⟩)
   refine Qo Z Z (Zm (v := Vq a) Z Z ⟨Z, ?_⟩)
   refine Qo Z Z (Zm (v := Vq a) Z Z ⟨Z, ?_⟩)
   refine Qo Z Z (Zm (v := Vq a) Z Z ⟨Z, ?_⟩)
   refine Qo Z Z (Qb Z Z ⟨Z, ?_⟩)
   refine Qo Z Z (Zp F29_0.h Z Z Z ⟨Z, ?_⟩)
   refine Qo Z Z (Zp F27_0.h Z Z Z ⟨Z, ?_⟩)
   refine Qo Z Z (Zn ((aS.drew).f5) A22.h Z Z Z ⟨Z, ?_⟩)
   refine Qo Z Z (Zm (v := Vq a) Z Z ⟨Z, ?_⟩)
   refine Qo Z Z (Qb Z Z ⟨Z, ?_⟩)
   refine Qo Z Z (Zp F29_0.h Z Z Z ⟨Z, ?_⟩)
   refine Qo Z Z (Zp F27_1.h Z Z Z ⟨Z, ?_⟩)
   refine Qo Z Z (Zn ((aS.drew).f5) A22.h Z Z Z ⟨Z, ?_⟩)
   refine Qo Z Z (Zm (v := O ((b.Task.Vars.length : Int))) Z Z ⟨Z, ?_⟩)
   refine Qo Z Z (Exec.build Z (Qd (c := [O ((b.Task.Vars.length : Int))]) (Qf Z Z) (Qd (c := [O 1]) (Qf Z Z) Qg)) (v := Value.agg #[O ((b.Task.Vars.length : Int)), O 1]) (fun _ => by kernel_rfl) ⟨Z, ?_⟩)
   refine QH ?_ ?_
   ·refine Qt Z Z (Exec.buildSlice (Te := 3) (cs := [O 2]) aS.drew Z (Qd (c := [O 2]) (Qf Z Z) Qg) (fun _ => by kernel_rfl) ?_)
    intro n4 pz bm
    refine ⟨(Qa (U Z Z (Zm (v := Vq a) Z Z ⟨Z, Z⟩)) (Qa (U Z Z (Zm (v := Vq a) Z Z ⟨Z, Z⟩)) (Qa (U Z Z (Zm (v := Vq a) Z Z ⟨Z, Z⟩)) (Qa (U Z Z (Zm (v := Vq a) Z Z ⟨Z, Z⟩)) (Qa (U Z Z (Qb Z Z ⟨Z, Z⟩)) (Qa (U Z Z (Zp F29_0.h Z Z Z ⟨Z, Z⟩)) (Qa (U Z Z (Zp F27_0.h Z Z Z ⟨Z, Z⟩)) (Qa (U Z Z (Zn (bm.f6) A22.h Z Z Z ⟨Z, Z⟩)) (Qa (U Z Z (Zm (v := Vq a) Z Z ⟨Z, Z⟩)) (Qa (U Z Z (Qb Z Z ⟨Z, Z⟩)) (Qa (U Z Z (Zp F29_0.h Z Z Z ⟨Z, Z⟩)) (Qa (U Z Z (Zp F27_1.h Z Z Z ⟨Z, Z⟩)) (Qa (U Z Z (Zn (bm.f6) A22.h Z Z Z ⟨Z, Z⟩)) (Qa (U Z Z (Zm (v := O ((b.Task.Vars.length : Int))) Z Z ⟨Z, Z⟩)) (Qa (U Z Z (Exec.build Z (Qd (c := [O ((b.Task.Vars.length : Int))]) (Qf Z Z) (Qd (c := [O 1]) (Qf Z Z) Qg)) (v := Value.agg #[O ((b.Task.Vars.length : Int)), O 1]) (fun _ => by kernel_rfl) ⟨Z, Z⟩)) Qi))))))))))))))), ?_⟩
    refine QH ?_ ?_
    ·have jT := bm.f7
     refine Qt Z Z (Qh (E := (Qc .i64)) (ys := [2]) jT S22.h Z3 Z (by decide) Z Z Z Z ⟨[O 2], [], Z, Z, Z⟩ Z aH ?_)
     intro ah p0 en
     refine ⟨(Qa (U Z Z (Zm (v := Vq a) Z Z ⟨Z, Z⟩)) (Qa (U Z Z (Zm (v := Vq a) Z Z ⟨Z, Z⟩)) (Qa (U Z Z (Zm (v := Vq a) Z Z ⟨Z, Z⟩)) (Qa (U Z Z (Zm (v := Vq a) Z Z ⟨Z, Z⟩)) (Qa (U Z Z (Qb Z Z ⟨Z, Z⟩)) (Qa (U Z Z (Zp F29_0.h Z Z Z ⟨Z, Z⟩)) (Qa (U Z Z (Zp F27_1.h Z Z Z ⟨Z, Z⟩)) (Qa (U Z Z (Zn (en.f6) A22.h Z Z Z ⟨Z, Z⟩)) (Qa (U Z Z (Zm (v := O ((b.Task.Vars.length : Int))) Z Z ⟨Z, Z⟩)) (Qa (U Z Z (Exec.build Z (Qd (c := [O ((b.Task.Vars.length : Int))]) (Qf Z Z) (Qd (c := [O 1]) (Qf Z Z) Qg)) (v := Value.agg #[O ((b.Task.Vars.length : Int)), O 1]) (fun _ => by kernel_rfl) ⟨Z, Z⟩)) Qi)))))))))), ?_⟩
     refine QH ?_ ?_
     ·refine Qt Z Z (Exec.buildSlice (Te := 3) (cs := [O 0]) en Z (Qd (c := [O 0]) (Qf Z Z) Qg) (fun _ => by kernel_rfl) ?_)
      intro n5 p1 ep
      refine ⟨(Qa (U Z Z (Zm (v := Vq a) Z Z ⟨Z, Z⟩)) (Qa (U Z Z (Zm (v := Vq a) Z Z ⟨Z, Z⟩)) (Qa (U Z Z (Zm (v := Vq a) Z Z ⟨Z, Z⟩)) (Qa (U Z Z (Zm (v := Vq a) Z Z ⟨Z, Z⟩)) (Qa (U Z Z (Qb Z Z ⟨Z, Z⟩)) (Qa (U Z Z (Zp F29_0.h Z Z Z ⟨Z, Z⟩)) (Qa (U Z Z (Zp F27_1.h Z Z Z ⟨Z, Z⟩)) (Qa (U Z Z (Zn (ep.f7) A22.h Z Z Z ⟨Z, Z⟩)) (Qa (U Z Z (Zm (v := O ((b.Task.Vars.length : Int))) Z Z ⟨Z, Z⟩)) (Qa (U Z Z (Exec.build Z (Qd (c := [O ((b.Task.Vars.length : Int))]) (Qf Z Z) (Qd (c := [O 1]) (Qf Z Z) Qg)) (v := Value.agg #[O ((b.Task.Vars.length : Int)), O 1]) (fun _ => by kernel_rfl) ⟨Z, Z⟩)) Qi)))))))))), ?_⟩
      refine QH ?_ ?_
      ·have jZ := ep.f8
       refine Qt Z Z (Qh (E := (Qc .i64)) (ys := [0]) jZ S22.h Z3 Z (by decide) Z Z Z Z ⟨[O 0], [], Z, Z, Z⟩ Z a1 ?_)
       intro a7 p2 bL
       refine ⟨(Qa (U Z Z (Zm (v := Vq a) Z Z ⟨Z, Z⟩)) (Qa (U Z Z (Zm (v := Vq a) Z Z ⟨Z, Z⟩)) (Qa (U Z Z (Zm (v := Vq a) Z Z ⟨Z, Z⟩)) (Qa (U Z Z (Zm (v := O ((b.Task.Vars.length : Int))) Z Z ⟨Z, Z⟩)) (Qa (U Z Z (Exec.build Z (Qd (c := [O ((b.Task.Vars.length : Int))]) (Qf Z Z) (Qd (c := [O 1]) (Qf Z Z) Qg)) (v := Value.agg #[O ((b.Task.Vars.length : Int)), O 1]) (fun _ => by kernel_rfl) ⟨Z, Z⟩)) Qi))))), ?_⟩
       refine Qo Z Z (Qb Z Z ⟨Z, ?_⟩)
       refine Qo Z Z (Zp F29_0.h Z Z Z ⟨Z, ?_⟩)
       refine Qo Z Z (Zp F27_0.h Z Z Z ⟨Z, ?_⟩)
       refine QH ?_ ?_
       ·refine Qt Z Z (Exec.buildSlice (Te := 51) (cs := [O ((b.Task.Vars.length : Int)), O 1]) bL Z (Qd (c := [O ((b.Task.Vars.length : Int)), O 1]) (Qf Z Z) Qg) (fun _ => by kernel_rfl) ?_)
        intro db p3 ex
        refine ⟨(Qa (U Z Z (Zm (v := Vq a) Z Z ⟨Z, Z⟩)) (Qa (U Z Z (Zm (v := Vq a) Z Z ⟨Z, Z⟩)) (Qa (U Z Z (Zm (v := Vq a) Z Z ⟨Z, Z⟩)) (Qa (U Z Z (Qb Z Z ⟨Z, Z⟩)) (Qa (U Z Z (Zp F29_0.h Z Z Z ⟨Z, Z⟩)) (Qa (U Z Z (Zp F27_0.h Z Z Z ⟨Z, Z⟩)) Qi)))))), ?_⟩
        refine Qt Z Z (Qe (ds := [ah]) (es := [ah, o, m, j, d, i, l]) ex.f8 A22.h Z Z Z (Qj ((ex.f8).f3).arr_one) (Zj ((ex.f8).f3).arr_one Qk) (Nat.le_of_ble_eq_true Z) Z ?_)
        intro p4 ey
        refine ⟨(Qa (U Z Z (Zm (v := Vq a) Z Z ⟨Z, Z⟩)) (Qa (U Z Z (Zm (v := Vq a) Z Z ⟨Z, Z⟩)) Qi)), ?_⟩
        refine Qo Z Z (Qb Z Z ⟨Z, ?_⟩)
        refine Qo Z Z (Zp F29_0.h Z Z Z ⟨Z, ?_⟩)
        refine Qo Z Z (Zp F27_1.h Z Z Z ⟨Z, ?_⟩)
        refine Qt Z Z (Qe (ds := [a7]) (es := [ah, a7, m, j, d, i, l]) ey A22.h Z Z Z (Qj (ey.f2).arr_one) (Zj (ey.f2).arr_one Qk) (Nat.le_of_ble_eq_true Z) Z ?_)
        intro p5 ke
        refine ⟨(Qa (U Z Z (Zm (v := Vq a) Z Z ⟨Z, Z⟩)) Qi), ?_⟩
        refine Q5 (Za Z Z (Qb Z Z (Za Z Z (Zp F29_0.h Z Z Z (Za Z Z (Zp F27_2.h Z Z Z ?_))))))
        have gY := St.boxArr (E := encFact) (xs := [(⟨(b.Task.Vars.length : Int), 1⟩ : Fact)]) ke.f1 ⟨[O ((b.Task.Vars.length : Int)), O 1], [], rfl, ⟨[O ((b.Task.Vars.length : Int))], [O 1], rfl, rfl, rfl⟩, rfl⟩ (by simp [maxLen])
        refine Za Z Z (Qe (ds := [Vs (some ⟨db, 0, none⟩) 1 1]) (es := [ah, a7, Vs (some ⟨db, 0, none⟩) 1 1, j, d, i, l]) gY.f1 A24.h Z Z Z Z (Zj ((gY.f1).f1).arr_one Qk) (Nat.le_of_ble_eq_true Z) Z ?_)
        intro p6 ki
        refine Zb (Ze ?_)
        exact ⟨ad, ah, a7, (Vs (some ⟨db, 0, none⟩) 1 1), (Zv _), (((((((((((ki.f1).f11).f11).f11).f5).f6).f6).f11).f11).f11).f11).f11, (Fx.mk)⟩
       refine Qt Z Z (Qe (ds := [ah]) (es := [ah, o, m, j, d, i, l]) bL.f7 A22.h Z Z Z (Qj ((bL.f7).f2).arr_one) (Zj ((bL.f7).f2).arr_one Qk) (Nat.le_of_ble_eq_true Z) Z ?_)
       intro p7 bM
       refine ⟨(Qa (U Z Z (Zm (v := Vq a) Z Z ⟨Z, Z⟩)) (Qa (U Z Z (Zm (v := Vq a) Z Z ⟨Z, Z⟩)) (Qa (U Z Z (Zm (v := O ((b.Task.Vars.length : Int))) Z Z ⟨Z, Z⟩)) (Qa (U Z Z (Exec.build Z (Qd (c := [O ((b.Task.Vars.length : Int))]) (Qf Z Z) (Qd (c := [O 1]) (Qf Z Z) Qg)) (v := Value.agg #[O ((b.Task.Vars.length : Int)), O 1]) (fun _ => by kernel_rfl) ⟨Z, Z⟩)) Qi)))), ?_⟩
       refine Qo Z Z (Qb Z Z ⟨Z, ?_⟩)
       refine Qo Z Z (Zp F29_0.h Z Z Z ⟨Z, ?_⟩)
       refine Qo Z Z (Zp F27_1.h Z Z Z ⟨Z, ?_⟩)
       refine QH ?_ ?_
       ·refine Qt Z Z (Exec.buildSlice (Te := 51) (cs := [O ((b.Task.Vars.length : Int)), O 1]) bM Z (Qd (c := [O ((b.Task.Vars.length : Int)), O 1]) (Qf Z Z) Qg) (fun _ => by kernel_rfl) ?_)
        intro dc p8 ez
        refine ⟨(Qa (U Z Z (Zm (v := Vq a) Z Z ⟨Z, Z⟩)) (Qa (U Z Z (Zm (v := Vq a) Z Z ⟨Z, Z⟩)) (Qa (U Z Z (Qb Z Z ⟨Z, Z⟩)) (Qa (U Z Z (Zp F29_0.h Z Z Z ⟨Z, Z⟩)) (Qa (U Z Z (Zp F27_1.h Z Z Z ⟨Z, Z⟩)) Qi))))), ?_⟩
        refine Qt Z Z (Qe (ds := [a7]) (es := [ah, a7, m, j, d, i, l]) ez.f1 A22.h Z Z Z (Qj ((ez.f1).f2).arr_one) (Zj ((ez.f1).f2).arr_one Qk) (Nat.le_of_ble_eq_true Z) Z ?_)
        intro p9 kj
        refine ⟨(Qa (U Z Z (Zm (v := Vq a) Z Z ⟨Z, Z⟩)) Qi), ?_⟩
        refine Q5 (Za Z Z (Qb Z Z (Za Z Z (Zp F29_0.h Z Z Z (Za Z Z (Zp F27_2.h Z Z Z ?_))))))
        have gZ := St.boxArr (E := encFact) (xs := [(⟨(b.Task.Vars.length : Int), 1⟩ : Fact)]) kj.f1 ⟨[O ((b.Task.Vars.length : Int)), O 1], [], rfl, ⟨[O ((b.Task.Vars.length : Int))], [O 1], rfl, rfl, rfl⟩, rfl⟩ (by simp [maxLen])
        refine Za Z Z (Qe (ds := [Vs (some ⟨dc, 0, none⟩) 1 1]) (es := [ah, a7, Vs (some ⟨dc, 0, none⟩) 1 1, j, d, i, l]) gZ.f1 A24.h Z Z Z Z (Zj ((gZ.f1).f1).arr_one Qk) (Nat.le_of_ble_eq_true Z) Z ?_)
        intro pA kk
        refine Zb (Ze ?_)
        exact ⟨ad, ah, a7, (Vs (some ⟨dc, 0, none⟩) 1 1), (Zv _), (((((((((((kk.f1).f11).f11).f11).f5).f6).f6).f11).f11).f11).f11).f11, (Fx.mk)⟩
       refine Qt Z Z (Qe (ds := [a7]) (es := [ah, a7, m, j, d, i, l]) bM A22.h Z Z Z (Qj (bM.f1).arr_one) (Zj (bM.f1).arr_one Qk) (Nat.le_of_ble_eq_true Z) Z ?_)
       intro pB kl
       refine ⟨(Qa (U Z Z (Zm (v := Vq a) Z Z ⟨Z, Z⟩)) (Qa (U Z Z (Zm (v := O ((b.Task.Vars.length : Int))) Z Z ⟨Z, Z⟩)) (Qa (U Z Z (Exec.build Z (Qd (c := [O ((b.Task.Vars.length : Int))]) (Qf Z Z) (Qd (c := [O 1]) (Qf Z Z) Qg)) (v := Value.agg #[O ((b.Task.Vars.length : Int)), O 1]) (fun _ => by kernel_rfl) ⟨Z, Z⟩)) Qi))), ?_⟩
       refine Qt Z Z (Exec.buildSlice (Te := 51) (cs := [O ((b.Task.Vars.length : Int)), O 1]) kl Z (Qd (c := [O ((b.Task.Vars.length : Int)), O 1]) (Qf Z Z) Qg) (fun _ => by kernel_rfl) ?_)
       intro dd pC km
       refine ⟨(Qa (U Z Z (Zm (v := Vq a) Z Z ⟨Z, Z⟩)) Qi), ?_⟩
       refine Q5 (Za Z Z (Qb Z Z (Za Z Z (Zp F29_0.h Z Z Z (Za Z Z (Zp F27_2.h Z Z Z ?_))))))
       have ha := St.boxArr (E := encFact) (xs := [(⟨(b.Task.Vars.length : Int), 1⟩ : Fact)]) km ⟨[O ((b.Task.Vars.length : Int)), O 1], [], rfl, ⟨[O ((b.Task.Vars.length : Int))], [O 1], rfl, rfl, rfl⟩, rfl⟩ (by simp [maxLen])
       refine Za Z Z (Qe (ds := [Vs (some ⟨dd, 0, none⟩) 1 1]) (es := [ah, a7, Vs (some ⟨dd, 0, none⟩) 1 1, j, d, i, l]) ha.f1 A24.h Z Z Z Z (Zj ((ha.f1).f1).arr_one Qk) (Nat.le_of_ble_eq_true Z) Z ?_)
       intro pD kn
       refine Zb (Ze ?_)
       exact ⟨ad, ah, a7, (Vs (some ⟨dd, 0, none⟩) 1 1), (Zv _), (((((((((((kn.f1).f11).f11).f11).f5).f6).f6).f11).f11).f11).f11).f11, (Fx.mk)⟩
      refine Qt Z Z (Exec.buildSlice (Te := 51) (cs := [O ((b.Task.Vars.length : Int)), O 1]) ep Z (Qd (c := [O ((b.Task.Vars.length : Int)), O 1]) (Qf Z Z) Qg) (fun _ => by kernel_rfl) ?_)
      intro de pE hb
      refine ⟨(Qa (U Z Z (Zm (v := Vq a) Z Z ⟨Z, Z⟩)) (Qa (U Z Z (Zm (v := Vq a) Z Z ⟨Z, Z⟩)) (Qa (U Z Z (Zm (v := Vq a) Z Z ⟨Z, Z⟩)) (Qa (U Z Z (Zm (v := Vq a) Z Z ⟨Z, Z⟩)) (Qa (U Z Z (Qb Z Z ⟨Z, Z⟩)) (Qa (U Z Z (Zp F29_0.h Z Z Z ⟨Z, Z⟩)) (Qa (U Z Z (Zp F27_1.h Z Z Z ⟨Z, Z⟩)) (Qa (U Z Z (Zn (hb.f8) A22.h Z Z Z ⟨Z, Z⟩)) Qi)))))))), ?_⟩
      refine Qt Z Z (Qh (E := (Qc .i64)) (ys := [0]) (hb.f1).f9 S22.h Z3 Z (by decide) Z Z Z Z ⟨[O 0], [], Z, Z, Z⟩ Z a1 ?_)
      intro cm pF e0
      refine ⟨(Qa (U Z Z (Zm (v := Vq a) Z Z ⟨Z, Z⟩)) (Qa (U Z Z (Zm (v := Vq a) Z Z ⟨Z, Z⟩)) (Qa (U Z Z (Zm (v := Vq a) Z Z ⟨Z, Z⟩)) Qi))), ?_⟩
      refine Qo Z Z (Qb Z Z ⟨Z, ?_⟩)
      refine Qo Z Z (Zp F29_0.h Z Z Z ⟨Z, ?_⟩)
      refine Qo Z Z (Zp F27_0.h Z Z Z ⟨Z, ?_⟩)
      refine Qt Z Z (Qe (ds := [ah]) (es := [ah, o, m, j, d, i, l]) e0.f8 A22.h Z Z Z (Qj ((e0.f8).f3).arr_one) (Zj ((e0.f8).f3).arr_one Qk) (Nat.le_of_ble_eq_true Z) Z ?_)
      intro pG e1
      refine ⟨(Qa (U Z Z (Zm (v := Vq a) Z Z ⟨Z, Z⟩)) (Qa (U Z Z (Zm (v := Vq a) Z Z ⟨Z, Z⟩)) Qi)), ?_⟩
      refine Qo Z Z (Qb Z Z ⟨Z, ?_⟩)
      refine Qo Z Z (Zp F29_0.h Z Z Z ⟨Z, ?_⟩)
      refine Qo Z Z (Zp F27_1.h Z Z Z ⟨Z, ?_⟩)
      refine Qt Z Z (Qe (ds := [cm]) (es := [ah, cm, m, j, d, i, l]) e1 A22.h Z Z Z (Qj (e1.f1).arr_one) (Zj (e1.f1).arr_one Qk) (Nat.le_of_ble_eq_true Z) Z ?_)
      intro pH ko
      refine ⟨(Qa (U Z Z (Zm (v := Vq a) Z Z ⟨Z, Z⟩)) Qi), ?_⟩
      refine Q5 (Za Z Z (Qb Z Z (Za Z Z (Zp F29_0.h Z Z Z (Za Z Z (Zp F27_2.h Z Z Z ?_))))))
      have hc := St.boxArr (E := encFact) (xs := [(⟨(b.Task.Vars.length : Int), 1⟩ : Fact)]) ko.f2 ⟨[O ((b.Task.Vars.length : Int)), O 1], [], rfl, ⟨[O ((b.Task.Vars.length : Int))], [O 1], rfl, rfl, rfl⟩, rfl⟩ (by simp [maxLen])
      refine Za Z Z (Qe (ds := [Vs (some ⟨de, 0, none⟩) 1 1]) (es := [ah, cm, Vs (some ⟨de, 0, none⟩) 1 1, j, d, i, l]) hc.f1 A24.h Z Z Z Z (Zj ((hc.f1).f1).arr_one Qk) (Nat.le_of_ble_eq_true Z) Z ?_)
      intro pI kp
      refine Zb (Ze ?_)
      exact ⟨ad, ah, cm, (Vs (some ⟨de, 0, none⟩) 1 1), (Zv _), (((((((((((kp.f1).f11).f11).f11).f5).f6).f6).f11).f11).f11).f11).f11, (Fx.mk)⟩
     refine Qt Z Z (Exec.buildSlice (Te := 51) (cs := [O ((b.Task.Vars.length : Int)), O 1]) en Z (Qd (c := [O ((b.Task.Vars.length : Int)), O 1]) (Qf Z Z) Qg) (fun _ => by kernel_rfl) ?_)
     intro df pJ hd
     refine ⟨(Qa (U Z Z (Zm (v := Vq a) Z Z ⟨Z, Z⟩)) (Qa (U Z Z (Zm (v := Vq a) Z Z ⟨Z, Z⟩)) (Qa (U Z Z (Zm (v := Vq a) Z Z ⟨Z, Z⟩)) (Qa (U Z Z (Zm (v := Vq a) Z Z ⟨Z, Z⟩)) (Qa (U Z Z (Qb Z Z ⟨Z, Z⟩)) (Qa (U Z Z (Zp F29_0.h Z Z Z ⟨Z, Z⟩)) (Qa (U Z Z (Zp F27_1.h Z Z Z ⟨Z, Z⟩)) (Qa (U Z Z (Zn (hd.f7) A22.h Z Z Z ⟨Z, Z⟩)) Qi)))))))), ?_⟩
     refine Qt Z Z (Exec.buildSlice (Te := 3) (cs := [O 0]) hd Z (Qd (c := [O 0]) (Qf Z Z) Qg) (fun _ => by kernel_rfl) ?_)
     intro n6 pK he
     refine ⟨(Qa (U Z Z (Zm (v := Vq a) Z Z ⟨Z, Z⟩)) (Qa (U Z Z (Zm (v := Vq a) Z Z ⟨Z, Z⟩)) (Qa (U Z Z (Zm (v := Vq a) Z Z ⟨Z, Z⟩)) (Qa (U Z Z (Zm (v := Vq a) Z Z ⟨Z, Z⟩)) (Qa (U Z Z (Qb Z Z ⟨Z, Z⟩)) (Qa (U Z Z (Zp F29_0.h Z Z Z ⟨Z, Z⟩)) (Qa (U Z Z (Zp F27_1.h Z Z Z ⟨Z, Z⟩)) (Qa (U Z Z (Zn (he.f8) A22.h Z Z Z ⟨Z, Z⟩)) Qi)))))))), ?_⟩
     refine Qt Z Z (Qh (E := (Qc .i64)) (ys := [0]) he.f9 S22.h Z3 Z (by decide) Z Z Z Z ⟨[O 0], [], Z, Z, Z⟩ Z a1 ?_)
     intro cn pL e2
     refine ⟨(Qa (U Z Z (Zm (v := Vq a) Z Z ⟨Z, Z⟩)) (Qa (U Z Z (Zm (v := Vq a) Z Z ⟨Z, Z⟩)) (Qa (U Z Z (Zm (v := Vq a) Z Z ⟨Z, Z⟩)) Qi))), ?_⟩
     refine Qo Z Z (Qb Z Z ⟨Z, ?_⟩)
     refine Qo Z Z (Zp F29_0.h Z Z Z ⟨Z, ?_⟩)
     refine Qo Z Z (Zp F27_0.h Z Z Z ⟨Z, ?_⟩)
     refine Qt Z Z (Qe (ds := [ah]) (es := [ah, o, m, j, d, i, l]) e2.f8 A22.h Z Z Z (Qj ((e2.f8).f3).arr_one) (Zj ((e2.f8).f3).arr_one Qk) (Nat.le_of_ble_eq_true Z) Z ?_)
     intro pM e3
     refine ⟨(Qa (U Z Z (Zm (v := Vq a) Z Z ⟨Z, Z⟩)) (Qa (U Z Z (Zm (v := Vq a) Z Z ⟨Z, Z⟩)) Qi)), ?_⟩
     refine Qo Z Z (Qb Z Z ⟨Z, ?_⟩)
     refine Qo Z Z (Zp F29_0.h Z Z Z ⟨Z, ?_⟩)
     refine Qo Z Z (Zp F27_1.h Z Z Z ⟨Z, ?_⟩)
     refine Qt Z Z (Qe (ds := [cn]) (es := [ah, cn, m, j, d, i, l]) e3 A22.h Z Z Z (Qj (e3.f1).arr_one) (Zj (e3.f1).arr_one Qk) (Nat.le_of_ble_eq_true Z) Z ?_)
     intro pN kq
     refine ⟨(Qa (U Z Z (Zm (v := Vq a) Z Z ⟨Z, Z⟩)) Qi), ?_⟩
     refine Q5 (Za Z Z (Qb Z Z (Za Z Z (Zp F29_0.h Z Z Z (Za Z Z (Zp F27_2.h Z Z Z ?_))))))
     have hf := St.boxArr (E := encFact) (xs := [(⟨(b.Task.Vars.length : Int), 1⟩ : Fact)]) kq.f2 ⟨[O ((b.Task.Vars.length : Int)), O 1], [], rfl, ⟨[O ((b.Task.Vars.length : Int))], [O 1], rfl, rfl, rfl⟩, rfl⟩ (by simp [maxLen])
     refine Za Z Z (Qe (ds := [Vs (some ⟨df, 0, none⟩) 1 1]) (es := [ah, cn, Vs (some ⟨df, 0, none⟩) 1 1, j, d, i, l]) hf.f1 A24.h Z Z Z Z (Zj ((hf.f1).f1).arr_one Qk) (Nat.le_of_ble_eq_true Z) Z ?_)
     intro pO kr
     refine Zb (Ze ?_)
     exact ⟨ad, ah, cn, (Vs (some ⟨df, 0, none⟩) 1 1), (Zv _), (((((((((((kr.f1).f11).f11).f11).f5).f6).f6).f11).f11).f11).f11).f11, (Fx.mk)⟩
    refine QH ?_ ?_
    ·refine Qt Z Z (Exec.buildSlice (Te := 3) (cs := [O 0]) bm Z (Qd (c := [O 0]) (Qf Z Z) Qg) (fun _ => by kernel_rfl) ?_)
     intro n7 pP bN
     refine ⟨(Qa (U Z Z (Zm (v := Vq a) Z Z ⟨Z, Z⟩)) (Qa (U Z Z (Zm (v := Vq a) Z Z ⟨Z, Z⟩)) (Qa (U Z Z (Zm (v := Vq a) Z Z ⟨Z, Z⟩)) (Qa (U Z Z (Zm (v := Vq a) Z Z ⟨Z, Z⟩)) (Qa (U Z Z (Qb Z Z ⟨Z, Z⟩)) (Qa (U Z Z (Zp F29_0.h Z Z Z ⟨Z, Z⟩)) (Qa (U Z Z (Zp F27_0.h Z Z Z ⟨Z, Z⟩)) (Qa (U Z Z (Zn (bN.f7) A22.h Z Z Z ⟨Z, Z⟩)) (Qa (U Z Z (Zm (v := Vq a) Z Z ⟨Z, Z⟩)) (Qa (U Z Z (Qb Z Z ⟨Z, Z⟩)) (Qa (U Z Z (Zp F29_0.h Z Z Z ⟨Z, Z⟩)) (Qa (U Z Z (Zp F27_1.h Z Z Z ⟨Z, Z⟩)) (Qa (U Z Z (Zn (bN.f7) A22.h Z Z Z ⟨Z, Z⟩)) (Qa (U Z Z (Zm (v := O ((b.Task.Vars.length : Int))) Z Z ⟨Z, Z⟩)) (Qa (U Z Z (Exec.build Z (Qd (c := [O ((b.Task.Vars.length : Int))]) (Qf Z Z) (Qd (c := [O 1]) (Qf Z Z) Qg)) (v := Value.agg #[O ((b.Task.Vars.length : Int)), O 1]) (fun _ => by kernel_rfl) ⟨Z, Z⟩)) Qi))))))))))))))), ?_⟩
     refine QH ?_ ?_
     ·have ks := bN.f1
      refine Qt Z Z (Qh (E := (Qc .i64)) (ys := [2]) ks.f8 S22.h Z3 Z (by decide) Z Z Z Z ⟨[O 2], [], Z, Z, Z⟩ Z aH ?_)
      intro aq pQ e4
      refine ⟨(Qa (U Z Z (Zm (v := Vq a) Z Z ⟨Z, Z⟩)) (Qa (U Z Z (Zm (v := Vq a) Z Z ⟨Z, Z⟩)) (Qa (U Z Z (Zm (v := Vq a) Z Z ⟨Z, Z⟩)) (Qa (U Z Z (Zm (v := Vq a) Z Z ⟨Z, Z⟩)) (Qa (U Z Z (Qb Z Z ⟨Z, Z⟩)) (Qa (U Z Z (Zp F29_0.h Z Z Z ⟨Z, Z⟩)) (Qa (U Z Z (Zp F27_1.h Z Z Z ⟨Z, Z⟩)) (Qa (U Z Z (Zn (e4.f7) A22.h Z Z Z ⟨Z, Z⟩)) (Qa (U Z Z (Zm (v := O ((b.Task.Vars.length : Int))) Z Z ⟨Z, Z⟩)) (Qa (U Z Z (Exec.build Z (Qd (c := [O ((b.Task.Vars.length : Int))]) (Qf Z Z) (Qd (c := [O 1]) (Qf Z Z) Qg)) (v := Value.agg #[O ((b.Task.Vars.length : Int)), O 1]) (fun _ => by kernel_rfl) ⟨Z, Z⟩)) Qi)))))))))), ?_⟩
      refine QH ?_ ?_
      ·have kt := e4.f1
       refine Qt Z Z (Qh (E := (Qc .i64)) (ys := [0]) kt.f8 S22.h Z3 Z (by decide) Z Z Z Z ⟨[O 0], [], Z, Z, Z⟩ Z a1 ?_)
       intro a8 pR bO
       refine ⟨(Qa (U Z Z (Zm (v := Vq a) Z Z ⟨Z, Z⟩)) (Qa (U Z Z (Zm (v := Vq a) Z Z ⟨Z, Z⟩)) (Qa (U Z Z (Zm (v := Vq a) Z Z ⟨Z, Z⟩)) (Qa (U Z Z (Zm (v := O ((b.Task.Vars.length : Int))) Z Z ⟨Z, Z⟩)) (Qa (U Z Z (Exec.build Z (Qd (c := [O ((b.Task.Vars.length : Int))]) (Qf Z Z) (Qd (c := [O 1]) (Qf Z Z) Qg)) (v := Value.agg #[O ((b.Task.Vars.length : Int)), O 1]) (fun _ => by kernel_rfl) ⟨Z, Z⟩)) Qi))))), ?_⟩
       refine Qo Z Z (Qb Z Z ⟨Z, ?_⟩)
       refine Qo Z Z (Zp F29_0.h Z Z Z ⟨Z, ?_⟩)
       refine Qo Z Z (Zp F27_0.h Z Z Z ⟨Z, ?_⟩)
       refine QH ?_ ?_
       ·refine Qt Z Z (Exec.buildSlice (Te := 51) (cs := [O ((b.Task.Vars.length : Int)), O 1]) bO Z (Qd (c := [O ((b.Task.Vars.length : Int)), O 1]) (Qf Z Z) Qg) (fun _ => by kernel_rfl) ?_)
        intro dg pS e5
        refine ⟨(Qa (U Z Z (Zm (v := Vq a) Z Z ⟨Z, Z⟩)) (Qa (U Z Z (Zm (v := Vq a) Z Z ⟨Z, Z⟩)) (Qa (U Z Z (Zm (v := Vq a) Z Z ⟨Z, Z⟩)) (Qa (U Z Z (Qb Z Z ⟨Z, Z⟩)) (Qa (U Z Z (Zp F29_0.h Z Z Z ⟨Z, Z⟩)) (Qa (U Z Z (Zp F27_0.h Z Z Z ⟨Z, Z⟩)) Qi)))))), ?_⟩
        refine Qt Z Z (Qe (ds := [aq]) (es := [aq, o, m, j, d, i, l]) e5.f8 A22.h Z Z Z (Qj ((e5.f8).f3).arr_one) (Zj ((e5.f8).f3).arr_one Qk) (Nat.le_of_ble_eq_true Z) Z ?_)
        intro pT e6
        refine ⟨(Qa (U Z Z (Zm (v := Vq a) Z Z ⟨Z, Z⟩)) (Qa (U Z Z (Zm (v := Vq a) Z Z ⟨Z, Z⟩)) Qi)), ?_⟩
        refine Qo Z Z (Qb Z Z ⟨Z, ?_⟩)
        refine Qo Z Z (Zp F29_0.h Z Z Z ⟨Z, ?_⟩)
        refine Qo Z Z (Zp F27_1.h Z Z Z ⟨Z, ?_⟩)
        refine Qt Z Z (Qe (ds := [a8]) (es := [aq, a8, m, j, d, i, l]) e6 A22.h Z Z Z (Qj (e6.f2).arr_one) (Zj (e6.f2).arr_one Qk) (Nat.le_of_ble_eq_true Z) Z ?_)
        intro pU ku
        refine ⟨(Qa (U Z Z (Zm (v := Vq a) Z Z ⟨Z, Z⟩)) Qi), ?_⟩
        refine Q5 (Za Z Z (Qb Z Z (Za Z Z (Zp F29_0.h Z Z Z (Za Z Z (Zp F27_2.h Z Z Z ?_))))))
        have hg := St.boxArr (E := encFact) (xs := [(⟨(b.Task.Vars.length : Int), 1⟩ : Fact)]) ku.f1 ⟨[O ((b.Task.Vars.length : Int)), O 1], [], rfl, ⟨[O ((b.Task.Vars.length : Int))], [O 1], rfl, rfl, rfl⟩, rfl⟩ (by simp [maxLen])
        refine Za Z Z (Qe (ds := [Vs (some ⟨dg, 0, none⟩) 1 1]) (es := [aq, a8, Vs (some ⟨dg, 0, none⟩) 1 1, j, d, i, l]) hg.f1 A24.h Z Z Z Z (Zj ((hg.f1).f1).arr_one Qk) (Nat.le_of_ble_eq_true Z) Z ?_)
        intro pV kv
        refine Zb (Ze ?_)
        exact ⟨ad, aq, a8, (Vs (some ⟨dg, 0, none⟩) 1 1), (Zv _), (((((((((((kv.f1).f11).f11).f11).f5).f6).f6).f11).f11).f11).f11).f11, (Fx.mk)⟩
       refine Qt Z Z (Qe (ds := [aq]) (es := [aq, o, m, j, d, i, l]) bO.f7 A22.h Z Z Z (Qj ((bO.f7).f2).arr_one) (Zj ((bO.f7).f2).arr_one Qk) (Nat.le_of_ble_eq_true Z) Z ?_)
       intro pW bP
       refine ⟨(Qa (U Z Z (Zm (v := Vq a) Z Z ⟨Z, Z⟩)) (Qa (U Z Z (Zm (v := Vq a) Z Z ⟨Z, Z⟩)) (Qa (U Z Z (Zm (v := O ((b.Task.Vars.length : Int))) Z Z ⟨Z, Z⟩)) (Qa (U Z Z (Exec.build Z (Qd (c := [O ((b.Task.Vars.length : Int))]) (Qf Z Z) (Qd (c := [O 1]) (Qf Z Z) Qg)) (v := Value.agg #[O ((b.Task.Vars.length : Int)), O 1]) (fun _ => by kernel_rfl) ⟨Z, Z⟩)) Qi)))), ?_⟩
       refine Qo Z Z (Qb Z Z ⟨Z, ?_⟩)
       refine Qo Z Z (Zp F29_0.h Z Z Z ⟨Z, ?_⟩)
       refine Qo Z Z (Zp F27_1.h Z Z Z ⟨Z, ?_⟩)
       refine QH ?_ ?_
       ·refine Qt Z Z (Exec.buildSlice (Te := 51) (cs := [O ((b.Task.Vars.length : Int)), O 1]) bP Z (Qd (c := [O ((b.Task.Vars.length : Int)), O 1]) (Qf Z Z) Qg) (fun _ => by kernel_rfl) ?_)
        intro dh pX e7
        refine ⟨(Qa (U Z Z (Zm (v := Vq a) Z Z ⟨Z, Z⟩)) (Qa (U Z Z (Zm (v := Vq a) Z Z ⟨Z, Z⟩)) (Qa (U Z Z (Qb Z Z ⟨Z, Z⟩)) (Qa (U Z Z (Zp F29_0.h Z Z Z ⟨Z, Z⟩)) (Qa (U Z Z (Zp F27_1.h Z Z Z ⟨Z, Z⟩)) Qi))))), ?_⟩
        refine Qt Z Z (Qe (ds := [a8]) (es := [aq, a8, m, j, d, i, l]) e7.f1 A22.h Z Z Z (Qj ((e7.f1).f2).arr_one) (Zj ((e7.f1).f2).arr_one Qk) (Nat.le_of_ble_eq_true Z) Z ?_)
        intro pY kw
        refine ⟨(Qa (U Z Z (Zm (v := Vq a) Z Z ⟨Z, Z⟩)) Qi), ?_⟩
        refine Q5 (Za Z Z (Qb Z Z (Za Z Z (Zp F29_0.h Z Z Z (Za Z Z (Zp F27_2.h Z Z Z ?_))))))
        have hh := St.boxArr (E := encFact) (xs := [(⟨(b.Task.Vars.length : Int), 1⟩ : Fact)]) kw.f1 ⟨[O ((b.Task.Vars.length : Int)), O 1], [], rfl, ⟨[O ((b.Task.Vars.length : Int))], [O 1], rfl, rfl, rfl⟩, rfl⟩ (by simp [maxLen])
        refine Za Z Z (Qe (ds := [Vs (some ⟨dh, 0, none⟩) 1 1]) (es := [aq, a8, Vs (some ⟨dh, 0, none⟩) 1 1, j, d, i, l]) hh.f1 A24.h Z Z Z Z (Zj ((hh.f1).f1).arr_one Qk) (Nat.le_of_ble_eq_true Z) Z ?_)
        intro pZ kx
        refine Zb (Ze ?_)
        exact ⟨ad, aq, a8, (Vs (some ⟨dh, 0, none⟩) 1 1), (Zv _), (((((((((((kx.f1).f11).f11).f11).f5).f6).f6).f11).f11).f11).f11).f11, (Fx.mk)⟩
       refine Qt Z Z (Qe (ds := [a8]) (es := [aq, a8, m, j, d, i, l]) bP A22.h Z Z Z (Qj (bP.f1).arr_one) (Zj (bP.f1).arr_one Qk) (Nat.le_of_ble_eq_true Z) Z ?_)
       intro qa ky
       refine ⟨(Qa (U Z Z (Zm (v := Vq a) Z Z ⟨Z, Z⟩)) (Qa (U Z Z (Zm (v := O ((b.Task.Vars.length : Int))) Z Z ⟨Z, Z⟩)) (Qa (U Z Z (Exec.build Z (Qd (c := [O ((b.Task.Vars.length : Int))]) (Qf Z Z) (Qd (c := [O 1]) (Qf Z Z) Qg)) (v := Value.agg #[O ((b.Task.Vars.length : Int)), O 1]) (fun _ => by kernel_rfl) ⟨Z, Z⟩)) Qi))), ?_⟩
       refine Qt Z Z (Exec.buildSlice (Te := 51) (cs := [O ((b.Task.Vars.length : Int)), O 1]) ky Z (Qd (c := [O ((b.Task.Vars.length : Int)), O 1]) (Qf Z Z) Qg) (fun _ => by kernel_rfl) ?_)
       intro di qb kz
       refine ⟨(Qa (U Z Z (Zm (v := Vq a) Z Z ⟨Z, Z⟩)) Qi), ?_⟩
       refine Q5 (Za Z Z (Qb Z Z (Za Z Z (Zp F29_0.h Z Z Z (Za Z Z (Zp F27_2.h Z Z Z ?_))))))
       have hi := St.boxArr (E := encFact) (xs := [(⟨(b.Task.Vars.length : Int), 1⟩ : Fact)]) kz ⟨[O ((b.Task.Vars.length : Int)), O 1], [], rfl, ⟨[O ((b.Task.Vars.length : Int))], [O 1], rfl, rfl, rfl⟩, rfl⟩ (by simp [maxLen])
       refine Za Z Z (Qe (ds := [Vs (some ⟨di, 0, none⟩) 1 1]) (es := [aq, a8, Vs (some ⟨di, 0, none⟩) 1 1, j, d, i, l]) hi.f1 A24.h Z Z Z Z (Zj ((hi.f1).f1).arr_one Qk) (Nat.le_of_ble_eq_true Z) Z ?_)
       intro qc k0
       refine Zb (Ze ?_)
       exact ⟨ad, aq, a8, (Vs (some ⟨di, 0, none⟩) 1 1), (Zv _), (((((((((((k0.f1).f11).f11).f11).f5).f6).f6).f11).f11).f11).f11).f11, (Fx.mk)⟩
      refine Qt Z Z (Exec.buildSlice (Te := 51) (cs := [O ((b.Task.Vars.length : Int)), O 1]) e4 Z (Qd (c := [O ((b.Task.Vars.length : Int)), O 1]) (Qf Z Z) Qg) (fun _ => by kernel_rfl) ?_)
      intro dj qd hj
      refine ⟨(Qa (U Z Z (Zm (v := Vq a) Z Z ⟨Z, Z⟩)) (Qa (U Z Z (Zm (v := Vq a) Z Z ⟨Z, Z⟩)) (Qa (U Z Z (Zm (v := Vq a) Z Z ⟨Z, Z⟩)) (Qa (U Z Z (Zm (v := Vq a) Z Z ⟨Z, Z⟩)) (Qa (U Z Z (Qb Z Z ⟨Z, Z⟩)) (Qa (U Z Z (Zp F29_0.h Z Z Z ⟨Z, Z⟩)) (Qa (U Z Z (Zp F27_1.h Z Z Z ⟨Z, Z⟩)) (Qa (U Z Z (Zn (hj.f8) A22.h Z Z Z ⟨Z, Z⟩)) Qi)))))))), ?_⟩
      refine Qt Z Z (Qh (E := (Qc .i64)) (ys := [0]) (hj.f2).f9 S22.h Z3 Z (by decide) Z Z Z Z ⟨[O 0], [], Z, Z, Z⟩ Z a1 ?_)
      intro co qe e8
      refine ⟨(Qa (U Z Z (Zm (v := Vq a) Z Z ⟨Z, Z⟩)) (Qa (U Z Z (Zm (v := Vq a) Z Z ⟨Z, Z⟩)) (Qa (U Z Z (Zm (v := Vq a) Z Z ⟨Z, Z⟩)) Qi))), ?_⟩
      refine Qo Z Z (Qb Z Z ⟨Z, ?_⟩)
      refine Qo Z Z (Zp F29_0.h Z Z Z ⟨Z, ?_⟩)
      refine Qo Z Z (Zp F27_0.h Z Z Z ⟨Z, ?_⟩)
      refine Qt Z Z (Qe (ds := [aq]) (es := [aq, o, m, j, d, i, l]) e8.f8 A22.h Z Z Z (Qj ((e8.f8).f3).arr_one) (Zj ((e8.f8).f3).arr_one Qk) (Nat.le_of_ble_eq_true Z) Z ?_)
      intro qf e9
      refine ⟨(Qa (U Z Z (Zm (v := Vq a) Z Z ⟨Z, Z⟩)) (Qa (U Z Z (Zm (v := Vq a) Z Z ⟨Z, Z⟩)) Qi)), ?_⟩
      refine Qo Z Z (Qb Z Z ⟨Z, ?_⟩)
      refine Qo Z Z (Zp F29_0.h Z Z Z ⟨Z, ?_⟩)
      refine Qo Z Z (Zp F27_1.h Z Z Z ⟨Z, ?_⟩)
      refine Qt Z Z (Qe (ds := [co]) (es := [aq, co, m, j, d, i, l]) e9 A22.h Z Z Z (Qj (e9.f1).arr_one) (Zj (e9.f1).arr_one Qk) (Nat.le_of_ble_eq_true Z) Z ?_)
      intro qg k1
      refine ⟨(Qa (U Z Z (Zm (v := Vq a) Z Z ⟨Z, Z⟩)) Qi), ?_⟩
      refine Q5 (Za Z Z (Qb Z Z (Za Z Z (Zp F29_0.h Z Z Z (Za Z Z (Zp F27_2.h Z Z Z ?_))))))
      have hk := St.boxArr (E := encFact) (xs := [(⟨(b.Task.Vars.length : Int), 1⟩ : Fact)]) k1.f2 ⟨[O ((b.Task.Vars.length : Int)), O 1], [], rfl, ⟨[O ((b.Task.Vars.length : Int))], [O 1], rfl, rfl, rfl⟩, rfl⟩ (by simp [maxLen])
      refine Za Z Z (Qe (ds := [Vs (some ⟨dj, 0, none⟩) 1 1]) (es := [aq, co, Vs (some ⟨dj, 0, none⟩) 1 1, j, d, i, l]) hk.f1 A24.h Z Z Z Z (Zj ((hk.f1).f1).arr_one Qk) (Nat.le_of_ble_eq_true Z) Z ?_)
      intro qh k2
      refine Zb (Ze ?_)
      exact ⟨ad, aq, co, (Vs (some ⟨dj, 0, none⟩) 1 1), (Zv _), (((((((((((k2.f1).f11).f11).f11).f5).f6).f6).f11).f11).f11).f11).f11, (Fx.mk)⟩
     refine Qt Z Z (Exec.buildSlice (Te := 51) (cs := [O ((b.Task.Vars.length : Int)), O 1]) bN Z (Qd (c := [O ((b.Task.Vars.length : Int)), O 1]) (Qf Z Z) Qg) (fun _ => by kernel_rfl) ?_)
     intro dk qi eA
     refine ⟨(Qa (U Z Z (Zm (v := Vq a) Z Z ⟨Z, Z⟩)) (Qa (U Z Z (Zm (v := Vq a) Z Z ⟨Z, Z⟩)) (Qa (U Z Z (Zm (v := Vq a) Z Z ⟨Z, Z⟩)) (Qa (U Z Z (Zm (v := Vq a) Z Z ⟨Z, Z⟩)) (Qa (U Z Z (Qb Z Z ⟨Z, Z⟩)) (Qa (U Z Z (Zp F29_0.h Z Z Z ⟨Z, Z⟩)) (Qa (U Z Z (Zp F27_0.h Z Z Z ⟨Z, Z⟩)) (Qa (U Z Z (Zn (eA.f8) A22.h Z Z Z ⟨Z, Z⟩)) (Qa (U Z Z (Zm (v := Vq a) Z Z ⟨Z, Z⟩)) (Qa (U Z Z (Qb Z Z ⟨Z, Z⟩)) (Qa (U Z Z (Zp F29_0.h Z Z Z ⟨Z, Z⟩)) (Qa (U Z Z (Zp F27_1.h Z Z Z ⟨Z, Z⟩)) (Qa (U Z Z (Zn (eA.f8) A22.h Z Z Z ⟨Z, Z⟩)) Qi))))))))))))), ?_⟩
     refine Qt Z Z (Qh (E := (Qc .i64)) (ys := [2]) (eA.f2).f9 S22.h Z3 Z (by decide) Z Z Z Z ⟨[O 2], [], Z, Z, Z⟩ Z aH ?_)
     intro bs qj hl
     refine ⟨(Qa (U Z Z (Zm (v := Vq a) Z Z ⟨Z, Z⟩)) (Qa (U Z Z (Zm (v := Vq a) Z Z ⟨Z, Z⟩)) (Qa (U Z Z (Zm (v := Vq a) Z Z ⟨Z, Z⟩)) (Qa (U Z Z (Zm (v := Vq a) Z Z ⟨Z, Z⟩)) (Qa (U Z Z (Qb Z Z ⟨Z, Z⟩)) (Qa (U Z Z (Zp F29_0.h Z Z Z ⟨Z, Z⟩)) (Qa (U Z Z (Zp F27_1.h Z Z Z ⟨Z, Z⟩)) (Qa (U Z Z (Zn (hl.f8) A22.h Z Z Z ⟨Z, Z⟩)) Qi)))))))), ?_⟩
     refine Qt Z Z (Qh (E := (Qc .i64)) (ys := [0]) (hl.f2).f9 S22.h Z3 Z (by decide) Z Z Z Z ⟨[O 0], [], Z, Z, Z⟩ Z a1 ?_)
     intro cp qk eB
     refine ⟨(Qa (U Z Z (Zm (v := Vq a) Z Z ⟨Z, Z⟩)) (Qa (U Z Z (Zm (v := Vq a) Z Z ⟨Z, Z⟩)) (Qa (U Z Z (Zm (v := Vq a) Z Z ⟨Z, Z⟩)) Qi))), ?_⟩
     refine Qo Z Z (Qb Z Z ⟨Z, ?_⟩)
     refine Qo Z Z (Zp F29_0.h Z Z Z ⟨Z, ?_⟩)
     refine Qo Z Z (Zp F27_0.h Z Z Z ⟨Z, ?_⟩)
     refine Qt Z Z (Qe (ds := [bs]) (es := [bs, o, m, j, d, i, l]) eB.f8 A22.h Z Z Z (Qj ((eB.f8).f2).arr_one) (Zj ((eB.f8).f2).arr_one Qk) (Nat.le_of_ble_eq_true Z) Z ?_)
     intro ql eC
     refine ⟨(Qa (U Z Z (Zm (v := Vq a) Z Z ⟨Z, Z⟩)) (Qa (U Z Z (Zm (v := Vq a) Z Z ⟨Z, Z⟩)) Qi)), ?_⟩
     refine Qo Z Z (Qb Z Z ⟨Z, ?_⟩)
     refine Qo Z Z (Zp F29_0.h Z Z Z ⟨Z, ?_⟩)
     refine Qo Z Z (Zp F27_1.h Z Z Z ⟨Z, ?_⟩)
     refine Qt Z Z (Qe (ds := [cp]) (es := [bs, cp, m, j, d, i, l]) eC A22.h Z Z Z (Qj (eC.f1).arr_one) (Zj (eC.f1).arr_one Qk) (Nat.le_of_ble_eq_true Z) Z ?_)
     intro qm k3
     refine ⟨(Qa (U Z Z (Zm (v := Vq a) Z Z ⟨Z, Z⟩)) Qi), ?_⟩
     refine Q5 (Za Z Z (Qb Z Z (Za Z Z (Zp F29_0.h Z Z Z (Za Z Z (Zp F27_2.h Z Z Z ?_))))))
     have hn := St.boxArr (E := encFact) (xs := [(⟨(b.Task.Vars.length : Int), 1⟩ : Fact)]) k3.f3 ⟨[O ((b.Task.Vars.length : Int)), O 1], [], rfl, ⟨[O ((b.Task.Vars.length : Int))], [O 1], rfl, rfl, rfl⟩, rfl⟩ (by simp [maxLen])
     refine Za Z Z (Qe (ds := [Vs (some ⟨dk, 0, none⟩) 1 1]) (es := [bs, cp, Vs (some ⟨dk, 0, none⟩) 1 1, j, d, i, l]) hn.f1 A24.h Z Z Z Z (Zj ((hn.f1).f1).arr_one Qk) (Nat.le_of_ble_eq_true Z) Z ?_)
     intro qn k4
     refine Zb (Ze ?_)
     exact ⟨ad, bs, cp, (Vs (some ⟨dk, 0, none⟩) 1 1), (Zv _), (((((((((((k4.f1).f11).f11).f11).f5).f6).f6).f11).f11).f11).f11).f11, (Fx.mk)⟩
    refine Qt Z Z (Exec.buildSlice (Te := 51) (cs := [O ((b.Task.Vars.length : Int)), O 1]) bm Z (Qd (c := [O ((b.Task.Vars.length : Int)), O 1]) (Qf Z Z) Qg) (fun _ => by kernel_rfl) ?_)
    intro aZ qo bQ
    refine ⟨(Qa (U Z Z (Zm (v := Vq a) Z Z ⟨Z, Z⟩)) (Qa (U Z Z (Zm (v := Vq a) Z Z ⟨Z, Z⟩)) (Qa (U Z Z (Zm (v := Vq a) Z Z ⟨Z, Z⟩)) (Qa (U Z Z (Zm (v := Vq a) Z Z ⟨Z, Z⟩)) (Qa (U Z Z (Qb Z Z ⟨Z, Z⟩)) (Qa (U Z Z (Zp F29_0.h Z Z Z ⟨Z, Z⟩)) (Qa (U Z Z (Zp F27_0.h Z Z Z ⟨Z, Z⟩)) (Qa (U Z Z (Zn (bQ.f7) A22.h Z Z Z ⟨Z, Z⟩)) (Qa (U Z Z (Zm (v := Vq a) Z Z ⟨Z, Z⟩)) (Qa (U Z Z (Qb Z Z ⟨Z, Z⟩)) (Qa (U Z Z (Zp F29_0.h Z Z Z ⟨Z, Z⟩)) (Qa (U Z Z (Zp F27_1.h Z Z Z ⟨Z, Z⟩)) (Qa (U Z Z (Zn (bQ.f7) A22.h Z Z Z ⟨Z, Z⟩)) Qi))))))))))))), ?_⟩
    refine QH ?_ ?_
    ·have k5 := bQ.f1
     refine Qt Z Z (Qh (E := (Qc .i64)) (ys := [2]) k5.f8 S22.h Z3 Z (by decide) Z Z Z Z ⟨[O 2], [], Z, Z, Z⟩ Z aH ?_)
     intro bt qp ho
     refine ⟨(Qa (U Z Z (Zm (v := Vq a) Z Z ⟨Z, Z⟩)) (Qa (U Z Z (Zm (v := Vq a) Z Z ⟨Z, Z⟩)) (Qa (U Z Z (Zm (v := Vq a) Z Z ⟨Z, Z⟩)) (Qa (U Z Z (Zm (v := Vq a) Z Z ⟨Z, Z⟩)) (Qa (U Z Z (Qb Z Z ⟨Z, Z⟩)) (Qa (U Z Z (Zp F29_0.h Z Z Z ⟨Z, Z⟩)) (Qa (U Z Z (Zp F27_1.h Z Z Z ⟨Z, Z⟩)) (Qa (U Z Z (Zn (ho.f7) A22.h Z Z Z ⟨Z, Z⟩)) Qi)))))))), ?_⟩
     refine Qt Z Z (Exec.buildSlice (Te := 3) (cs := [O 0]) ho Z (Qd (c := [O 0]) (Qf Z Z) Qg) (fun _ => by kernel_rfl) ?_)
     intro n8 qq hp
     refine ⟨(Qa (U Z Z (Zm (v := Vq a) Z Z ⟨Z, Z⟩)) (Qa (U Z Z (Zm (v := Vq a) Z Z ⟨Z, Z⟩)) (Qa (U Z Z (Zm (v := Vq a) Z Z ⟨Z, Z⟩)) (Qa (U Z Z (Zm (v := Vq a) Z Z ⟨Z, Z⟩)) (Qa (U Z Z (Qb Z Z ⟨Z, Z⟩)) (Qa (U Z Z (Zp F29_0.h Z Z Z ⟨Z, Z⟩)) (Qa (U Z Z (Zp F27_1.h Z Z Z ⟨Z, Z⟩)) (Qa (U Z Z (Zn (hp.f8) A22.h Z Z Z ⟨Z, Z⟩)) Qi)))))))), ?_⟩
     refine Qt Z Z (Qh (E := (Qc .i64)) (ys := [0]) hp.f9 S22.h Z3 Z (by decide) Z Z Z Z ⟨[O 0], [], Z, Z, Z⟩ Z a1 ?_)
     intro cq qr eD
     refine ⟨(Qa (U Z Z (Zm (v := Vq a) Z Z ⟨Z, Z⟩)) (Qa (U Z Z (Zm (v := Vq a) Z Z ⟨Z, Z⟩)) (Qa (U Z Z (Zm (v := Vq a) Z Z ⟨Z, Z⟩)) Qi))), ?_⟩
     refine Qo Z Z (Qb Z Z ⟨Z, ?_⟩)
     refine Qo Z Z (Zp F29_0.h Z Z Z ⟨Z, ?_⟩)
     refine Qo Z Z (Zp F27_0.h Z Z Z ⟨Z, ?_⟩)
     refine Qt Z Z (Qe (ds := [bt]) (es := [bt, o, m, j, d, i, l]) eD.f8 A22.h Z Z Z (Qj ((eD.f8).f2).arr_one) (Zj ((eD.f8).f2).arr_one Qk) (Nat.le_of_ble_eq_true Z) Z ?_)
     intro qt eE
     refine ⟨(Qa (U Z Z (Zm (v := Vq a) Z Z ⟨Z, Z⟩)) (Qa (U Z Z (Zm (v := Vq a) Z Z ⟨Z, Z⟩)) Qi)), ?_⟩
     refine Qo Z Z (Qb Z Z ⟨Z, ?_⟩)
     refine Qo Z Z (Zp F29_0.h Z Z Z ⟨Z, ?_⟩)
     refine Qo Z Z (Zp F27_1.h Z Z Z ⟨Z, ?_⟩)
     refine Qt Z Z (Qe (ds := [cq]) (es := [bt, cq, m, j, d, i, l]) eE A22.h Z Z Z (Qj (eE.f1).arr_one) (Zj (eE.f1).arr_one Qk) (Nat.le_of_ble_eq_true Z) Z ?_)
     intro qu k6
     refine ⟨(Qa (U Z Z (Zm (v := Vq a) Z Z ⟨Z, Z⟩)) Qi), ?_⟩
     refine Q5 (Za Z Z (Qb Z Z (Za Z Z (Zp F29_0.h Z Z Z (Za Z Z (Zp F27_2.h Z Z Z ?_))))))
     have hq := St.boxArr (E := encFact) (xs := [(⟨(b.Task.Vars.length : Int), 1⟩ : Fact)]) k6.f3 ⟨[O ((b.Task.Vars.length : Int)), O 1], [], rfl, ⟨[O ((b.Task.Vars.length : Int))], [O 1], rfl, rfl, rfl⟩, rfl⟩ (by simp [maxLen])
     refine Za Z Z (Qe (ds := [Vs (some ⟨aZ, 0, none⟩) 1 1]) (es := [bt, cq, Vs (some ⟨aZ, 0, none⟩) 1 1, j, d, i, l]) (hq).f1 A24.h Z Z Z Z (Zj (((hq).f1).f1).arr_one Qk) (Nat.le_of_ble_eq_true Z) Z ?_)
     intro qv k7
     refine Zb (Ze ?_)
     exact ⟨ad, bt, cq, (Vs (some ⟨aZ, 0, none⟩) 1 1), (Zv _), (((((((((((k7.f1).f11).f11).f11).f5).f6).f6).f11).f11).f11).f11).f11, (Fx.mk)⟩
    refine Qt Z Z (Exec.buildSlice (Te := 3) (cs := [O 0]) bQ Z (Qd (c := [O 0]) (Qf Z Z) Qg) (fun _ => by kernel_rfl) ?_)
    intro n9 qw eF
    refine ⟨(Qa (U Z Z (Zm (v := Vq a) Z Z ⟨Z, Z⟩)) (Qa (U Z Z (Zm (v := Vq a) Z Z ⟨Z, Z⟩)) (Qa (U Z Z (Zm (v := Vq a) Z Z ⟨Z, Z⟩)) (Qa (U Z Z (Zm (v := Vq a) Z Z ⟨Z, Z⟩)) (Qa (U Z Z (Qb Z Z ⟨Z, Z⟩)) (Qa (U Z Z (Zp F29_0.h Z Z Z ⟨Z, Z⟩)) (Qa (U Z Z (Zp F27_0.h Z Z Z ⟨Z, Z⟩)) (Qa (U Z Z (Zn (eF.f8) A22.h Z Z Z ⟨Z, Z⟩)) (Qa (U Z Z (Zm (v := Vq a) Z Z ⟨Z, Z⟩)) (Qa (U Z Z (Qb Z Z ⟨Z, Z⟩)) (Qa (U Z Z (Zp F29_0.h Z Z Z ⟨Z, Z⟩)) (Qa (U Z Z (Zp F27_1.h Z Z Z ⟨Z, Z⟩)) (Qa (U Z Z (Zn (eF.f8) A22.h Z Z Z ⟨Z, Z⟩)) Qi))))))))))))), ?_⟩
    refine Qt Z Z (Qh (E := (Qc .i64)) (ys := [2]) (eF.f2).f9 S22.h Z3 Z (by decide) Z Z Z Z ⟨[O 2], [], Z, Z, Z⟩ Z aH ?_)
    intro bu qx hr
    refine ⟨(Qa (U Z Z (Zm (v := Vq a) Z Z ⟨Z, Z⟩)) (Qa (U Z Z (Zm (v := Vq a) Z Z ⟨Z, Z⟩)) (Qa (U Z Z (Zm (v := Vq a) Z Z ⟨Z, Z⟩)) (Qa (U Z Z (Zm (v := Vq a) Z Z ⟨Z, Z⟩)) (Qa (U Z Z (Qb Z Z ⟨Z, Z⟩)) (Qa (U Z Z (Zp F29_0.h Z Z Z ⟨Z, Z⟩)) (Qa (U Z Z (Zp F27_1.h Z Z Z ⟨Z, Z⟩)) (Qa (U Z Z (Zn (hr.f8) A22.h Z Z Z ⟨Z, Z⟩)) Qi)))))))), ?_⟩
    refine Qt Z Z (Qh (E := (Qc .i64)) (ys := [0]) (hr.f1).f9 S22.h Z3 Z (by decide) Z Z Z Z ⟨[O 0], [], Z, Z, Z⟩ Z a1 ?_)
    intro cr qy eG
    refine ⟨(Qa (U Z Z (Zm (v := Vq a) Z Z ⟨Z, Z⟩)) (Qa (U Z Z (Zm (v := Vq a) Z Z ⟨Z, Z⟩)) (Qa (U Z Z (Zm (v := Vq a) Z Z ⟨Z, Z⟩)) Qi))), ?_⟩
    refine Qo Z Z (Qb Z Z ⟨Z, ?_⟩)
    refine Qo Z Z (Zp F29_0.h Z Z Z ⟨Z, ?_⟩)
    refine Qo Z Z (Zp F27_0.h Z Z Z ⟨Z, ?_⟩)
    refine Qt Z Z (Qe (ds := [bu]) (es := [bu, o, m, j, d, i, l]) eG.f8 A22.h Z Z Z (Qj ((eG.f8).f2).arr_one) (Zj ((eG.f8).f2).arr_one Qk) (Nat.le_of_ble_eq_true Z) Z ?_)
    intro qz eH
    refine ⟨(Qa (U Z Z (Zm (v := Vq a) Z Z ⟨Z, Z⟩)) (Qa (U Z Z (Zm (v := Vq a) Z Z ⟨Z, Z⟩)) Qi)), ?_⟩
    refine Qo Z Z (Qb Z Z ⟨Z, ?_⟩)
    refine Qo Z Z (Zp F29_0.h Z Z Z ⟨Z, ?_⟩)
    refine Qo Z Z (Zp F27_1.h Z Z Z ⟨Z, ?_⟩)
    refine Qt Z Z (Qe (ds := [cr]) (es := [bu, cr, m, j, d, i, l]) eH A22.h Z Z Z (Qj (eH.f1).arr_one) (Zj (eH.f1).arr_one Qk) (Nat.le_of_ble_eq_true Z) Z ?_)
    intro q0 k8
    refine ⟨(Qa (U Z Z (Zm (v := Vq a) Z Z ⟨Z, Z⟩)) Qi), ?_⟩
    refine Q5 (Za Z Z (Qb Z Z (Za Z Z (Zp F29_0.h Z Z Z (Za Z Z (Zp F27_2.h Z Z Z ?_))))))
    have hs := St.boxArr (E := encFact) (xs := [(⟨(b.Task.Vars.length : Int), 1⟩ : Fact)]) k8.f3 ⟨[O ((b.Task.Vars.length : Int)), O 1], [], rfl, ⟨[O ((b.Task.Vars.length : Int))], [O 1], rfl, rfl, rfl⟩, rfl⟩ (by simp [maxLen])
    refine Za Z Z (Qe (ds := [Vs (some ⟨aZ, 0, none⟩) 1 1]) (es := [bu, cr, Vs (some ⟨aZ, 0, none⟩) 1 1, j, d, i, l]) hs.f1 A24.h Z Z Z Z (Zj ((hs.f1).f1).arr_one Qk) (Nat.le_of_ble_eq_true Z) Z ?_)
    intro q1 k9
    refine Zb (Ze ?_)
    exact ⟨ad, bu, cr, (Vs (some ⟨aZ, 0, none⟩) 1 1), (Zv _), (((((((((((k9.f1).f11).f11).f11).f5).f6).f6).f11).f11).f11).f11).f11, (Fx.mk)⟩
   refine QH ?_ ?_
   ·refine Qt Z Z (Exec.buildSlice (Te := 3) (cs := [O 0]) aS.drew Z (Qd (c := [O 0]) (Qf Z Z) Qg) (fun _ => by kernel_rfl) ?_)
    intro nA q2 bR
    refine ⟨(Qa (U Z Z (Zm (v := Vq a) Z Z ⟨Z, Z⟩)) (Qa (U Z Z (Zm (v := Vq a) Z Z ⟨Z, Z⟩)) (Qa (U Z Z (Zm (v := Vq a) Z Z ⟨Z, Z⟩)) (Qa (U Z Z (Zm (v := Vq a) Z Z ⟨Z, Z⟩)) (Qa (U Z Z (Qb Z Z ⟨Z, Z⟩)) (Qa (U Z Z (Zp F29_0.h Z Z Z ⟨Z, Z⟩)) (Qa (U Z Z (Zp F27_0.h Z Z Z ⟨Z, Z⟩)) (Qa (U Z Z (Zn (bR.f6) A22.h Z Z Z ⟨Z, Z⟩)) (Qa (U Z Z (Zm (v := Vq a) Z Z ⟨Z, Z⟩)) (Qa (U Z Z (Qb Z Z ⟨Z, Z⟩)) (Qa (U Z Z (Zp F29_0.h Z Z Z ⟨Z, Z⟩)) (Qa (U Z Z (Zp F27_1.h Z Z Z ⟨Z, Z⟩)) (Qa (U Z Z (Zn (bR.f6) A22.h Z Z Z ⟨Z, Z⟩)) (Qa (U Z Z (Zm (v := O ((b.Task.Vars.length : Int))) Z Z ⟨Z, Z⟩)) (Qa (U Z Z (Exec.build Z (Qd (c := [O ((b.Task.Vars.length : Int))]) (Qf Z Z) (Qd (c := [O 1]) (Qf Z Z) Qg)) (v := Value.agg #[O ((b.Task.Vars.length : Int)), O 1]) (fun _ => by kernel_rfl) ⟨Z, Z⟩)) Qi))))))))))))))), ?_⟩
    refine QH ?_ ?_
    ·refine Qt Z Z (Exec.buildSlice (Te := 3) (cs := [O 2]) bR Z (Qd (c := [O 2]) (Qf Z Z) Qg) (fun _ => by kernel_rfl) ?_)
     intro nB q3 bS
     refine ⟨(Qa (U Z Z (Zm (v := Vq a) Z Z ⟨Z, Z⟩)) (Qa (U Z Z (Zm (v := Vq a) Z Z ⟨Z, Z⟩)) (Qa (U Z Z (Zm (v := Vq a) Z Z ⟨Z, Z⟩)) (Qa (U Z Z (Zm (v := Vq a) Z Z ⟨Z, Z⟩)) (Qa (U Z Z (Qb Z Z ⟨Z, Z⟩)) (Qa (U Z Z (Zp F29_0.h Z Z Z ⟨Z, Z⟩)) (Qa (U Z Z (Zp F27_0.h Z Z Z ⟨Z, Z⟩)) (Qa (U Z Z (Zn (bS.f7) A22.h Z Z Z ⟨Z, Z⟩)) (Qa (U Z Z (Zm (v := Vq a) Z Z ⟨Z, Z⟩)) (Qa (U Z Z (Qb Z Z ⟨Z, Z⟩)) (Qa (U Z Z (Zp F29_0.h Z Z Z ⟨Z, Z⟩)) (Qa (U Z Z (Zp F27_1.h Z Z Z ⟨Z, Z⟩)) (Qa (U Z Z (Zn (bS.f7) A22.h Z Z Z ⟨Z, Z⟩)) (Qa (U Z Z (Zm (v := O ((b.Task.Vars.length : Int))) Z Z ⟨Z, Z⟩)) (Qa (U Z Z (Exec.build Z (Qd (c := [O ((b.Task.Vars.length : Int))]) (Qf Z Z) (Qd (c := [O 1]) (Qf Z Z) Qg)) (v := Value.agg #[O ((b.Task.Vars.length : Int)), O 1]) (fun _ => by kernel_rfl) ⟨Z, Z⟩)) Qi))))))))))))))), ?_⟩
     refine QH ?_ ?_
     ·have kA := bS.f8
      refine Qt Z Z (Qh (E := (Qc .i64)) (ys := [2]) kA S22.h Z3 Z (by decide) Z Z Z Z ⟨[O 2], [], Z, Z, Z⟩ Z aH ?_)
      intro ar q4 eI
      refine ⟨(Qa (U Z Z (Zm (v := Vq a) Z Z ⟨Z, Z⟩)) (Qa (U Z Z (Zm (v := Vq a) Z Z ⟨Z, Z⟩)) (Qa (U Z Z (Zm (v := Vq a) Z Z ⟨Z, Z⟩)) (Qa (U Z Z (Zm (v := Vq a) Z Z ⟨Z, Z⟩)) (Qa (U Z Z (Qb Z Z ⟨Z, Z⟩)) (Qa (U Z Z (Zp F29_0.h Z Z Z ⟨Z, Z⟩)) (Qa (U Z Z (Zp F27_1.h Z Z Z ⟨Z, Z⟩)) (Qa (U Z Z (Zn (eI.f7) A22.h Z Z Z ⟨Z, Z⟩)) (Qa (U Z Z (Zm (v := O ((b.Task.Vars.length : Int))) Z Z ⟨Z, Z⟩)) (Qa (U Z Z (Exec.build Z (Qd (c := [O ((b.Task.Vars.length : Int))]) (Qf Z Z) (Qd (c := [O 1]) (Qf Z Z) Qg)) (v := Value.agg #[O ((b.Task.Vars.length : Int)), O 1]) (fun _ => by kernel_rfl) ⟨Z, Z⟩)) Qi)))))))))), ?_⟩
      refine QH ?_ ?_
      ·have kB := eI.f1
       refine Qt Z Z (Qh (E := (Qc .i64)) (ys := [0]) kB.f8 S22.h Z3 Z (by decide) Z Z Z Z ⟨[O 0], [], Z, Z, Z⟩ Z a1 ?_)
       intro a9 q5 bT
       refine ⟨(Qa (U Z Z (Zm (v := Vq a) Z Z ⟨Z, Z⟩)) (Qa (U Z Z (Zm (v := Vq a) Z Z ⟨Z, Z⟩)) (Qa (U Z Z (Zm (v := Vq a) Z Z ⟨Z, Z⟩)) (Qa (U Z Z (Zm (v := O ((b.Task.Vars.length : Int))) Z Z ⟨Z, Z⟩)) (Qa (U Z Z (Exec.build Z (Qd (c := [O ((b.Task.Vars.length : Int))]) (Qf Z Z) (Qd (c := [O 1]) (Qf Z Z) Qg)) (v := Value.agg #[O ((b.Task.Vars.length : Int)), O 1]) (fun _ => by kernel_rfl) ⟨Z, Z⟩)) Qi))))), ?_⟩
       refine Qo Z Z (Qb Z Z ⟨Z, ?_⟩)
       refine Qo Z Z (Zp F29_0.h Z Z Z ⟨Z, ?_⟩)
       refine Qo Z Z (Zp F27_0.h Z Z Z ⟨Z, ?_⟩)
       refine QH ?_ ?_
       ·refine Qt Z Z (Exec.buildSlice (Te := 51) (cs := [O ((b.Task.Vars.length : Int)), O 1]) bT Z (Qd (c := [O ((b.Task.Vars.length : Int)), O 1]) (Qf Z Z) Qg) (fun _ => by kernel_rfl) ?_)
        intro dl q6 eJ
        refine ⟨(Qa (U Z Z (Zm (v := Vq a) Z Z ⟨Z, Z⟩)) (Qa (U Z Z (Zm (v := Vq a) Z Z ⟨Z, Z⟩)) (Qa (U Z Z (Zm (v := Vq a) Z Z ⟨Z, Z⟩)) (Qa (U Z Z (Qb Z Z ⟨Z, Z⟩)) (Qa (U Z Z (Zp F29_0.h Z Z Z ⟨Z, Z⟩)) (Qa (U Z Z (Zp F27_0.h Z Z Z ⟨Z, Z⟩)) Qi)))))), ?_⟩
        refine Qt Z Z (Qe (ds := [ar]) (es := [ar, o, m, j, d, i, l]) eJ.f8 A22.h Z Z Z (Qj ((eJ.f8).f3).arr_one) (Zj ((eJ.f8).f3).arr_one Qk) (Nat.le_of_ble_eq_true Z) Z ?_)
        intro q7 eK
        refine ⟨(Qa (U Z Z (Zm (v := Vq a) Z Z ⟨Z, Z⟩)) (Qa (U Z Z (Zm (v := Vq a) Z Z ⟨Z, Z⟩)) Qi)), ?_⟩
        refine Qo Z Z (Qb Z Z ⟨Z, ?_⟩)
        refine Qo Z Z (Zp F29_0.h Z Z Z ⟨Z, ?_⟩)
        refine Qo Z Z (Zp F27_1.h Z Z Z ⟨Z, ?_⟩)
        refine Qt Z Z (Qe (ds := [a9]) (es := [ar, a9, m, j, d, i, l]) eK A22.h Z Z Z (Qj (eK.f2).arr_one) (Zj (eK.f2).arr_one Qk) (Nat.le_of_ble_eq_true Z) Z ?_)
        intro q8 kC
        refine ⟨(Qa (U Z Z (Zm (v := Vq a) Z Z ⟨Z, Z⟩)) Qi), ?_⟩
        refine Q5 (Za Z Z (Qb Z Z (Za Z Z (Zp F29_0.h Z Z Z (Za Z Z (Zp F27_2.h Z Z Z ?_))))))
        have ht := St.boxArr (E := encFact) (xs := [(⟨(b.Task.Vars.length : Int), 1⟩ : Fact)]) kC.f1 ⟨[O ((b.Task.Vars.length : Int)), O 1], [], rfl, ⟨[O ((b.Task.Vars.length : Int))], [O 1], rfl, rfl, rfl⟩, rfl⟩ (by simp [maxLen])
        refine Za Z Z (Qe (ds := [Vs (some ⟨dl, 0, none⟩) 1 1]) (es := [ar, a9, Vs (some ⟨dl, 0, none⟩) 1 1, j, d, i, l]) ht.f1 A24.h Z Z Z Z (Zj ((ht.f1).f1).arr_one Qk) (Nat.le_of_ble_eq_true Z) Z ?_)
        intro q9 kD
        refine Zb (Ze ?_)
        exact ⟨ad, ar, a9, (Vs (some ⟨dl, 0, none⟩) 1 1), (Zv _), (((((((((((kD.f1).f11).f11).f11).f5).f6).f6).f11).f11).f11).f11).f11, (Fx.mk)⟩
       refine Qt Z Z (Qe (ds := [ar]) (es := [ar, o, m, j, d, i, l]) bT.f7 A22.h Z Z Z (Qj ((bT.f7).f2).arr_one) (Zj ((bT.f7).f2).arr_one Qk) (Nat.le_of_ble_eq_true Z) Z ?_)
       intro qA bU
       refine ⟨(Qa (U Z Z (Zm (v := Vq a) Z Z ⟨Z, Z⟩)) (Qa (U Z Z (Zm (v := Vq a) Z Z ⟨Z, Z⟩)) (Qa (U Z Z (Zm (v := O ((b.Task.Vars.length : Int))) Z Z ⟨Z, Z⟩)) (Qa (U Z Z (Exec.build Z (Qd (c := [O ((b.Task.Vars.length : Int))]) (Qf Z Z) (Qd (c := [O 1]) (Qf Z Z) Qg)) (v := Value.agg #[O ((b.Task.Vars.length : Int)), O 1]) (fun _ => by kernel_rfl) ⟨Z, Z⟩)) Qi)))), ?_⟩
       refine Qo Z Z (Qb Z Z ⟨Z, ?_⟩)
       refine Qo Z Z (Zp F29_0.h Z Z Z ⟨Z, ?_⟩)
       refine Qo Z Z (Zp F27_1.h Z Z Z ⟨Z, ?_⟩)
       refine QH ?_ ?_
       ·refine Qt Z Z (Exec.buildSlice (Te := 51) (cs := [O ((b.Task.Vars.length : Int)), O 1]) bU Z (Qd (c := [O ((b.Task.Vars.length : Int)), O 1]) (Qf Z Z) Qg) (fun _ => by kernel_rfl) ?_)
        intro dm qB eL
        refine ⟨(Qa (U Z Z (Zm (v := Vq a) Z Z ⟨Z, Z⟩)) (Qa (U Z Z (Zm (v := Vq a) Z Z ⟨Z, Z⟩)) (Qa (U Z Z (Qb Z Z ⟨Z, Z⟩)) (Qa (U Z Z (Zp F29_0.h Z Z Z ⟨Z, Z⟩)) (Qa (U Z Z (Zp F27_1.h Z Z Z ⟨Z, Z⟩)) Qi))))), ?_⟩
        refine Qt Z Z (Qe (ds := [a9]) (es := [ar, a9, m, j, d, i, l]) eL.f1 A22.h Z Z Z (Qj ((eL.f1).f2).arr_one) (Zj ((eL.f1).f2).arr_one Qk) (Nat.le_of_ble_eq_true Z) Z ?_)
        intro qC kE
        refine ⟨(Qa (U Z Z (Zm (v := Vq a) Z Z ⟨Z, Z⟩)) Qi), ?_⟩
        refine Q5 (Za Z Z (Qb Z Z (Za Z Z (Zp F29_0.h Z Z Z (Za Z Z (Zp F27_2.h Z Z Z ?_))))))
        have hu := St.boxArr (E := encFact) (xs := [(⟨(b.Task.Vars.length : Int), 1⟩ : Fact)]) kE.f1 ⟨[O ((b.Task.Vars.length : Int)), O 1], [], rfl, ⟨[O ((b.Task.Vars.length : Int))], [O 1], rfl, rfl, rfl⟩, rfl⟩ (by simp [maxLen])
        refine Za Z Z (Qe (ds := [Vs (some ⟨dm, 0, none⟩) 1 1]) (es := [ar, a9, Vs (some ⟨dm, 0, none⟩) 1 1, j, d, i, l]) hu.f1 A24.h Z Z Z Z (Zj ((hu.f1).f1).arr_one Qk) (Nat.le_of_ble_eq_true Z) Z ?_)
        intro qD kF
        refine Zb (Ze ?_)
        exact ⟨ad, ar, a9, (Vs (some ⟨dm, 0, none⟩) 1 1), (Zv _), (((((((((((kF.f1).f11).f11).f11).f5).f6).f6).f11).f11).f11).f11).f11, (Fx.mk)⟩
       refine Qt Z Z (Qe (ds := [a9]) (es := [ar, a9, m, j, d, i, l]) bU A22.h Z Z Z (Qj (bU.f1).arr_one) (Zj (bU.f1).arr_one Qk) (Nat.le_of_ble_eq_true Z) Z ?_)
       intro qE kG
       refine ⟨(Qa (U Z Z (Zm (v := Vq a) Z Z ⟨Z, Z⟩)) (Qa (U Z Z (Zm (v := O ((b.Task.Vars.length : Int))) Z Z ⟨Z, Z⟩)) (Qa (U Z Z (Exec.build Z (Qd (c := [O ((b.Task.Vars.length : Int))]) (Qf Z Z) (Qd (c := [O 1]) (Qf Z Z) Qg)) (v := Value.agg #[O ((b.Task.Vars.length : Int)), O 1]) (fun _ => by kernel_rfl) ⟨Z, Z⟩)) Qi))), ?_⟩
       refine Qt Z Z (Exec.buildSlice (Te := 51) (cs := [O ((b.Task.Vars.length : Int)), O 1]) kG Z (Qd (c := [O ((b.Task.Vars.length : Int)), O 1]) (Qf Z Z) Qg) (fun _ => by kernel_rfl) ?_)
       intro dn qF kH
       refine ⟨(Qa (U Z Z (Zm (v := Vq a) Z Z ⟨Z, Z⟩)) Qi), ?_⟩
       refine Q5 (Za Z Z (Qb Z Z (Za Z Z (Zp F29_0.h Z Z Z (Za Z Z (Zp F27_2.h Z Z Z ?_))))))
       have hv := St.boxArr (E := encFact) (xs := [(⟨(b.Task.Vars.length : Int), 1⟩ : Fact)]) kH ⟨[O ((b.Task.Vars.length : Int)), O 1], [], rfl, ⟨[O ((b.Task.Vars.length : Int))], [O 1], rfl, rfl, rfl⟩, rfl⟩ (by simp [maxLen])
       refine Za Z Z (Qe (ds := [Vs (some ⟨dn, 0, none⟩) 1 1]) (es := [ar, a9, Vs (some ⟨dn, 0, none⟩) 1 1, j, d, i, l]) hv.f1 A24.h Z Z Z Z (Zj ((hv.f1).f1).arr_one Qk) (Nat.le_of_ble_eq_true Z) Z ?_)
       intro qG kI
       refine Zb (Ze ?_)
       exact ⟨ad, ar, a9, (Vs (some ⟨dn, 0, none⟩) 1 1), (Zv _), (((((((((((kI.f1).f11).f11).f11).f5).f6).f6).f11).f11).f11).f11).f11, (Fx.mk)⟩
      refine Qt Z Z (Exec.buildSlice (Te := 51) (cs := [O ((b.Task.Vars.length : Int)), O 1]) eI Z (Qd (c := [O ((b.Task.Vars.length : Int)), O 1]) (Qf Z Z) Qg) (fun _ => by kernel_rfl) ?_)
      intro dp qH hw
      refine ⟨(Qa (U Z Z (Zm (v := Vq a) Z Z ⟨Z, Z⟩)) (Qa (U Z Z (Zm (v := Vq a) Z Z ⟨Z, Z⟩)) (Qa (U Z Z (Zm (v := Vq a) Z Z ⟨Z, Z⟩)) (Qa (U Z Z (Zm (v := Vq a) Z Z ⟨Z, Z⟩)) (Qa (U Z Z (Qb Z Z ⟨Z, Z⟩)) (Qa (U Z Z (Zp F29_0.h Z Z Z ⟨Z, Z⟩)) (Qa (U Z Z (Zp F27_1.h Z Z Z ⟨Z, Z⟩)) (Qa (U Z Z (Zn (hw.f8) A22.h Z Z Z ⟨Z, Z⟩)) Qi)))))))), ?_⟩
      refine Qt Z Z (Qh (E := (Qc .i64)) (ys := [0]) (hw.f2).f9 S22.h Z3 Z (by decide) Z Z Z Z ⟨[O 0], [], Z, Z, Z⟩ Z a1 ?_)
      intro ct qI eM
      refine ⟨(Qa (U Z Z (Zm (v := Vq a) Z Z ⟨Z, Z⟩)) (Qa (U Z Z (Zm (v := Vq a) Z Z ⟨Z, Z⟩)) (Qa (U Z Z (Zm (v := Vq a) Z Z ⟨Z, Z⟩)) Qi))), ?_⟩
      refine Qo Z Z (Qb Z Z ⟨Z, ?_⟩)
      refine Qo Z Z (Zp F29_0.h Z Z Z ⟨Z, ?_⟩)
      refine Qo Z Z (Zp F27_0.h Z Z Z ⟨Z, ?_⟩)
      refine Qt Z Z (Qe (ds := [ar]) (es := [ar, o, m, j, d, i, l]) eM.f8 A22.h Z Z Z (Qj ((eM.f8).f3).arr_one) (Zj ((eM.f8).f3).arr_one Qk) (Nat.le_of_ble_eq_true Z) Z ?_)
      intro qJ eN
      refine ⟨(Qa (U Z Z (Zm (v := Vq a) Z Z ⟨Z, Z⟩)) (Qa (U Z Z (Zm (v := Vq a) Z Z ⟨Z, Z⟩)) Qi)), ?_⟩
      refine Qo Z Z (Qb Z Z ⟨Z, ?_⟩)
      refine Qo Z Z (Zp F29_0.h Z Z Z ⟨Z, ?_⟩)
      refine Qo Z Z (Zp F27_1.h Z Z Z ⟨Z, ?_⟩)
      refine Qt Z Z (Qe (ds := [ct]) (es := [ar, ct, m, j, d, i, l]) eN A22.h Z Z Z (Qj (eN.f1).arr_one) (Zj (eN.f1).arr_one Qk) (Nat.le_of_ble_eq_true Z) Z ?_)
      intro qK kJ
      refine ⟨(Qa (U Z Z (Zm (v := Vq a) Z Z ⟨Z, Z⟩)) Qi), ?_⟩
      refine Q5 (Za Z Z (Qb Z Z (Za Z Z (Zp F29_0.h Z Z Z (Za Z Z (Zp F27_2.h Z Z Z ?_))))))
      have hx := St.boxArr (E := encFact) (xs := [(⟨(b.Task.Vars.length : Int), 1⟩ : Fact)]) kJ.f2 ⟨[O ((b.Task.Vars.length : Int)), O 1], [], rfl, ⟨[O ((b.Task.Vars.length : Int))], [O 1], rfl, rfl, rfl⟩, rfl⟩ (by simp [maxLen])
      refine Za Z Z (Qe (ds := [Vs (some ⟨dp, 0, none⟩) 1 1]) (es := [ar, ct, Vs (some ⟨dp, 0, none⟩) 1 1, j, d, i, l]) hx.f1 A24.h Z Z Z Z (Zj ((hx.f1).f1).arr_one Qk) (Nat.le_of_ble_eq_true Z) Z ?_)
      intro qL kK
      refine Zb (Ze ?_)
      exact ⟨ad, ar, ct, (Vs (some ⟨dp, 0, none⟩) 1 1), (Zv _), (((((((((((kK.f1).f11).f11).f11).f5).f6).f6).f11).f11).f11).f11).f11, (Fx.mk)⟩
     refine Qt Z Z (Exec.buildSlice (Te := 51) (cs := [O ((b.Task.Vars.length : Int)), O 1]) bS Z (Qd (c := [O ((b.Task.Vars.length : Int)), O 1]) (Qf Z Z) Qg) (fun _ => by kernel_rfl) ?_)
     intro dq qM eO
     refine ⟨(Qa (U Z Z (Zm (v := Vq a) Z Z ⟨Z, Z⟩)) (Qa (U Z Z (Zm (v := Vq a) Z Z ⟨Z, Z⟩)) (Qa (U Z Z (Zm (v := Vq a) Z Z ⟨Z, Z⟩)) (Qa (U Z Z (Zm (v := Vq a) Z Z ⟨Z, Z⟩)) (Qa (U Z Z (Qb Z Z ⟨Z, Z⟩)) (Qa (U Z Z (Zp F29_0.h Z Z Z ⟨Z, Z⟩)) (Qa (U Z Z (Zp F27_0.h Z Z Z ⟨Z, Z⟩)) (Qa (U Z Z (Zn (eO.f8) A22.h Z Z Z ⟨Z, Z⟩)) (Qa (U Z Z (Zm (v := Vq a) Z Z ⟨Z, Z⟩)) (Qa (U Z Z (Qb Z Z ⟨Z, Z⟩)) (Qa (U Z Z (Zp F29_0.h Z Z Z ⟨Z, Z⟩)) (Qa (U Z Z (Zp F27_1.h Z Z Z ⟨Z, Z⟩)) (Qa (U Z Z (Zn (eO.f8) A22.h Z Z Z ⟨Z, Z⟩)) Qi))))))))))))), ?_⟩
     refine Qt Z Z (Qh (E := (Qc .i64)) (ys := [2]) (eO.f1).f9 S22.h Z3 Z (by decide) Z Z Z Z ⟨[O 2], [], Z, Z, Z⟩ Z aH ?_)
     intro bv qN hy
     refine ⟨(Qa (U Z Z (Zm (v := Vq a) Z Z ⟨Z, Z⟩)) (Qa (U Z Z (Zm (v := Vq a) Z Z ⟨Z, Z⟩)) (Qa (U Z Z (Zm (v := Vq a) Z Z ⟨Z, Z⟩)) (Qa (U Z Z (Zm (v := Vq a) Z Z ⟨Z, Z⟩)) (Qa (U Z Z (Qb Z Z ⟨Z, Z⟩)) (Qa (U Z Z (Zp F29_0.h Z Z Z ⟨Z, Z⟩)) (Qa (U Z Z (Zp F27_1.h Z Z Z ⟨Z, Z⟩)) (Qa (U Z Z (Zn (hy.f8) A22.h Z Z Z ⟨Z, Z⟩)) Qi)))))))), ?_⟩
     refine Qt Z Z (Qh (E := (Qc .i64)) (ys := [0]) (hy.f2).f9 S22.h Z3 Z (by decide) Z Z Z Z ⟨[O 0], [], Z, Z, Z⟩ Z a1 ?_)
     intro cu qO eP
     refine ⟨(Qa (U Z Z (Zm (v := Vq a) Z Z ⟨Z, Z⟩)) (Qa (U Z Z (Zm (v := Vq a) Z Z ⟨Z, Z⟩)) (Qa (U Z Z (Zm (v := Vq a) Z Z ⟨Z, Z⟩)) Qi))), ?_⟩
     refine Qo Z Z (Qb Z Z ⟨Z, ?_⟩)
     refine Qo Z Z (Zp F29_0.h Z Z Z ⟨Z, ?_⟩)
     refine Qo Z Z (Zp F27_0.h Z Z Z ⟨Z, ?_⟩)
     refine Qt Z Z (Qe (ds := [bv]) (es := [bv, o, m, j, d, i, l]) eP.f8 A22.h Z Z Z (Qj ((eP.f8).f2).arr_one) (Zj ((eP.f8).f2).arr_one Qk) (Nat.le_of_ble_eq_true Z) Z ?_)
     intro qP eQ
     refine ⟨(Qa (U Z Z (Zm (v := Vq a) Z Z ⟨Z, Z⟩)) (Qa (U Z Z (Zm (v := Vq a) Z Z ⟨Z, Z⟩)) Qi)), ?_⟩
     refine Qo Z Z (Qb Z Z ⟨Z, ?_⟩)
     refine Qo Z Z (Zp F29_0.h Z Z Z ⟨Z, ?_⟩)
     refine Qo Z Z (Zp F27_1.h Z Z Z ⟨Z, ?_⟩)
     refine Qt Z Z (Qe (ds := [cu]) (es := [bv, cu, m, j, d, i, l]) eQ A22.h Z Z Z (Qj (eQ.f1).arr_one) (Zj (eQ.f1).arr_one Qk) (Nat.le_of_ble_eq_true Z) Z ?_)
     intro qQ kL
     refine ⟨(Qa (U Z Z (Zm (v := Vq a) Z Z ⟨Z, Z⟩)) Qi), ?_⟩
     refine Q5 (Za Z Z (Qb Z Z (Za Z Z (Zp F29_0.h Z Z Z (Za Z Z (Zp F27_2.h Z Z Z ?_))))))
     have hz := St.boxArr (E := encFact) (xs := [(⟨(b.Task.Vars.length : Int), 1⟩ : Fact)]) kL.f3 ⟨[O ((b.Task.Vars.length : Int)), O 1], [], rfl, ⟨[O ((b.Task.Vars.length : Int))], [O 1], rfl, rfl, rfl⟩, rfl⟩ (by simp [maxLen])
     refine Za Z Z (Qe (ds := [Vs (some ⟨dq, 0, none⟩) 1 1]) (es := [bv, cu, Vs (some ⟨dq, 0, none⟩) 1 1, j, d, i, l]) hz.f1 A24.h Z Z Z Z (Zj ((hz.f1).f1).arr_one Qk) (Nat.le_of_ble_eq_true Z) Z ?_)
     intro qR kM
     refine Zb (Ze ?_)
     exact ⟨ad, bv, cu, (Vs (some ⟨dq, 0, none⟩) 1 1), (Zv _), (((((((((((kM.f1).f11).f11).f11).f5).f6).f6).f11).f11).f11).f11).f11, (Fx.mk)⟩
    refine Qt Z Z (Exec.buildSlice (Te := 51) (cs := [O ((b.Task.Vars.length : Int)), O 1]) bR Z (Qd (c := [O ((b.Task.Vars.length : Int)), O 1]) (Qf Z Z) Qg) (fun _ => by kernel_rfl) ?_)
    intro dr qS eR
    refine ⟨(Qa (U Z Z (Zm (v := Vq a) Z Z ⟨Z, Z⟩)) (Qa (U Z Z (Zm (v := Vq a) Z Z ⟨Z, Z⟩)) (Qa (U Z Z (Zm (v := Vq a) Z Z ⟨Z, Z⟩)) (Qa (U Z Z (Zm (v := Vq a) Z Z ⟨Z, Z⟩)) (Qa (U Z Z (Qb Z Z ⟨Z, Z⟩)) (Qa (U Z Z (Zp F29_0.h Z Z Z ⟨Z, Z⟩)) (Qa (U Z Z (Zp F27_0.h Z Z Z ⟨Z, Z⟩)) (Qa (U Z Z (Zn (eR.f7) A22.h Z Z Z ⟨Z, Z⟩)) (Qa (U Z Z (Zm (v := Vq a) Z Z ⟨Z, Z⟩)) (Qa (U Z Z (Qb Z Z ⟨Z, Z⟩)) (Qa (U Z Z (Zp F29_0.h Z Z Z ⟨Z, Z⟩)) (Qa (U Z Z (Zp F27_1.h Z Z Z ⟨Z, Z⟩)) (Qa (U Z Z (Zn (eR.f7) A22.h Z Z Z ⟨Z, Z⟩)) Qi))))))))))))), ?_⟩
    refine Qt Z Z (Exec.buildSlice (Te := 3) (cs := [O 2]) eR Z (Qd (c := [O 2]) (Qf Z Z) Qg) (fun _ => by kernel_rfl) ?_)
    intro nC qT eS
    refine ⟨(Qa (U Z Z (Zm (v := Vq a) Z Z ⟨Z, Z⟩)) (Qa (U Z Z (Zm (v := Vq a) Z Z ⟨Z, Z⟩)) (Qa (U Z Z (Zm (v := Vq a) Z Z ⟨Z, Z⟩)) (Qa (U Z Z (Zm (v := Vq a) Z Z ⟨Z, Z⟩)) (Qa (U Z Z (Qb Z Z ⟨Z, Z⟩)) (Qa (U Z Z (Zp F29_0.h Z Z Z ⟨Z, Z⟩)) (Qa (U Z Z (Zp F27_0.h Z Z Z ⟨Z, Z⟩)) (Qa (U Z Z (Zn (eS.f8) A22.h Z Z Z ⟨Z, Z⟩)) (Qa (U Z Z (Zm (v := Vq a) Z Z ⟨Z, Z⟩)) (Qa (U Z Z (Qb Z Z ⟨Z, Z⟩)) (Qa (U Z Z (Zp F29_0.h Z Z Z ⟨Z, Z⟩)) (Qa (U Z Z (Zp F27_1.h Z Z Z ⟨Z, Z⟩)) (Qa (U Z Z (Zn (eS.f8) A22.h Z Z Z ⟨Z, Z⟩)) Qi))))))))))))), ?_⟩
    refine Qt Z Z (Qh (E := (Qc .i64)) (ys := [2]) eS.f9 S22.h Z3 Z (by decide) Z Z Z Z ⟨[O 2], [], Z, Z, Z⟩ Z aH ?_)
    intro bw qU h0
    refine ⟨(Qa (U Z Z (Zm (v := Vq a) Z Z ⟨Z, Z⟩)) (Qa (U Z Z (Zm (v := Vq a) Z Z ⟨Z, Z⟩)) (Qa (U Z Z (Zm (v := Vq a) Z Z ⟨Z, Z⟩)) (Qa (U Z Z (Zm (v := Vq a) Z Z ⟨Z, Z⟩)) (Qa (U Z Z (Qb Z Z ⟨Z, Z⟩)) (Qa (U Z Z (Zp F29_0.h Z Z Z ⟨Z, Z⟩)) (Qa (U Z Z (Zp F27_1.h Z Z Z ⟨Z, Z⟩)) (Qa (U Z Z (Zn (h0.f8) A22.h Z Z Z ⟨Z, Z⟩)) Qi)))))))), ?_⟩
    refine Qt Z Z (Qh (E := (Qc .i64)) (ys := [0]) (h0.f2).f9 S22.h Z3 Z (by decide) Z Z Z Z ⟨[O 0], [], Z, Z, Z⟩ Z a1 ?_)
    intro cv qV eT
    refine ⟨(Qa (U Z Z (Zm (v := Vq a) Z Z ⟨Z, Z⟩)) (Qa (U Z Z (Zm (v := Vq a) Z Z ⟨Z, Z⟩)) (Qa (U Z Z (Zm (v := Vq a) Z Z ⟨Z, Z⟩)) Qi))), ?_⟩
    refine Qo Z Z (Qb Z Z ⟨Z, ?_⟩)
    refine Qo Z Z (Zp F29_0.h Z Z Z ⟨Z, ?_⟩)
    refine Qo Z Z (Zp F27_0.h Z Z Z ⟨Z, ?_⟩)
    refine Qt Z Z (Qe (ds := [bw]) (es := [bw, o, m, j, d, i, l]) eT.f8 A22.h Z Z Z (Qj ((eT.f8).f2).arr_one) (Zj ((eT.f8).f2).arr_one Qk) (Nat.le_of_ble_eq_true Z) Z ?_)
    intro qW eU
    refine ⟨(Qa (U Z Z (Zm (v := Vq a) Z Z ⟨Z, Z⟩)) (Qa (U Z Z (Zm (v := Vq a) Z Z ⟨Z, Z⟩)) Qi)), ?_⟩
    refine Qo Z Z (Qb Z Z ⟨Z, ?_⟩)
    refine Qo Z Z (Zp F29_0.h Z Z Z ⟨Z, ?_⟩)
    refine Qo Z Z (Zp F27_1.h Z Z Z ⟨Z, ?_⟩)
    refine Qt Z Z (Qe (ds := [cv]) (es := [bw, cv, m, j, d, i, l]) eU A22.h Z Z Z (Qj (eU.f1).arr_one) (Zj (eU.f1).arr_one Qk) (Nat.le_of_ble_eq_true Z) Z ?_)
    intro qX kN
    refine ⟨(Qa (U Z Z (Zm (v := Vq a) Z Z ⟨Z, Z⟩)) Qi), ?_⟩
    refine Q5 (Za Z Z (Qb Z Z (Za Z Z (Zp F29_0.h Z Z Z (Za Z Z (Zp F27_2.h Z Z Z ?_))))))
    have h1 := St.boxArr (E := encFact) (xs := [(⟨(b.Task.Vars.length : Int), 1⟩ : Fact)]) kN.f3 ⟨[O ((b.Task.Vars.length : Int)), O 1], [], rfl, ⟨[O ((b.Task.Vars.length : Int))], [O 1], rfl, rfl, rfl⟩, rfl⟩ (by simp [maxLen])
    refine Za Z Z (Qe (ds := [Vs (some ⟨dr, 0, none⟩) 1 1]) (es := [bw, cv, Vs (some ⟨dr, 0, none⟩) 1 1, j, d, i, l]) h1.f1 A24.h Z Z Z Z (Zj ((h1.f1).f1).arr_one Qk) (Nat.le_of_ble_eq_true Z) Z ?_)
    intro qY kO
    refine Zb (Ze ?_)
    exact ⟨ad, bw, cv, (Vs (some ⟨dr, 0, none⟩) 1 1), (Zv _), (((((((((((kO.f1).f11).f11).f11).f5).f6).f6).f11).f11).f11).f11).f11, (Fx.mk)⟩
   refine Qt Z Z (Exec.buildSlice (Te := 51) (cs := [O ((b.Task.Vars.length : Int)), O 1]) aS.drew Z (Qd (c := [O ((b.Task.Vars.length : Int)), O 1]) (Qf Z Z) Qg) (fun _ => by kernel_rfl) ?_)
   intro aM qZ bV
   refine ⟨(Qa (U Z Z (Zm (v := Vq a) Z Z ⟨Z, Z⟩)) (Qa (U Z Z (Zm (v := Vq a) Z Z ⟨Z, Z⟩)) (Qa (U Z Z (Zm (v := Vq a) Z Z ⟨Z, Z⟩)) (Qa (U Z Z (Zm (v := Vq a) Z Z ⟨Z, Z⟩)) (Qa (U Z Z (Qb Z Z ⟨Z, Z⟩)) (Qa (U Z Z (Zp F29_0.h Z Z Z ⟨Z, Z⟩)) (Qa (U Z Z (Zp F27_0.h Z Z Z ⟨Z, Z⟩)) (Qa (U Z Z (Zn (bV.f6) A22.h Z Z Z ⟨Z, Z⟩)) (Qa (U Z Z (Zm (v := Vq a) Z Z ⟨Z, Z⟩)) (Qa (U Z Z (Qb Z Z ⟨Z, Z⟩)) (Qa (U Z Z (Zp F29_0.h Z Z Z ⟨Z, Z⟩)) (Qa (U Z Z (Zp F27_1.h Z Z Z ⟨Z, Z⟩)) (Qa (U Z Z (Zn (bV.f6) A22.h Z Z Z ⟨Z, Z⟩)) Qi))))))))))))), ?_⟩
   refine QH ?_ ?_
   ·refine Qt Z Z (Exec.buildSlice (Te := 3) (cs := [O 2]) bV Z (Qd (c := [O 2]) (Qf Z Z) Qg) (fun _ => by kernel_rfl) ?_)
    intro nD ra bW
    refine ⟨(Qa (U Z Z (Zm (v := Vq a) Z Z ⟨Z, Z⟩)) (Qa (U Z Z (Zm (v := Vq a) Z Z ⟨Z, Z⟩)) (Qa (U Z Z (Zm (v := Vq a) Z Z ⟨Z, Z⟩)) (Qa (U Z Z (Zm (v := Vq a) Z Z ⟨Z, Z⟩)) (Qa (U Z Z (Qb Z Z ⟨Z, Z⟩)) (Qa (U Z Z (Zp F29_0.h Z Z Z ⟨Z, Z⟩)) (Qa (U Z Z (Zp F27_0.h Z Z Z ⟨Z, Z⟩)) (Qa (U Z Z (Zn (bW.f7) A22.h Z Z Z ⟨Z, Z⟩)) (Qa (U Z Z (Zm (v := Vq a) Z Z ⟨Z, Z⟩)) (Qa (U Z Z (Qb Z Z ⟨Z, Z⟩)) (Qa (U Z Z (Zp F29_0.h Z Z Z ⟨Z, Z⟩)) (Qa (U Z Z (Zp F27_1.h Z Z Z ⟨Z, Z⟩)) (Qa (U Z Z (Zn (bW.f7) A22.h Z Z Z ⟨Z, Z⟩)) Qi))))))))))))), ?_⟩
    refine QH ?_ ?_
    ·have kP := bW.f8
     refine Qt Z Z (Qh (E := (Qc .i64)) (ys := [2]) kP S22.h Z3 Z (by decide) Z Z Z Z ⟨[O 2], [], Z, Z, Z⟩ Z aH ?_)
     intro bx rb h2
     refine ⟨(Qa (U Z Z (Zm (v := Vq a) Z Z ⟨Z, Z⟩)) (Qa (U Z Z (Zm (v := Vq a) Z Z ⟨Z, Z⟩)) (Qa (U Z Z (Zm (v := Vq a) Z Z ⟨Z, Z⟩)) (Qa (U Z Z (Zm (v := Vq a) Z Z ⟨Z, Z⟩)) (Qa (U Z Z (Qb Z Z ⟨Z, Z⟩)) (Qa (U Z Z (Zp F29_0.h Z Z Z ⟨Z, Z⟩)) (Qa (U Z Z (Zp F27_1.h Z Z Z ⟨Z, Z⟩)) (Qa (U Z Z (Zn (h2.f7) A22.h Z Z Z ⟨Z, Z⟩)) Qi)))))))), ?_⟩
     refine Qt Z Z (Exec.buildSlice (Te := 3) (cs := [O 0]) h2 Z (Qd (c := [O 0]) (Qf Z Z) Qg) (fun _ => by kernel_rfl) ?_)
     intro nE rc h3
     refine ⟨(Qa (U Z Z (Zm (v := Vq a) Z Z ⟨Z, Z⟩)) (Qa (U Z Z (Zm (v := Vq a) Z Z ⟨Z, Z⟩)) (Qa (U Z Z (Zm (v := Vq a) Z Z ⟨Z, Z⟩)) (Qa (U Z Z (Zm (v := Vq a) Z Z ⟨Z, Z⟩)) (Qa (U Z Z (Qb Z Z ⟨Z, Z⟩)) (Qa (U Z Z (Zp F29_0.h Z Z Z ⟨Z, Z⟩)) (Qa (U Z Z (Zp F27_1.h Z Z Z ⟨Z, Z⟩)) (Qa (U Z Z (Zn (h3.f8) A22.h Z Z Z ⟨Z, Z⟩)) Qi)))))))), ?_⟩
     refine Qt Z Z (Qh (E := (Qc .i64)) (ys := [0]) h3.f9 S22.h Z3 Z (by decide) Z Z Z Z ⟨[O 0], [], Z, Z, Z⟩ Z a1 ?_)
     intro cw rd eV
     refine ⟨(Qa (U Z Z (Zm (v := Vq a) Z Z ⟨Z, Z⟩)) (Qa (U Z Z (Zm (v := Vq a) Z Z ⟨Z, Z⟩)) (Qa (U Z Z (Zm (v := Vq a) Z Z ⟨Z, Z⟩)) Qi))), ?_⟩
     refine Qo Z Z (Qb Z Z ⟨Z, ?_⟩)
     refine Qo Z Z (Zp F29_0.h Z Z Z ⟨Z, ?_⟩)
     refine Qo Z Z (Zp F27_0.h Z Z Z ⟨Z, ?_⟩)
     refine Qt Z Z (Qe (ds := [bx]) (es := [bx, o, m, j, d, i, l]) eV.f8 A22.h Z Z Z (Qj ((eV.f8).f2).arr_one) (Zj ((eV.f8).f2).arr_one Qk) (Nat.le_of_ble_eq_true Z) Z ?_)
     intro re eW
     refine ⟨(Qa (U Z Z (Zm (v := Vq a) Z Z ⟨Z, Z⟩)) (Qa (U Z Z (Zm (v := Vq a) Z Z ⟨Z, Z⟩)) Qi)), ?_⟩
     refine Qo Z Z (Qb Z Z ⟨Z, ?_⟩)
     refine Qo Z Z (Zp F29_0.h Z Z Z ⟨Z, ?_⟩)
     refine Qo Z Z (Zp F27_1.h Z Z Z ⟨Z, ?_⟩)
     refine Qt Z Z (Qe (ds := [cw]) (es := [bx, cw, m, j, d, i, l]) eW A22.h Z Z Z (Qj (eW.f1).arr_one) (Zj (eW.f1).arr_one Qk) (Nat.le_of_ble_eq_true Z) Z ?_)
     intro rf kQ
     refine ⟨(Qa (U Z Z (Zm (v := Vq a) Z Z ⟨Z, Z⟩)) Qi), ?_⟩
     refine Q5 (Za Z Z (Qb Z Z (Za Z Z (Zp F29_0.h Z Z Z (Za Z Z (Zp F27_2.h Z Z Z ?_))))))
     have h4 := St.boxArr (E := encFact) (xs := [(⟨(b.Task.Vars.length : Int), 1⟩ : Fact)]) kQ.f3 ⟨[O ((b.Task.Vars.length : Int)), O 1], [], rfl, ⟨[O ((b.Task.Vars.length : Int))], [O 1], rfl, rfl, rfl⟩, rfl⟩ (by simp [maxLen])
     refine Za Z Z (Qe (ds := [Vs (some ⟨aM, 0, none⟩) 1 1]) (es := [bx, cw, Vs (some ⟨aM, 0, none⟩) 1 1, j, d, i, l]) h4.f1 A24.h Z Z Z Z (Zj ((h4.f1).f1).arr_one Qk) (Nat.le_of_ble_eq_true Z) Z ?_)
     intro rg kR
     refine Zb (Ze ?_)
     exact ⟨ad, bx, cw, (Vs (some ⟨aM, 0, none⟩) 1 1), (Zv _), (((((((((((kR.f1).f11).f11).f11).f5).f6).f6).f11).f11).f11).f11).f11, (Fx.mk)⟩
    refine Qt Z Z (Exec.buildSlice (Te := 3) (cs := [O 0]) bW Z (Qd (c := [O 0]) (Qf Z Z) Qg) (fun _ => by kernel_rfl) ?_)
    intro nF rh eX
    refine ⟨(Qa (U Z Z (Zm (v := Vq a) Z Z ⟨Z, Z⟩)) (Qa (U Z Z (Zm (v := Vq a) Z Z ⟨Z, Z⟩)) (Qa (U Z Z (Zm (v := Vq a) Z Z ⟨Z, Z⟩)) (Qa (U Z Z (Zm (v := Vq a) Z Z ⟨Z, Z⟩)) (Qa (U Z Z (Qb Z Z ⟨Z, Z⟩)) (Qa (U Z Z (Zp F29_0.h Z Z Z ⟨Z, Z⟩)) (Qa (U Z Z (Zp F27_0.h Z Z Z ⟨Z, Z⟩)) (Qa (U Z Z (Zn (eX.f8) A22.h Z Z Z ⟨Z, Z⟩)) (Qa (U Z Z (Zm (v := Vq a) Z Z ⟨Z, Z⟩)) (Qa (U Z Z (Qb Z Z ⟨Z, Z⟩)) (Qa (U Z Z (Zp F29_0.h Z Z Z ⟨Z, Z⟩)) (Qa (U Z Z (Zp F27_1.h Z Z Z ⟨Z, Z⟩)) (Qa (U Z Z (Zn (eX.f8) A22.h Z Z Z ⟨Z, Z⟩)) Qi))))))))))))), ?_⟩
    refine Qt Z Z (Qh (E := (Qc .i64)) (ys := [2]) (eX.f1).f9 S22.h Z3 Z (by decide) Z Z Z Z ⟨[O 2], [], Z, Z, Z⟩ Z aH ?_)
    intro bz ri h5
    refine ⟨(Qa (U Z Z (Zm (v := Vq a) Z Z ⟨Z, Z⟩)) (Qa (U Z Z (Zm (v := Vq a) Z Z ⟨Z, Z⟩)) (Qa (U Z Z (Zm (v := Vq a) Z Z ⟨Z, Z⟩)) (Qa (U Z Z (Zm (v := Vq a) Z Z ⟨Z, Z⟩)) (Qa (U Z Z (Qb Z Z ⟨Z, Z⟩)) (Qa (U Z Z (Zp F29_0.h Z Z Z ⟨Z, Z⟩)) (Qa (U Z Z (Zp F27_1.h Z Z Z ⟨Z, Z⟩)) (Qa (U Z Z (Zn (h5.f8) A22.h Z Z Z ⟨Z, Z⟩)) Qi)))))))), ?_⟩
    refine Qt Z Z (Qh (E := (Qc .i64)) (ys := [0]) (h5.f1).f9 S22.h Z3 Z (by decide) Z Z Z Z ⟨[O 0], [], Z, Z, Z⟩ Z a1 ?_)
    intro cx rj eY
    refine ⟨(Qa (U Z Z (Zm (v := Vq a) Z Z ⟨Z, Z⟩)) (Qa (U Z Z (Zm (v := Vq a) Z Z ⟨Z, Z⟩)) (Qa (U Z Z (Zm (v := Vq a) Z Z ⟨Z, Z⟩)) Qi))), ?_⟩
    refine Qo Z Z (Qb Z Z ⟨Z, ?_⟩)
    refine Qo Z Z (Zp F29_0.h Z Z Z ⟨Z, ?_⟩)
    refine Qo Z Z (Zp F27_0.h Z Z Z ⟨Z, ?_⟩)
    refine Qt Z Z (Qe (ds := [bz]) (es := [bz, o, m, j, d, i, l]) eY.f8 A22.h Z Z Z (Qj ((eY.f8).f2).arr_one) (Zj ((eY.f8).f2).arr_one Qk) (Nat.le_of_ble_eq_true Z) Z ?_)
    intro rk eZ
    refine ⟨(Qa (U Z Z (Zm (v := Vq a) Z Z ⟨Z, Z⟩)) (Qa (U Z Z (Zm (v := Vq a) Z Z ⟨Z, Z⟩)) Qi)), ?_⟩
    refine Qo Z Z (Qb Z Z ⟨Z, ?_⟩)
    refine Qo Z Z (Zp F29_0.h Z Z Z ⟨Z, ?_⟩)
    refine Qo Z Z (Zp F27_1.h Z Z Z ⟨Z, ?_⟩)
    refine Qt Z Z (Qe (ds := [cx]) (es := [bz, cx, m, j, d, i, l]) eZ A22.h Z Z Z (Qj (eZ.f1).arr_one) (Zj (eZ.f1).arr_one Qk) (Nat.le_of_ble_eq_true Z) Z ?_)
    intro rl kS
    refine ⟨(Qa (U Z Z (Zm (v := Vq a) Z Z ⟨Z, Z⟩)) Qi), ?_⟩
    refine Q5 (Za Z Z (Qb Z Z (Za Z Z (Zp F29_0.h Z Z Z (Za Z Z (Zp F27_2.h Z Z Z ?_))))))
    have h6 := St.boxArr (E := encFact) (xs := [(⟨(b.Task.Vars.length : Int), 1⟩ : Fact)]) kS.f3 ⟨[O ((b.Task.Vars.length : Int)), O 1], [], rfl, ⟨[O ((b.Task.Vars.length : Int))], [O 1], rfl, rfl, rfl⟩, rfl⟩ (by simp [maxLen])
    refine Za Z Z (Qe (ds := [Vs (some ⟨aM, 0, none⟩) 1 1]) (es := [bz, cx, Vs (some ⟨aM, 0, none⟩) 1 1, j, d, i, l]) h6.f1 A24.h Z Z Z Z (Zj ((h6.f1).f1).arr_one Qk) (Nat.le_of_ble_eq_true Z) Z ?_)
    intro rm kT
    refine Zb (Ze ?_)
    exact ⟨ad, bz, cx, (Vs (some ⟨aM, 0, none⟩) 1 1), (Zv _), (((((((((((kT.f1).f11).f11).f11).f5).f6).f6).f11).f11).f11).f11).f11, (Fx.mk)⟩
   refine Qt Z Z (Exec.buildSlice (Te := 3) (cs := [O 0]) bV Z (Qd (c := [O 0]) (Qf Z Z) Qg) (fun _ => by kernel_rfl) ?_)
   intro nG rn fa
   refine ⟨(Qa (U Z Z (Zm (v := Vq a) Z Z ⟨Z, Z⟩)) (Qa (U Z Z (Zm (v := Vq a) Z Z ⟨Z, Z⟩)) (Qa (U Z Z (Zm (v := Vq a) Z Z ⟨Z, Z⟩)) (Qa (U Z Z (Zm (v := Vq a) Z Z ⟨Z, Z⟩)) (Qa (U Z Z (Qb Z Z ⟨Z, Z⟩)) (Qa (U Z Z (Zp F29_0.h Z Z Z ⟨Z, Z⟩)) (Qa (U Z Z (Zp F27_0.h Z Z Z ⟨Z, Z⟩)) (Qa (U Z Z (Zn (fa.f7) A22.h Z Z Z ⟨Z, Z⟩)) (Qa (U Z Z (Zm (v := Vq a) Z Z ⟨Z, Z⟩)) (Qa (U Z Z (Qb Z Z ⟨Z, Z⟩)) (Qa (U Z Z (Zp F29_0.h Z Z Z ⟨Z, Z⟩)) (Qa (U Z Z (Zp F27_1.h Z Z Z ⟨Z, Z⟩)) (Qa (U Z Z (Zn (fa.f7) A22.h Z Z Z ⟨Z, Z⟩)) Qi))))))))))))), ?_⟩
   refine Qt Z Z (Exec.buildSlice (Te := 3) (cs := [O 2]) fa Z (Qd (c := [O 2]) (Qf Z Z) Qg) (fun _ => by kernel_rfl) ?_)
   intro nH ro fb
   refine ⟨(Qa (U Z Z (Zm (v := Vq a) Z Z ⟨Z, Z⟩)) (Qa (U Z Z (Zm (v := Vq a) Z Z ⟨Z, Z⟩)) (Qa (U Z Z (Zm (v := Vq a) Z Z ⟨Z, Z⟩)) (Qa (U Z Z (Zm (v := Vq a) Z Z ⟨Z, Z⟩)) (Qa (U Z Z (Qb Z Z ⟨Z, Z⟩)) (Qa (U Z Z (Zp F29_0.h Z Z Z ⟨Z, Z⟩)) (Qa (U Z Z (Zp F27_0.h Z Z Z ⟨Z, Z⟩)) (Qa (U Z Z (Zn (fb.f8) A22.h Z Z Z ⟨Z, Z⟩)) (Qa (U Z Z (Zm (v := Vq a) Z Z ⟨Z, Z⟩)) (Qa (U Z Z (Qb Z Z ⟨Z, Z⟩)) (Qa (U Z Z (Zp F29_0.h Z Z Z ⟨Z, Z⟩)) (Qa (U Z Z (Zp F27_1.h Z Z Z ⟨Z, Z⟩)) (Qa (U Z Z (Zn (fb.f8) A22.h Z Z Z ⟨Z, Z⟩)) Qi))))))))))))), ?_⟩
   refine Qt Z Z (Qh (E := (Qc .i64)) (ys := [2]) fb.f9 S22.h Z3 Z (by decide) Z Z Z Z ⟨[O 2], [], Z, Z, Z⟩ Z aH ?_)
   intro b0 rp h7
   refine ⟨(Qa (U Z Z (Zm (v := Vq a) Z Z ⟨Z, Z⟩)) (Qa (U Z Z (Zm (v := Vq a) Z Z ⟨Z, Z⟩)) (Qa (U Z Z (Zm (v := Vq a) Z Z ⟨Z, Z⟩)) (Qa (U Z Z (Zm (v := Vq a) Z Z ⟨Z, Z⟩)) (Qa (U Z Z (Qb Z Z ⟨Z, Z⟩)) (Qa (U Z Z (Zp F29_0.h Z Z Z ⟨Z, Z⟩)) (Qa (U Z Z (Zp F27_1.h Z Z Z ⟨Z, Z⟩)) (Qa (U Z Z (Zn (h7.f8) A22.h Z Z Z ⟨Z, Z⟩)) Qi)))))))), ?_⟩
   refine Qt Z Z (Qh (E := (Qc .i64)) (ys := [0]) (h7.f1).f9 S22.h Z3 Z (by decide) Z Z Z Z ⟨[O 0], [], Z, Z, Z⟩ Z a1 ?_)
   intro cy rq fc
   refine ⟨(Qa (U Z Z (Zm (v := Vq a) Z Z ⟨Z, Z⟩)) (Qa (U Z Z (Zm (v := Vq a) Z Z ⟨Z, Z⟩)) (Qa (U Z Z (Zm (v := Vq a) Z Z ⟨Z, Z⟩)) Qi))), ?_⟩
   refine Qo Z Z (Qb Z Z ⟨Z, ?_⟩)
   refine Qo Z Z (Zp F29_0.h Z Z Z ⟨Z, ?_⟩)
   refine Qo Z Z (Zp F27_0.h Z Z Z ⟨Z, ?_⟩)
   refine Qt Z Z (Qe (ds := [b0]) (es := [b0, o, m, j, d, i, l]) fc.f8 A22.h Z Z Z (Qj ((fc.f8).f2).arr_one) (Zj ((fc.f8).f2).arr_one Qk) (Nat.le_of_ble_eq_true Z) Z ?_)
   intro rr fd
   refine ⟨(Qa (U Z Z (Zm (v := Vq a) Z Z ⟨Z, Z⟩)) (Qa (U Z Z (Zm (v := Vq a) Z Z ⟨Z, Z⟩)) Qi)), ?_⟩
   refine Qo Z Z (Qb Z Z ⟨Z, ?_⟩)
   refine Qo Z Z (Zp F29_0.h Z Z Z ⟨Z, ?_⟩)
   refine Qo Z Z (Zp F27_1.h Z Z Z ⟨Z, ?_⟩)
   refine Qt Z Z (Qe (ds := [cy]) (es := [b0, cy, m, j, d, i, l]) fd A22.h Z Z Z (Qj (fd.f1).arr_one) (Zj (fd.f1).arr_one Qk) (Nat.le_of_ble_eq_true Z) Z ?_)
   intro rs kU
   refine ⟨(Qa (U Z Z (Zm (v := Vq a) Z Z ⟨Z, Z⟩)) Qi), ?_⟩
   refine Q5 (Za Z Z (Qb Z Z (Za Z Z (Zp F29_0.h Z Z Z (Za Z Z (Zp F27_2.h Z Z Z ?_))))))
   have h8 := St.boxArr (E := encFact) (xs := [(⟨(b.Task.Vars.length : Int), 1⟩ : Fact)]) kU.f3 ⟨[O ((b.Task.Vars.length : Int)), O 1], [], rfl, ⟨[O ((b.Task.Vars.length : Int))], [O 1], rfl, rfl, rfl⟩, rfl⟩ (by simp [maxLen])
   refine Za Z Z (Qe (ds := [Vs (some ⟨aM, 0, none⟩) 1 1]) (es := [b0, cy, Vs (some ⟨aM, 0, none⟩) 1 1, j, d, i, l]) h8.f1 A24.h Z Z Z Z (Zj ((h8.f1).f1).arr_one Qk) (Nat.le_of_ble_eq_true Z) Z ?_)
   intro rt kV
   refine Zb (Ze ?_)
   exact ⟨ad, b0, cy, (Vs (some ⟨aM, 0, none⟩) 1 1), (Zv _), (((((((((((kV.f1).f11).f11).f11).f5).f6).f6).f11).f11).f11).f11).f11, (Fx.mk)⟩
  intro o9 ru jc
  obtain ⟨fT, ae, af, ag, aF, h9, ⟨oA, rfl⟩⟩ := jc
  refine (Ze (Zc (Zc (Zd (Za Z Z (Zm (v := Vq p) Z Z (Za Z Z (Qb Z Z (Za Z Z (Zp F67_0.h Z Z Z (Za Z Z (Zp F44_3.h Z Z Z ?_))))))))))))
  refine Za Z Z (Zn (h9) A41.h Z Z Z (Za Z Z (Zr S41.h Z Z (a5.mono (Zt (Zt x a6) aF)) (Za Z Z (Zm (v := O 0) Z Z (Zb (Ze ?_)))))))
  obtain ⟨gr, iP, lT, lL, lD⟩ := Qu hm
  refine Qs (M := fun f' w' => ∃ s', (gr = .next s' ∨ gr = .brk s') ∧ (QO fun (hY : (List Op)) (hZ : (List Int)) => ∃ (i0 : PHeap) (cz : Value) (c0 : Value), PHeap.le fT i0 ∧ St w0 i0 (Res.box p 67 [aw, ax, ay, ac, az, y, z, aa, ab] :: Res.arr (Qc .i64) 3 y n.vars :: Res.arr encFact 51 z n.atoms :: Res.arr encBool 4 aa n.grouped :: Res.arr (Qc .i64) 3 ab n.fluents :: Res.box a 29 [ae, af, ag, cz, d, i, c0] :: Res.arr (Qc .i64) 3 ae bb :: Res.arr (Qc .i64) 3 af bc :: Res.arr encFact 51 m b.Task.Goal :: Res.arr encOp 55 cz hY :: Res.arr (Qc .i64) 3 c0 hZ :: Res.arr encFact 51 ag [(⟨(b.Task.Vars.length : Int), 1⟩ : Fact)] :: H) w' ∧ Fx f' [(0, Vq p), (1, Vq a), (2, ap), (9, O ((b.Task.Vars.length : Int))), (91, ac), (92, O ((n.g.Goal.length : Int)))]) s') ?_ ?_
  ·refine YF (QC (fun k' s' f' w' => (QO fun (fF : (List Op)) (fG : (List Int)) => ∃ (i1 : PHeap) (bg : Value) (bh : Value), PHeap.le fT i1 ∧ St w0 i1 (Res.box p 67 [aw, ax, ay, ac, az, y, z, aa, ab] :: Res.arr (Qc .i64) 3 y n.vars :: Res.arr encFact 51 z n.atoms :: Res.arr encBool 4 aa n.grouped :: Res.arr (Qc .i64) 3 ab n.fluents :: Res.box a 29 [ae, af, ag, bg, d, i, bh] :: Res.arr (Qc .i64) 3 ae bb :: Res.arr (Qc .i64) 3 af bc :: Res.arr encFact 51 m b.Task.Goal :: Res.arr encOp 55 bg fF :: Res.arr (Qc .i64) 3 bh fG :: Res.arr encFact 51 ag [(⟨(b.Task.Vars.length : Int), 1⟩ : Fact)] :: H) w' ∧ Fx f' [(93, O (k' : Int)), (0, Vq p), (1, Vq a), (2, ap), (9, O ((b.Task.Vars.length : Int))), (91, ac), (92, O ((n.g.Goal.length : Int)))]) s') iP ?_ ?_ ?_)
   ·have kW := h9.f11
    exact ⟨fT, j, l, (Zv _), ((((((((((kW.f11).f11).f11).f11).f11).f11).f11).f11).f11).f11).f11, (Fx.mk)⟩
   ·intro ce nn gs oB rv lH iT aD lX
    obtain ⟨fF, fG⟩ := nn
    replace aD := Q3 aD
    obtain ⟨pl, bg, bh, aO, hA, ⟨oC, rfl⟩⟩ := iT
    refine Zc (Zd (Za Z Z (Zq Z Z Z (Zb (Ze (Zc (YT (Zx (decide_eq_true (by omega))) (JG (Ze (Zc ?_))))))))))
    refine YF (Zc (Zd ?_))
    obtain ⟨u0, m7, aD⟩ := Zg aD
    refine Za Z Z (QJ S41.h Z Z Z (a5.mono (Zt (Zt (Zt x a6) aF) aO)) m7 ?_)
    intro nI ph iL
    refine Za Z Z (Zw (E := encCond) hA A85.h Z Z Z iL ?_)
    intro pu m8
    obtain ⟨fX, fY, fZ, rfl, ip, iq, ir⟩ := KJ.1 m8
    refine Za Z Z (Exec.alloc (cs := [Vn, Vn, Vn]) hA Z85 Z Z ?_)
    intro nJ rx kX
    refine Za Z Z (Qe (ds := [fX, fY, fZ]) (es := [fX, fY, fZ]) kX A85.h Z Z Z Z (Zj ip.one (Zj iq.one (Zj ir.one Qk))) (Nat.le_of_ble_eq_true Z) Z ?_)
    intro ry hB
    refine Zb (Ze (Zc (Zd (Za Z Z (Zm (v := Vq p) Z Z (Za Z Z (Jy (ds := [fX, fY, fZ]) (hB) A85.h Z Z Z (Za Z Z (Zm (v := ap) Z Z ?_)))))))))
    obtain ⟨go, m9, aD⟩ := Zg aD
    refine Za Z Z (Tc Z Z Z (Zi Z (Zi Z (Zi Z (Zi Z (Zi Z Qx))))) (YE m9 ((((hB.f5).f5).f5).f5).f5 (cW.mono (Zt (Zt (Zt x a6) aF) aO)) (cX.mono (Zt (Zt (Zt x a6) aF) aO)) (cY.mono (Zt (Zt (Zt x a6) aF) aO)) (a5.mono (Zt (Zt (Zt x a6) aF) aO)) (cZ.mono (Zt (Zt (Zt x a6) aF) aO)) ip iq ir (SliceRep.nil _ _) (da.mono (Zt (Zt (Zt x a6) aF) aO)) (SliceRep.nil _ _)).r ?_)
    rintro gd rz ⟨fU, _, ia, kY, rfl, fQ⟩
    refine Za Z Z (Zr S119.h Z Z fQ (Za Z Z (Zm (v := O 0) Z Z (Zb (Ze ?_)))))
    obtain ⟨gu, iQ, lU, lM, lE⟩ := Qu aD
    refine Qs (M := fun f' w' => ∃ s', (gu = .next s' ∨ gu = .brk s') ∧ (QO fun (ib : (List Op)) (ic : (List Int)) => ∃ (i2 : PHeap) (c1 : Value) (c2 : Value), PHeap.le fU i2 ∧ St w0 i2 (Res.box p 67 [aw, ax, ay, ac, az, y, z, aa, ab] :: Res.arr (Qc .i64) 3 y n.vars :: Res.arr encFact 51 z n.atoms :: Res.arr encBool 4 aa n.grouped :: Res.arr (Qc .i64) 3 ab n.fluents :: Res.box a 29 [ae, af, ag, c1, d, i, c2] :: Res.arr (Qc .i64) 3 ae bb :: Res.arr (Qc .i64) 3 af bc :: Res.arr encFact 51 m b.Task.Goal :: Res.arr encOp 55 c1 ib :: Res.arr (Qc .i64) 3 c2 ic :: Res.arr encFact 51 ag [(⟨(b.Task.Vars.length : Int), 1⟩ : Fact)] :: H) w' ∧ Fx f' [(0, Vq p), (1, Vq a), (2, ap), (9, O ((b.Task.Vars.length : Int))), (91, ac), (92, O ((n.g.Goal.length : Int))), (93, O ((ce : Int))), (100, gd), (101, O ((go.length : Int)))]) s') ?_ ?_
    ·refine YF (QC (fun k' s' f' w' => (QO fun (fH : (List Op)) (fI : (List Int)) => ∃ (i3 : PHeap) (bi : Value) (aK : Value), PHeap.le fU i3 ∧ St w0 i3 (Res.box p 67 [aw, ax, ay, ac, az, y, z, aa, ab] :: Res.arr (Qc .i64) 3 y n.vars :: Res.arr encFact 51 z n.atoms :: Res.arr encBool 4 aa n.grouped :: Res.arr (Qc .i64) 3 ab n.fluents :: Res.box a 29 [ae, af, ag, bi, d, i, aK] :: Res.arr (Qc .i64) 3 ae bb :: Res.arr (Qc .i64) 3 af bc :: Res.arr encFact 51 m b.Task.Goal :: Res.arr encOp 55 bi fH :: Res.arr (Qc .i64) 3 aK fI :: Res.arr encFact 51 ag [(⟨(b.Task.Vars.length : Int), 1⟩ : Fact)] :: H) w' ∧ Fx f' [(102, O (k' : Int)), (0, Vq p), (1, Vq a), (2, ap), (9, O ((b.Task.Vars.length : Int))), (91, ac), (92, O ((n.g.Goal.length : Int))), (93, O ((ce : Int))), (100, gd), (101, O ((go.length : Int)))]) s') iQ ?_ ?_ ?_)
     ·have kZ := (kY.f5).drop
      exact ⟨fU, bg, bh, (Zv _), (((((((((((kZ.f11).f11).f11).f11).f11).f11).f11).f11).f11).f11).f11).f11, (Fx.mk)⟩
     ·intro hW no gv oD r0 lI iU a3 lY
      obtain ⟨fH, fI⟩ := no
      replace a3 := Q3 a3
      obtain ⟨mT, bi, aK, fJ, aU, ⟨oE, rfl⟩⟩ := iU
      refine Zc (Zd (Za Z Z (Zq Z Z Z (Zb (Ze (Zc (YT (Zx (decide_eq_true (by omega))) (JG (Ze (Zc ?_))))))))))
      refine YF (Zc (Zd ?_))
      obtain ⟨b9, mA, a3⟩ := Zg a3
      refine Za Z Z (QJ S119.h Z Z Z (fQ.mono fJ) mA ?_)
      intro nK pi iM
      refine Za Z Z (Zw (E := (Qp encFact)) aU A24.h Z Z Z iM ?_)
      intro t mB
      have aW : SliceRep _ _ _ (b9) := QG.1 mB
      refine Za Z Z (Zo (v := t) Z Z (Zb (Ze (Zc (Zc (Zd (Za Z Z (Zm (v := Vq a) Z Z (Za Z Z (Qb Z Z (Za Z Z (Zp F29_3.h Z Z Z ?_))))))))))))
      refine Za Z Z (Zn (aU.f5) A22.h Z Z Z (Za Z Z (Q2 (aU.f10) S22.h Z Z (Za Z Z (Exec.eql Z Z Z (Zb (Ze ?_)))))))
      rcases JV a3 with ⟨bq, a3⟩ | ⟨bq, a3⟩
      ·refine Qd0 Z bq (Zc (Zd (Za Z Z (Zo (v := Vb false) Z Z (Zb (Ze (Qf8 (KN (Qbx (KN (KN (Qbx (KN (Qbx (KN (KN (Qbx (KN (KN ?_)))))))))))))))))))
       have ov := Zu a3
       subst gv
       have lP := lU _ (lY (by intro _ h; cases h))
       have ow := Zu lP
       subst gs
       have lQ := lT _ (lX (by intro _ h; cases h))
       have ox := Zu lQ
       subst r
       refine ⟨_, Qa5 Z, ?_⟩
       obtain ⟨mU, mj, la, mL⟩ := aU.f11.freezeArr
       exact ⟨mU, ag, ae, af, bi, aK, (Zt (Zt (Zt (Zt (Zt (Zt x a6) aF) aO) ia) fJ) mj), ((((((((((la.f10).f10).f10).f10).f10).f10).f10).f10).f10).f10).f10, Z, mL⟩
      refine Qd1 Z bq ?_
      replace bq := Zk bq
      refine JG (Ze ?_)
      obtain ⟨ml, ci, a3⟩ := Zg a3
      obtain ⟨mm, cj, a3⟩ := Zg a3
      refine Qs (M := fun f' w' => ∃ (i4 : PHeap) (c3 : Value) (c4 : Value), PHeap.le mT i4 ∧ St w0 i4 (Res.box p 67 [aw, ax, ay, ac, az, y, z, aa, ab] :: Res.arr (Qc .i64) 3 y n.vars :: Res.arr encFact 51 z n.atoms :: Res.arr encBool 4 aa n.grouped :: Res.arr (Qc .i64) 3 ab n.fluents :: Res.box a 29 [ae, af, ag, c3, d, i, c4] :: Res.arr (Qc .i64) 3 ae bb :: Res.arr (Qc .i64) 3 af bc :: Res.arr encFact 51 m b.Task.Goal :: Res.arr encOp 55 c3 ml :: Res.arr (Qc .i64) 3 c4 mm :: Res.arr encFact 51 ag [(⟨(b.Task.Vars.length : Int), 1⟩ : Fact)] :: H) w' ∧ Fx f' [(0, Vq p), (1, Vq a), (2, ap), (9, O ((b.Task.Vars.length : Int))), (91, ac), (92, O ((n.g.Goal.length : Int))), (93, O ((ce : Int))), (100, gd), (101, O ((go.length : Int))), (102, O ((hW : Int)))]) ?_ ?_
      ·refine KM (n0 := 24) (qs 0 10 (qs 14 4 (.alt (.e 10 [0, 1, 2, 3, 4, 5, 6, 7, 14, 15, 16, 17] (.q 11 (.alt (.e 12 [0, 1, 2, 3, 4, 5, 6, 14, 15, 16, 17] (.alt (.e 13 [0, 1, 14, 15, 16, 17] (.e 18 [0, 1, 14, 15, 16, 17] (.e 19 [0, 1] (qs 20 3 (.e 23 [1] .done))))) (.e 18 [0, 1, 2, 3, 4, 5, 6, 14, 15, 16, 17] (.e 13 [0, 1, 14, 15, 16, 17] (.e 19 [0, 1] (qs 20 3 (.e 23 [1] .done))))))) (.e 18 [0, 1, 2, 3, 4, 5, 6, 7, 14, 15, 16, 17, 11] (.e 12 [0, 1, 2, 3, 4, 5, 6, 14, 15, 16, 17] (.e 13 [0, 1, 14, 15, 16, 17] (.e 19 [0, 1] (qs 20 3 (.e 23 [1] .done))))))))) (.e 18 [0, 1, 2, 3, 4, 5, 6, 7, 8, 9, 14, 15, 16, 17] (.e 10 [0, 1, 2, 3, 4, 5, 6, 7, 14, 15, 16, 17] (.q 11 (.e 12 [0, 1, 2, 3, 4, 5, 6, 14, 15, 16, 17] (.e 13 [0, 1, 14, 15, 16, 17] (.e 19 [0, 1] (qs 20 3 (.e 23 [1] .done))))))))))) KL (by kernel_rfl) (by kernel_rfl) (Qo Z Z (Zm (v := Vq a) Z Z ⟨Z, ?_⟩))
       refine Qo Z Z (Zm (v := Vq a) Z Z ⟨Z, ?_⟩)
       refine Qo Z Z (Zm (v := Vq a) Z Z ⟨Z, ?_⟩)
       refine Qo Z Z (Qb Z Z ⟨Z, ?_⟩)
       refine Qo Z Z (Zp F29_0.h Z Z Z ⟨Z, ?_⟩)
       refine Qo Z Z (Zp F27_3.h Z Z Z ⟨Z, ?_⟩)
       refine Qo Z Z (Zn ((aU.drew).f5) A25.h Z Z Z ⟨Z, ?_⟩)
       refine Qo Z Z (Zm (v := t) Z Z ⟨Z, ?_⟩)
       refine Qo Z Z (Zm (v := O ((b.Task.Vars.length : Int))) Z Z ⟨Z, ?_⟩)
       refine Qo Z Z (Exec.build Z (Qd (c := [O ((b.Task.Vars.length : Int))]) (Qf Z Z) (Qd (c := [O 1]) (Qf Z Z) Qg)) (v := Value.agg #[Vn, O ((b.Task.Vars.length : Int)), O 1]) (fun _ => by kernel_rfl) ⟨Z, ?_⟩)
       refine Qo Z Z (Zm (v := Vq a) Z Z ⟨Z, ?_⟩)
       refine Qo Z Z (Qb Z Z ⟨Z, ?_⟩)
       refine Qo Z Z (Zp F29_3.h Z Z Z ⟨Z, ?_⟩)
       refine Qo Z Z (Zn ((aU.drew).f5) A22.h Z Z Z ⟨Z, ?_⟩)
       refine QH ?_ ?_
       ·refine Qt Z Z (Exec.buildSlice (Te := 60) (cs := [Vn, O ((b.Task.Vars.length : Int)), O 1]) aU.drew Z (Qd (c := [Vn, O ((b.Task.Vars.length : Int)), O 1]) (Qf Z Z) Qg) (fun _ => by kernel_rfl) ?_)
        intro an r1 bX
        refine ⟨(Qa (U Z Z (Zm (v := Vq a) Z Z ⟨Z, Z⟩)) (Qa (U Z Z (Zm (v := Vq a) Z Z ⟨Z, Z⟩)) (Qa (U Z Z (Zm (v := Vq a) Z Z ⟨Z, Z⟩)) (Qa (U Z Z (Qb Z Z ⟨Z, Z⟩)) (Qa (U Z Z (Zp F29_0.h Z Z Z ⟨Z, Z⟩)) (Qa (U Z Z (Zp F27_3.h Z Z Z ⟨Z, Z⟩)) (Qa (U Z Z (Zn (bX.f6) A25.h Z Z Z ⟨Z, Z⟩)) (Qa (U Z Z (Zm (v := t) Z Z ⟨Z, Z⟩)) (Qa (U Z Z (Zm (v := Vq a) Z Z ⟨Z, Z⟩)) (Qa (U Z Z (Qb Z Z ⟨Z, Z⟩)) (Qa (U Z Z (Zp F29_3.h Z Z Z ⟨Z, Z⟩)) (Qa (U Z Z (Zn (bX.f6) A22.h Z Z Z ⟨Z, Z⟩)) Qi)))))))))))), ?_⟩
        refine Qo Z Z (Exec.build Z (Qd (c := [t]) (Qf Z (Qj aW.one)) (Qd (c := [Vs (some ⟨an, 0, none⟩) 1 1]) (Qf Z Z) Qg)) (v := Value.agg #[Value.string (⟨#[]⟩), O 0, t, Vs (some ⟨an, 0, none⟩) 1 1]) (fun _ => by kernel_rfl) ⟨Z, ?_⟩)
        refine QH ?_ ?_
        ·have lb := St.boxArr (E := encEffect) (xs := [(⟨[], (b.Task.Vars.length : Int), 1⟩ : Effect)]) bX ⟨[Vn, O ((b.Task.Vars.length : Int)), O 1], [], rfl, ⟨[Vn], [O ((b.Task.Vars.length : Int)), O 1], rfl, ⟨_, rfl, (SliceRep.nil _ _)⟩, ⟨[O ((b.Task.Vars.length : Int))], [O 1], rfl, rfl, rfl⟩⟩, rfl⟩ (by simp [maxLen])
         obtain ⟨i5, cg, lc, it⟩ := lb.freezeArr
         refine Qt Z Z (Exec.buildSlice (Te := 55) (cs := [Value.string (⟨#[]⟩), O 0, t, Vs (some ⟨an, 0, none⟩) 1 1]) lc Z (Qd (c := [Value.string (⟨#[]⟩), O 0, t, Vs (some ⟨an, 0, none⟩) 1 1]) (Qf Z Z) Qg) (fun _ => by kernel_rfl) ?_)
         intro nL r2 bY
         refine ⟨(Qa (U Z Z (Zm (v := Vq a) Z Z ⟨Z, Z⟩)) (Qa (U Z Z (Zm (v := Vq a) Z Z ⟨Z, Z⟩)) (Qa (U Z Z (Zm (v := Vq a) Z Z ⟨Z, Z⟩)) (Qa (U Z Z (Qb Z Z ⟨Z, Z⟩)) (Qa (U Z Z (Zp F29_0.h Z Z Z ⟨Z, Z⟩)) (Qa (U Z Z (Zp F27_3.h Z Z Z ⟨Z, Z⟩)) (Qa (U Z Z (Zn (bY.f6) A25.h Z Z Z ⟨Z, Z⟩)) (Qa (U Z Z (Zm (v := Vq a) Z Z ⟨Z, Z⟩)) (Qa (U Z Z (Qb Z Z ⟨Z, Z⟩)) (Qa (U Z Z (Zp F29_3.h Z Z Z ⟨Z, Z⟩)) (Qa (U Z Z (Zn (bY.f6) A22.h Z Z Z ⟨Z, Z⟩)) Qi))))))))))), ?_⟩
         refine QH ?_ ?_
         ·have ld := bY.f10
          refine Qt Z Z (Qh (E := encOp) (ys := [(⟨⟨#[]⟩, 0, b9, [(⟨[], (b.Task.Vars.length : Int), 1⟩ : Effect)]⟩ : Op)]) ld S25.h Z55 Z (by decide) Z Z Z Z ⟨[Value.string (⟨#[]⟩), O 0, t, Vs (some ⟨an, 0, none⟩) 1 1], [], Z, ⟨[Value.string (⟨#[]⟩)], [O 0, t, Vs (some ⟨an, 0, none⟩) 1 1], Z, Z, ⟨[O 0], [t, Vs (some ⟨an, 0, none⟩) 1 1], Z, Z, ⟨[t], [Vs (some ⟨an, 0, none⟩) 1 1], Z, ⟨_, Z, (aW.mono cg)⟩, ⟨_, Z, it⟩⟩⟩⟩, Z⟩ Z ci ?_)
          intro c5 r3 hC
          refine ⟨(Qa (U Z Z (Zm (v := Vq a) Z Z ⟨Z, Z⟩)) (Qa (U Z Z (Zm (v := Vq a) Z Z ⟨Z, Z⟩)) (Qa (U Z Z (Zm (v := Vq a) Z Z ⟨Z, Z⟩)) (Qa (U Z Z (Qb Z Z ⟨Z, Z⟩)) (Qa (U Z Z (Zp F29_3.h Z Z Z ⟨Z, Z⟩)) (Qa (U Z Z (Zn (hC.f6) A22.h Z Z Z ⟨Z, Z⟩)) Qi)))))), ?_⟩
          refine Qt Z Z (Exec.buildSlice (Te := 3) (cs := [O ((-1))]) hC Z (Qd (c := [O ((-1))]) (Qf Z Z) Qg) (fun _ => by kernel_rfl) ?_)
          intro nM r4 hD
          refine ⟨(Qa (U Z Z (Zm (v := Vq a) Z Z ⟨Z, Z⟩)) (Qa (U Z Z (Zm (v := Vq a) Z Z ⟨Z, Z⟩)) (Qa (U Z Z (Zm (v := Vq a) Z Z ⟨Z, Z⟩)) (Qa (U Z Z (Qb Z Z ⟨Z, Z⟩)) (Qa (U Z Z (Zp F29_3.h Z Z Z ⟨Z, Z⟩)) (Qa (U Z Z (Zn (hD.f7) A22.h Z Z Z ⟨Z, Z⟩)) Qi)))))), ?_⟩
          refine Qt Z Z (Qh (E := (Qc .i64)) (ys := [(-1)]) hD.f11 S22.h Z3 Z (by decide) Z Z Z Z ⟨[O ((-1))], [], Z, Z, Z⟩ Z cj ?_)
          intro gf r5 fe
          refine ⟨(Qa (U Z Z (Zm (v := Vq a) Z Z ⟨Z, Z⟩)) (Qa (U Z Z (Zm (v := Vq a) Z Z ⟨Z, Z⟩)) Qi)), ?_⟩
          refine Qo Z Z (Qb Z Z ⟨Z, ?_⟩)
          refine Qo Z Z (Zp F29_0.h Z Z Z ⟨Z, ?_⟩)
          refine Qo Z Z (Zp F27_3.h Z Z Z ⟨Z, ?_⟩)
          refine Qt Z Z (Qe (ds := [c5]) (es := [ae, af, ag, c5, d, i, aK]) fe.f7 A25.h Z Z Z (Qj ((fe.f7).f2).arr_one) (Zj ((fe.f7).f2).arr_one Qk) (Nat.le_of_ble_eq_true Z) Z ?_)
          intro r6 ff
          refine ⟨(Qa (U Z Z (Zm (v := Vq a) Z Z ⟨Z, Z⟩)) Qi), ?_⟩
          refine Q5 (Za Z Z (Qb Z Z (Za Z Z (Zp F29_3.h Z Z Z (Za Z Z (Qe (ds := [gf]) (es := [ae, af, ag, c5, d, i, gf]) ff A22.h Z Z Z (Qj (ff.f1).arr_one) (Zj (ff.f1).arr_one Qk) (Nat.le_of_ble_eq_true Z) Z ?_))))))
          intro r7 lf
          refine Zb (Ze ?_)
          exact ⟨i5, c5, gf, cg, (((((((((((lf.f11).f2).f3).f11).f11).f11).f6).f11).f11).f11).f11).f11, (Fx.mk)⟩
         refine Qt Z Z (Exec.buildSlice (Te := 3) (cs := [O ((-1))]) bY Z (Qd (c := [O ((-1))]) (Qf Z Z) Qg) (fun _ => by kernel_rfl) ?_)
         intro nN r8 fg
         refine ⟨(Qa (U Z Z (Zm (v := Vq a) Z Z ⟨Z, Z⟩)) (Qa (U Z Z (Zm (v := Vq a) Z Z ⟨Z, Z⟩)) (Qa (U Z Z (Zm (v := Vq a) Z Z ⟨Z, Z⟩)) (Qa (U Z Z (Qb Z Z ⟨Z, Z⟩)) (Qa (U Z Z (Zp F29_0.h Z Z Z ⟨Z, Z⟩)) (Qa (U Z Z (Zp F27_3.h Z Z Z ⟨Z, Z⟩)) (Qa (U Z Z (Zn (fg.f7) A25.h Z Z Z ⟨Z, Z⟩)) (Qa (U Z Z (Zm (v := Vq a) Z Z ⟨Z, Z⟩)) (Qa (U Z Z (Qb Z Z ⟨Z, Z⟩)) (Qa (U Z Z (Zp F29_3.h Z Z Z ⟨Z, Z⟩)) (Qa (U Z Z (Zn (fg.f7) A22.h Z Z Z ⟨Z, Z⟩)) Qi))))))))))), ?_⟩
         refine Qt Z Z (Qh (E := encOp) (ys := [(⟨⟨#[]⟩, 0, b9, [(⟨[], (b.Task.Vars.length : Int), 1⟩ : Effect)]⟩ : Op)]) (fg.f1).f11 S25.h Z55 Z (by decide) Z Z Z Z ⟨[Value.string (⟨#[]⟩), O 0, t, Vs (some ⟨an, 0, none⟩) 1 1], [], Z, ⟨[Value.string (⟨#[]⟩)], [O 0, t, Vs (some ⟨an, 0, none⟩) 1 1], Z, Z, ⟨[O 0], [t, Vs (some ⟨an, 0, none⟩) 1 1], Z, Z, ⟨[t], [Vs (some ⟨an, 0, none⟩) 1 1], Z, ⟨_, Z, (aW.mono cg)⟩, ⟨_, Z, it⟩⟩⟩⟩, Z⟩ Z ci ?_)
         intro c6 r9 hE
         refine ⟨(Qa (U Z Z (Zm (v := Vq a) Z Z ⟨Z, Z⟩)) (Qa (U Z Z (Zm (v := Vq a) Z Z ⟨Z, Z⟩)) (Qa (U Z Z (Zm (v := Vq a) Z Z ⟨Z, Z⟩)) (Qa (U Z Z (Qb Z Z ⟨Z, Z⟩)) (Qa (U Z Z (Zp F29_3.h Z Z Z ⟨Z, Z⟩)) (Qa (U Z Z (Zn (hE.f7) A22.h Z Z Z ⟨Z, Z⟩)) Qi)))))), ?_⟩
         refine Qt Z Z (Qh (E := (Qc .i64)) (ys := [(-1)]) (hE.f1).f11 S22.h Z3 Z (by decide) Z Z Z Z ⟨[O ((-1))], [], Z, Z, Z⟩ Z cj ?_)
         intro gg rA fh
         refine ⟨(Qa (U Z Z (Zm (v := Vq a) Z Z ⟨Z, Z⟩)) (Qa (U Z Z (Zm (v := Vq a) Z Z ⟨Z, Z⟩)) Qi)), ?_⟩
         refine Qo Z Z (Qb Z Z ⟨Z, ?_⟩)
         refine Qo Z Z (Zp F29_0.h Z Z Z ⟨Z, ?_⟩)
         refine Qo Z Z (Zp F27_3.h Z Z Z ⟨Z, ?_⟩)
         refine Qt Z Z (Qe (ds := [c6]) (es := [ae, af, ag, c6, d, i, aK]) fh.f7 A25.h Z Z Z (Qj ((fh.f7).f2).arr_one) (Zj ((fh.f7).f2).arr_one Qk) (Nat.le_of_ble_eq_true Z) Z ?_)
         intro rB fi
         refine ⟨(Qa (U Z Z (Zm (v := Vq a) Z Z ⟨Z, Z⟩)) Qi), ?_⟩
         refine Q5 (Za Z Z (Qb Z Z (Za Z Z (Zp F29_3.h Z Z Z (Za Z Z (Qe (ds := [gg]) (es := [ae, af, ag, c6, d, i, gg]) fi A22.h Z Z Z (Qj (fi.f1).arr_one) (Zj (fi.f1).arr_one Qk) (Nat.le_of_ble_eq_true Z) Z ?_))))))
         intro rC lg
         refine Zb (Ze ?_)
         exact ⟨i5, c6, gg, cg, (((((((((((lg.f11).f2).f3).f11).f11).f11).f6).f11).f11).f11).f11).f11, (Fx.mk)⟩
        refine Qt Z Z (Exec.buildSlice (Te := 3) (cs := [O ((-1))]) bX Z (Qd (c := [O ((-1))]) (Qf Z Z) Qg) (fun _ => by kernel_rfl) ?_)
        intro nO rD fj
        refine ⟨(Qa (U Z Z (Zm (v := Vq a) Z Z ⟨Z, Z⟩)) (Qa (U Z Z (Zm (v := Vq a) Z Z ⟨Z, Z⟩)) (Qa (U Z Z (Zm (v := Vq a) Z Z ⟨Z, Z⟩)) (Qa (U Z Z (Qb Z Z ⟨Z, Z⟩)) (Qa (U Z Z (Zp F29_0.h Z Z Z ⟨Z, Z⟩)) (Qa (U Z Z (Zp F27_3.h Z Z Z ⟨Z, Z⟩)) (Qa (U Z Z (Zn (fj.f7) A25.h Z Z Z ⟨Z, Z⟩)) (Qa (U Z Z (Zm (v := t) Z Z ⟨Z, Z⟩)) (Qa (U Z Z (Zm (v := Vq a) Z Z ⟨Z, Z⟩)) (Qa (U Z Z (Qb Z Z ⟨Z, Z⟩)) (Qa (U Z Z (Zp F29_3.h Z Z Z ⟨Z, Z⟩)) (Qa (U Z Z (Zn (fj.f7) A22.h Z Z Z ⟨Z, Z⟩)) (Qa (U Z Z (Exec.build Z (Qd (c := [t]) (Qf Z (Qj aW.one)) (Qd (c := [Vs (some ⟨an, 0, none⟩) 1 1]) (Qf Z Z) Qg)) (v := Value.agg #[Value.string (⟨#[]⟩), O 0, t, Vs (some ⟨an, 0, none⟩) 1 1]) (fun _ => by kernel_rfl) ⟨Z, Z⟩)) Qi))))))))))))), ?_⟩
        have lh := St.boxArr (E := encEffect) (xs := [(⟨[], (b.Task.Vars.length : Int), 1⟩ : Effect)]) fj.f1 ⟨[Vn, O ((b.Task.Vars.length : Int)), O 1], [], rfl, ⟨[Vn], [O ((b.Task.Vars.length : Int)), O 1], rfl, ⟨_, rfl, (SliceRep.nil _ _)⟩, ⟨[O ((b.Task.Vars.length : Int))], [O 1], rfl, rfl, rfl⟩⟩, rfl⟩ (by simp [maxLen])
        obtain ⟨mV, ie, li, mM⟩ := lh.freezeArr
        refine Qt Z Z (Exec.buildSlice (Te := 55) (cs := [Value.string (⟨#[]⟩), O 0, t, Vs (some ⟨an, 0, none⟩) 1 1]) li Z (Qd (c := [Value.string (⟨#[]⟩), O 0, t, Vs (some ⟨an, 0, none⟩) 1 1]) (Qf Z Z) Qg) (fun _ => by kernel_rfl) ?_)
        intro nP rE fk
        refine ⟨(Qa (U Z Z (Zm (v := Vq a) Z Z ⟨Z, Z⟩)) (Qa (U Z Z (Zm (v := Vq a) Z Z ⟨Z, Z⟩)) (Qa (U Z Z (Zm (v := Vq a) Z Z ⟨Z, Z⟩)) (Qa (U Z Z (Qb Z Z ⟨Z, Z⟩)) (Qa (U Z Z (Zp F29_0.h Z Z Z ⟨Z, Z⟩)) (Qa (U Z Z (Zp F27_3.h Z Z Z ⟨Z, Z⟩)) (Qa (U Z Z (Zn (fk.f7) A25.h Z Z Z ⟨Z, Z⟩)) (Qa (U Z Z (Zm (v := Vq a) Z Z ⟨Z, Z⟩)) (Qa (U Z Z (Qb Z Z ⟨Z, Z⟩)) (Qa (U Z Z (Zp F29_3.h Z Z Z ⟨Z, Z⟩)) (Qa (U Z Z (Zn (fk.f7) A22.h Z Z Z ⟨Z, Z⟩)) Qi))))))))))), ?_⟩
        refine Qt Z Z (Qh (E := encOp) (ys := [(⟨⟨#[]⟩, 0, b9, [(⟨[], (b.Task.Vars.length : Int), 1⟩ : Effect)]⟩ : Op)]) fk.f11 S25.h Z55 Z (by decide) Z Z Z Z ⟨[Value.string (⟨#[]⟩), O 0, t, Vs (some ⟨an, 0, none⟩) 1 1], [], Z, ⟨[Value.string (⟨#[]⟩)], [O 0, t, Vs (some ⟨an, 0, none⟩) 1 1], Z, Z, ⟨[O 0], [t, Vs (some ⟨an, 0, none⟩) 1 1], Z, Z, ⟨[t], [Vs (some ⟨an, 0, none⟩) 1 1], Z, ⟨_, Z, (aW.mono ie)⟩, ⟨_, Z, mM⟩⟩⟩⟩, Z⟩ Z ci ?_)
        intro c7 rF hF
        refine ⟨(Qa (U Z Z (Zm (v := Vq a) Z Z ⟨Z, Z⟩)) (Qa (U Z Z (Zm (v := Vq a) Z Z ⟨Z, Z⟩)) (Qa (U Z Z (Zm (v := Vq a) Z Z ⟨Z, Z⟩)) (Qa (U Z Z (Qb Z Z ⟨Z, Z⟩)) (Qa (U Z Z (Zp F29_3.h Z Z Z ⟨Z, Z⟩)) (Qa (U Z Z (Zn (hF.f7) A22.h Z Z Z ⟨Z, Z⟩)) Qi)))))), ?_⟩
        refine Qt Z Z (Qh (E := (Qc .i64)) (ys := [(-1)]) (hF.f1).f11 S22.h Z3 Z (by decide) Z Z Z Z ⟨[O ((-1))], [], Z, Z, Z⟩ Z cj ?_)
        intro gh rG fl
        refine ⟨(Qa (U Z Z (Zm (v := Vq a) Z Z ⟨Z, Z⟩)) (Qa (U Z Z (Zm (v := Vq a) Z Z ⟨Z, Z⟩)) Qi)), ?_⟩
        refine Qo Z Z (Qb Z Z ⟨Z, ?_⟩)
        refine Qo Z Z (Zp F29_0.h Z Z Z ⟨Z, ?_⟩)
        refine Qo Z Z (Zp F27_3.h Z Z Z ⟨Z, ?_⟩)
        refine Qt Z Z (Qe (ds := [c7]) (es := [ae, af, ag, c7, d, i, aK]) fl.f7 A25.h Z Z Z (Qj ((fl.f7).f2).arr_one) (Zj ((fl.f7).f2).arr_one Qk) (Nat.le_of_ble_eq_true Z) Z ?_)
        intro rH fm
        refine ⟨(Qa (U Z Z (Zm (v := Vq a) Z Z ⟨Z, Z⟩)) Qi), ?_⟩
        refine Q5 (Za Z Z (Qb Z Z (Za Z Z (Zp F29_3.h Z Z Z (Za Z Z (Qe (ds := [gh]) (es := [ae, af, ag, c7, d, i, gh]) fm A22.h Z Z Z (Qj (fm.f1).arr_one) (Zj (fm.f1).arr_one Qk) (Nat.le_of_ble_eq_true Z) Z ?_))))))
        intro rI lj
        refine Zb (Ze ?_)
        exact ⟨mV, c7, gh, ie, (((((((((((lj.f11).f2).f3).f11).f11).f11).f6).f11).f11).f11).f11).f11, (Fx.mk)⟩
       refine Qt Z Z (Exec.buildSlice (Te := 3) (cs := [O ((-1))]) aU.drew Z (Qd (c := [O ((-1))]) (Qf Z Z) Qg) (fun _ => by kernel_rfl) ?_)
       intro nQ rJ fn
       refine ⟨(Qa (U Z Z (Zm (v := Vq a) Z Z ⟨Z, Z⟩)) (Qa (U Z Z (Zm (v := Vq a) Z Z ⟨Z, Z⟩)) (Qa (U Z Z (Zm (v := Vq a) Z Z ⟨Z, Z⟩)) (Qa (U Z Z (Qb Z Z ⟨Z, Z⟩)) (Qa (U Z Z (Zp F29_0.h Z Z Z ⟨Z, Z⟩)) (Qa (U Z Z (Zp F27_3.h Z Z Z ⟨Z, Z⟩)) (Qa (U Z Z (Zn (fn.f6) A25.h Z Z Z ⟨Z, Z⟩)) (Qa (U Z Z (Zm (v := t) Z Z ⟨Z, Z⟩)) (Qa (U Z Z (Zm (v := O ((b.Task.Vars.length : Int))) Z Z ⟨Z, Z⟩)) (Qa (U Z Z (Exec.build Z (Qd (c := [O ((b.Task.Vars.length : Int))]) (Qf Z Z) (Qd (c := [O 1]) (Qf Z Z) Qg)) (v := Value.agg #[Vn, O ((b.Task.Vars.length : Int)), O 1]) (fun _ => by kernel_rfl) ⟨Z, Z⟩)) (Qa (U Z Z (Zm (v := Vq a) Z Z ⟨Z, Z⟩)) (Qa (U Z Z (Qb Z Z ⟨Z, Z⟩)) (Qa (U Z Z (Zp F29_3.h Z Z Z ⟨Z, Z⟩)) (Qa (U Z Z (Zn (fn.f6) A22.h Z Z Z ⟨Z, Z⟩)) Qi)))))))))))))), ?_⟩
       refine Qt Z Z (Exec.buildSlice (Te := 60) (cs := [Vn, O ((b.Task.Vars.length : Int)), O 1]) fn Z (Qd (c := [Vn, O ((b.Task.Vars.length : Int)), O 1]) (Qf Z Z) Qg) (fun _ => by kernel_rfl) ?_)
       intro aQ rK fo
       refine ⟨(Qa (U Z Z (Zm (v := Vq a) Z Z ⟨Z, Z⟩)) (Qa (U Z Z (Zm (v := Vq a) Z Z ⟨Z, Z⟩)) (Qa (U Z Z (Zm (v := Vq a) Z Z ⟨Z, Z⟩)) (Qa (U Z Z (Qb Z Z ⟨Z, Z⟩)) (Qa (U Z Z (Zp F29_0.h Z Z Z ⟨Z, Z⟩)) (Qa (U Z Z (Zp F27_3.h Z Z Z ⟨Z, Z⟩)) (Qa (U Z Z (Zn (fo.f7) A25.h Z Z Z ⟨Z, Z⟩)) (Qa (U Z Z (Zm (v := t) Z Z ⟨Z, Z⟩)) (Qa (U Z Z (Zm (v := Vq a) Z Z ⟨Z, Z⟩)) (Qa (U Z Z (Qb Z Z ⟨Z, Z⟩)) (Qa (U Z Z (Zp F29_3.h Z Z Z ⟨Z, Z⟩)) (Qa (U Z Z (Zn (fo.f7) A22.h Z Z Z ⟨Z, Z⟩)) Qi)))))))))))), ?_⟩
       refine Qo Z Z (Exec.build Z (Qd (c := [t]) (Qf Z (Qj aW.one)) (Qd (c := [Vs (some ⟨aQ, 0, none⟩) 1 1]) (Qf Z Z) Qg)) (v := Value.agg #[Value.string (⟨#[]⟩), O 0, t, Vs (some ⟨aQ, 0, none⟩) 1 1]) (fun _ => by kernel_rfl) ⟨Z, ?_⟩)
       have lk := St.boxArr (E := encEffect) (xs := [(⟨[], (b.Task.Vars.length : Int), 1⟩ : Effect)]) fo ⟨[Vn, O ((b.Task.Vars.length : Int)), O 1], [], rfl, ⟨[Vn], [O ((b.Task.Vars.length : Int)), O 1], rfl, ⟨_, rfl, (SliceRep.nil _ _)⟩, ⟨[O ((b.Task.Vars.length : Int))], [O 1], rfl, rfl, rfl⟩⟩, rfl⟩ (by simp [maxLen])
       obtain ⟨mW, ig, ll, mN⟩ := lk.freezeArr
       refine Qt Z Z (Exec.buildSlice (Te := 55) (cs := [Value.string (⟨#[]⟩), O 0, t, Vs (some ⟨aQ, 0, none⟩) 1 1]) ll Z (Qd (c := [Value.string (⟨#[]⟩), O 0, t, Vs (some ⟨aQ, 0, none⟩) 1 1]) (Qf Z Z) Qg) (fun _ => by kernel_rfl) ?_)
       intro nR rL fp
       refine ⟨(Qa (U Z Z (Zm (v := Vq a) Z Z ⟨Z, Z⟩)) (Qa (U Z Z (Zm (v := Vq a) Z Z ⟨Z, Z⟩)) (Qa (U Z Z (Zm (v := Vq a) Z Z ⟨Z, Z⟩)) (Qa (U Z Z (Qb Z Z ⟨Z, Z⟩)) (Qa (U Z Z (Zp F29_0.h Z Z Z ⟨Z, Z⟩)) (Qa (U Z Z (Zp F27_3.h Z Z Z ⟨Z, Z⟩)) (Qa (U Z Z (Zn (fp.f7) A25.h Z Z Z ⟨Z, Z⟩)) (Qa (U Z Z (Zm (v := Vq a) Z Z ⟨Z, Z⟩)) (Qa (U Z Z (Qb Z Z ⟨Z, Z⟩)) (Qa (U Z Z (Zp F29_3.h Z Z Z ⟨Z, Z⟩)) (Qa (U Z Z (Zn (fp.f7) A22.h Z Z Z ⟨Z, Z⟩)) Qi))))))))))), ?_⟩
       refine Qt Z Z (Qh (E := encOp) (ys := [(⟨⟨#[]⟩, 0, b9, [(⟨[], (b.Task.Vars.length : Int), 1⟩ : Effect)]⟩ : Op)]) fp.f11 S25.h Z55 Z (by decide) Z Z Z Z ⟨[Value.string (⟨#[]⟩), O 0, t, Vs (some ⟨aQ, 0, none⟩) 1 1], [], Z, ⟨[Value.string (⟨#[]⟩)], [O 0, t, Vs (some ⟨aQ, 0, none⟩) 1 1], Z, Z, ⟨[O 0], [t, Vs (some ⟨aQ, 0, none⟩) 1 1], Z, Z, ⟨[t], [Vs (some ⟨aQ, 0, none⟩) 1 1], Z, ⟨_, Z, (aW.mono ig)⟩, ⟨_, Z, mN⟩⟩⟩⟩, Z⟩ Z ci ?_)
       intro c8 rM hG
       refine ⟨(Qa (U Z Z (Zm (v := Vq a) Z Z ⟨Z, Z⟩)) (Qa (U Z Z (Zm (v := Vq a) Z Z ⟨Z, Z⟩)) (Qa (U Z Z (Zm (v := Vq a) Z Z ⟨Z, Z⟩)) (Qa (U Z Z (Qb Z Z ⟨Z, Z⟩)) (Qa (U Z Z (Zp F29_3.h Z Z Z ⟨Z, Z⟩)) (Qa (U Z Z (Zn (hG.f7) A22.h Z Z Z ⟨Z, Z⟩)) Qi)))))), ?_⟩
       refine Qt Z Z (Qh (E := (Qc .i64)) (ys := [(-1)]) (hG.f1).f11 S22.h Z3 Z (by decide) Z Z Z Z ⟨[O ((-1))], [], Z, Z, Z⟩ Z cj ?_)
       intro gi rN fq
       refine ⟨(Qa (U Z Z (Zm (v := Vq a) Z Z ⟨Z, Z⟩)) (Qa (U Z Z (Zm (v := Vq a) Z Z ⟨Z, Z⟩)) Qi)), ?_⟩
       refine Qo Z Z (Qb Z Z ⟨Z, ?_⟩)
       refine Qo Z Z (Zp F29_0.h Z Z Z ⟨Z, ?_⟩)
       refine Qo Z Z (Zp F27_3.h Z Z Z ⟨Z, ?_⟩)
       refine Qt Z Z (Qe (ds := [c8]) (es := [ae, af, ag, c8, d, i, aK]) (fq).f7 A25.h Z Z Z (Qj (((fq).f7).f2).arr_one) (Zj (((fq).f7).f2).arr_one Qk) (Nat.le_of_ble_eq_true Z) Z ?_)
       intro rO fr
       refine ⟨(Qa (U Z Z (Zm (v := Vq a) Z Z ⟨Z, Z⟩)) Qi), ?_⟩
       refine Q5 (Za Z Z (Qb Z Z (Za Z Z (Zp F29_3.h Z Z Z (Za Z Z (Qe (ds := [gi]) (es := [ae, af, ag, c8, d, i, gi]) fr A22.h Z Z Z (Qj ((fr).f1).arr_one) (Zj ((fr).f1).arr_one Qk) (Nat.le_of_ble_eq_true Z) Z ?_))))))
       intro rP lm
       refine Zb (Ze ?_)
       exact ⟨mW, c8, gi, ig, (((((((((((lm.f11).f2).f3).f11).f11).f11).f6).f11).f11).f11).f11).f11, (Fx.mk)⟩
      intro oF rQ jd
      obtain ⟨mX, c3, c4, mn, ln, ⟨oG, rfl⟩⟩ := jd
      refine (QaO (Ze (Zd (Za Z Z (Exec.add Z Z Z (Za Z Z (Zm (v := O (IntKind.i64.wrap ((hW : Int) + 1))) Z Z (Zb (Ze ?_)))))))))
      have oy := Zu a3
      subst gv
      refine ⟨_, Z, ?_⟩; exact ⟨mX, c3, c4, (Zt fJ mn), (((((((((((ln.f11).f11).f11).f11).f11).f11).f11).f11).f11).f11).f11).f11, (Fx.mk (FxL.cons (J5 lI (SliceRep.le fQ)) fxl))⟩
     intro np oH rR iV lZ
     obtain ⟨fH, fI⟩ := np
     obtain ⟨mY, bi, aK, mo, lo, ⟨oI, rfl⟩⟩ := iV
     refine Zc (Zd (Za Z Z (Zq Z Z Z (Zb (Ze (Zc (KQ (Zx (decide_eq_false (by omega))) (Qcl (K8 (K8 (QaI (Ze ?_))))))))))))
     refine ⟨_, .inl lZ, ?_⟩; exact ⟨mY, bi, aK, mo, (((((((((((lo.f11).f11).f11).f11).f11).f11).f11).f11).f11).f11).f11).f11, (Fx.mk)⟩
    rintro oJ rS ⟨nq, hR, je⟩
    have aD := hR.elim (lM _) (lE _)
    clear hR
    obtain ⟨ib, ic⟩ := nq
    replace aD := Q3 aD
    obtain ⟨mZ, c1, c2, mp, lp, ⟨oK, rfl⟩⟩ := je
    refine (QaO (Ze (Zd (Za Z Z (Exec.add Z Z Z (Za Z Z (Zm (v := O (IntKind.i64.wrap ((ce : Int) + 1))) Z Z (Zb (Ze ?_)))))))))
    have oz := Zu aD
    subst gs
    refine ⟨_, Z, ?_⟩; exact ⟨mZ, c1, c2, (Zt (Zt aO ia) mp), (((((((((((lp.f11).f11).f11).f11).f11).f11).f11).f11).f11).f11).f11).f11, (Fx.mk (FxL.cons (J5 lH (SliceRep.le (a5.mono (Zt (Zt x a6) aF)))) fxl))⟩
   intro nr oL rT iW ma
   obtain ⟨fF, fG⟩ := nr
   obtain ⟨na, bg, bh, mq, lq, ⟨oM, rfl⟩⟩ := iW
   refine Zc (Zd (Za Z Z (Zq Z Z Z (Zb (Ze (Zc (KQ (Zx (decide_eq_false (by omega))) (Qcl (K8 (K8 (QaI (Ze ?_))))))))))))
   refine ⟨_, .inl ma, ?_⟩; exact ⟨na, bg, bh, mq, ((((((((((((lq).f11).f11).f11).f11).f11).f11).f11).f11).f11).f11).f11).f11, (Fx.mk)⟩
  rintro oN rU ⟨ns, hT, jf⟩
  have hm := hT.elim (lL _) (lD _)
  clear hT
  obtain ⟨hY, hZ⟩ := ns
  replace hm := Q3 hm
  obtain ⟨pm, cz, c0, mr, lr, ⟨oO, rfl⟩⟩ := jf
  refine (Ze (Zc (Zd (Za Z Z (Zo (v := Vb true) Z Z (Zb (Ze (Qf8 ?_))))))))
  have o0 := Zu hm
  subst r
  refine ⟨_, Qa5 Z, ?_⟩
  obtain ⟨nb, ms, ls, mO⟩ := lr.f11.freezeArr
  exact ⟨nb, ag, ae, af, cz, c0, (Zt (Zt (Zt (Zt x a6) aF) mr) ms), ((((((((((ls.f10).f10).f10).f10).f10).f10).f10).f10).f10).f10).f10, Z, mO⟩
 refine Qd1 Z bo ?_
 replace bo := Zk bo
 refine JG (Ze (Zc (Zd (Za Z Z (Zm (v := Vq a) Z Z (Za Z Z (Qb Z Z (Za Z Z (Zp F29_0.h Z Z Z (Za Z Z (Zp F27_0.h Z Z Z (Za Z Z (Zn (aJ.f5) A22.h Z Z Z ?_)))))))))))))
 refine Za Z Z (Q2 (aJ.f6) S22.h Z Z (Za Z Z (Zo (v := O ((b.Task.Vars.length : Int))) Z Z (Zb (Ze (Zc ?_))))))
 obtain ⟨bd, aI, hm⟩ := Zg hm
 obtain ⟨be, a2, hm⟩ := Zg hm
 refine Qs (M := fun f' w' => ∃ (i6 : PHeap) (ai : Value) (aj : Value) (ak : Value), PHeap.le am i6 ∧ St w0 i6 (Res.box p 67 [aw, ax, ay, ac, az, y, z, aa, ab] :: Res.arr (Qc .i64) 3 y n.vars :: Res.arr encFact 51 z n.atoms :: Res.arr encBool 4 aa n.grouped :: Res.arr (Qc .i64) 3 ab n.fluents :: Res.box a 29 [ai, aj, ak, j, d, i, l] :: Res.arr (Qc .i64) 3 ai bd :: Res.arr (Qc .i64) 3 aj be :: Res.arr encFact 51 m b.Task.Goal :: Res.arr encOp 55 j b.Task.Ops :: Res.arr (Qc .i64) 3 l b.Ops :: Res.arr encFact 51 ak [(⟨(b.Task.Vars.length : Int), 1⟩ : Fact)] :: H) w' ∧ Fx f' [(0, Vq p), (1, Vq a), (2, ap), (9, O ((b.Task.Vars.length : Int)))]) ?_ ?_
 ·refine KM (n0 := 28) (qs 0 8 (qs 10 5 (.q 17 (.q 18 (.alt (.e 8 [0, 1, 2, 3, 4, 5, 6, 7, 10, 11, 12, 13, 14, 17, 18] (.alt (.e 9 [0, 1, 2, 10, 11, 12, 13, 14, 17, 18] (.alt (.e 15 [0, 1, 2, 10, 11, 12, 13, 14, 17, 18] (.alt (.e 16 [0, 1, 2, 17, 18] (qs 20 3 (.alt (.e 19 [0, 1, 2, 20, 21, 22] (.e 23 [1, 2] (qs 24 3 (.e 27 [2] .done)))) (.e 23 [1, 2, 17, 18] (qs 24 3 (.alt (.e 19 [1, 2, 24, 25, 26] (.e 27 [2] .done)) (.e 27 [2, 17, 18] (.e 19 [2] .done)))))))) (.e 19 [0, 1, 2, 10, 11, 12, 13, 14] (.e 16 [0, 1, 2] (qs 20 3 (.e 23 [1, 2] (qs 24 3 (.e 27 [2] .done)))))))) (.e 19 [0, 1, 2, 10, 11, 12, 13, 14] (.e 15 [0, 1, 2, 10, 11, 12, 13, 14] (.e 16 [0, 1, 2] (qs 20 3 (.e 23 [1, 2] (qs 24 3 (.e 27 [2] .done))))))))) (.alt (.e 15 [0, 1, 2, 3, 4, 5, 6, 7, 10, 11, 12, 13, 14, 17, 18] (.alt (.e 9 [0, 1, 2, 10, 11, 12, 13, 14, 17, 18] (.alt (.e 16 [0, 1, 2, 17, 18] (qs 20 3 (.alt (.e 19 [0, 1, 2, 20, 21, 22] (.e 23 [1, 2] (qs 24 3 (.e 27 [2] .done)))) (.e 23 [1, 2, 17, 18] (qs 24 3 (.alt (.e 19 [1, 2, 24, 25, 26] (.e 27 [2] .done)) (.e 27 [2, 17, 18] (.e 19 [2] .done)))))))) (.e 19 [0, 1, 2, 10, 11, 12, 13, 14] (.e 16 [0, 1, 2] (qs 20 3 (.e 23 [1, 2] (qs 24 3 (.e 27 [2] .done)))))))) (.e 19 [0, 1, 2, 3, 4, 5, 6, 7, 10, 11, 12, 13, 14] (.e 9 [0, 1, 2, 10, 11, 12, 13, 14] (.e 16 [0, 1, 2] (qs 20 3 (.e 23 [1, 2] (qs 24 3 (.e 27 [2] .done))))))))) (.e 19 [0, 1, 2, 3, 4, 5, 6, 7, 10, 11, 12, 13, 14] (.alt (.e 9 [0, 1, 2, 10, 11, 12, 13, 14] (.e 15 [0, 1, 2, 10, 11, 12, 13, 14] (.e 16 [0, 1, 2] (qs 20 3 (.e 23 [1, 2] (qs 24 3 (.e 27 [2] .done))))))) (.e 15 [0, 1, 2, 3, 4, 5, 6, 7, 10, 11, 12, 13, 14] (.e 9 [0, 1, 2, 10, 11, 12, 13, 14] (.e 16 [0, 1, 2] (qs 20 3 (.e 23 [1, 2] (qs 24 3 (.e 27 [2] .done)))))))))))) (.alt (.e 15 [0, 1, 2, 3, 4, 5, 6, 7, 10, 11, 12, 13, 14, 17, 18] (.alt (.e 8 [0, 1, 2, 3, 4, 5, 6, 7, 10, 11, 12, 13, 14, 17, 18] (.alt (.e 9 [0, 1, 2, 10, 11, 12, 13, 14, 17, 18] (.alt (.e 16 [0, 1, 2, 17, 18] (qs 20 3 (.alt (.e 19 [0, 1, 2, 20, 21, 22] (.e 23 [1, 2] (qs 24 3 (.e 27 [2] .done)))) (.e 23 [1, 2, 17, 18] (qs 24 3 (.alt (.e 19 [1, 2, 24, 25, 26] (.e 27 [2] .done)) (.e 27 [2, 17, 18] (.e 19 [2] .done)))))))) (.e 19 [0, 1, 2, 10, 11, 12, 13, 14] (.e 16 [0, 1, 2] (qs 20 3 (.e 23 [1, 2] (qs 24 3 (.e 27 [2] .done)))))))) (.e 19 [0, 1, 2, 3, 4, 5, 6, 7, 10, 11, 12, 13, 14] (.e 9 [0, 1, 2, 10, 11, 12, 13, 14] (.e 16 [0, 1, 2] (qs 20 3 (.e 23 [1, 2] (qs 24 3 (.e 27 [2] .done))))))))) (.e 19 [0, 1, 2, 3, 4, 5, 6, 7, 10, 11, 12, 13, 14] (.e 8 [0, 1, 2, 3, 4, 5, 6, 7, 10, 11, 12, 13, 14] (.e 9 [0, 1, 2, 10, 11, 12, 13, 14] (.e 16 [0, 1, 2] (qs 20 3 (.e 23 [1, 2] (qs 24 3 (.e 27 [2] .done)))))))))) (.e 19 [0, 1, 2, 3, 4, 5, 6, 7, 10, 11, 12, 13, 14] (.alt (.e 8 [0, 1, 2, 3, 4, 5, 6, 7, 10, 11, 12, 13, 14] (.alt (.e 9 [0, 1, 2, 10, 11, 12, 13, 14] (.e 15 [0, 1, 2, 10, 11, 12, 13, 14] (.e 16 [0, 1, 2] (qs 20 3 (.e 23 [1, 2] (qs 24 3 (.e 27 [2] .done))))))) (.e 15 [0, 1, 2, 3, 4, 5, 6, 7, 10, 11, 12, 13, 14] (.e 9 [0, 1, 2, 10, 11, 12, 13, 14] (.e 16 [0, 1, 2] (qs 20 3 (.e 23 [1, 2] (qs 24 3 (.e 27 [2] .done))))))))) (.e 15 [0, 1, 2, 3, 4, 5, 6, 7, 10, 11, 12, 13, 14] (.e 8 [0, 1, 2, 3, 4, 5, 6, 7, 10, 11, 12, 13, 14] (.e 9 [0, 1, 2, 10, 11, 12, 13, 14] (.e 16 [0, 1, 2] (qs 20 3 (.e 23 [1, 2] (qs 24 3 (.e 27 [2] .done)))))))))))))))) KL (by kernel_rfl) (by kernel_rfl) ?_
  refine Qo Z Z (Zm (v := Vq a) Z Z ⟨Z, ?_⟩)
  refine Qo Z Z (Zm (v := Vq a) Z Z ⟨Z, ?_⟩)
  refine Qo Z Z (Zm (v := Vq a) Z Z ⟨Z, ?_⟩)
  refine Qo Z Z (Zm (v := Vq a) Z Z ⟨Z, ?_⟩)
  refine Qo Z Z (Qb Z Z ⟨Z, ?_⟩)
  refine Qo Z Z (Zp F29_0.h Z Z Z ⟨Z, ?_⟩)
  refine Qo Z Z (Zp F27_0.h Z Z Z ⟨Z, ?_⟩)
  refine Qo Z Z (Zn ((aJ.drew).f5) A22.h Z Z Z ⟨Z, ?_⟩)
  refine Qo Z Z (Zm (v := Vq a) Z Z ⟨Z, ?_⟩)
  refine Qo Z Z (Qb Z Z ⟨Z, ?_⟩)
  refine Qo Z Z (Zp F29_0.h Z Z Z ⟨Z, ?_⟩)
  refine Qo Z Z (Zp F27_1.h Z Z Z ⟨Z, ?_⟩)
  refine Qo Z Z (Zn ((aJ.drew).f5) A22.h Z Z Z ⟨Z, ?_⟩)
  refine Qo Z Z (Zm (v := O ((b.Task.Vars.length : Int))) Z Z ⟨Z, ?_⟩)
  refine Qo Z Z (Exec.build Z (Qd (c := [O ((b.Task.Vars.length : Int))]) (Qf Z Z) (Qd (c := [O 1]) (Qf Z Z) Qg)) (v := Value.agg #[O ((b.Task.Vars.length : Int)), O 1]) (fun _ => by kernel_rfl) ⟨Z, ?_⟩)
  refine QH ?_ ?_
  ·refine Qt Z Z (Exec.buildSlice (Te := 3) (cs := [O 2]) aJ.drew Z (Qd (c := [O 2]) (Qf Z Z) Qg) (fun _ => by kernel_rfl) ?_)
   intro nS rV bn
   refine ⟨(Qa (U Z Z (Zm (v := Vq a) Z Z ⟨Z, Z⟩)) (Qa (U Z Z (Zm (v := Vq a) Z Z ⟨Z, Z⟩)) (Qa (U Z Z (Zm (v := Vq a) Z Z ⟨Z, Z⟩)) (Qa (U Z Z (Zm (v := Vq a) Z Z ⟨Z, Z⟩)) (Qa (U Z Z (Qb Z Z ⟨Z, Z⟩)) (Qa (U Z Z (Zp F29_0.h Z Z Z ⟨Z, Z⟩)) (Qa (U Z Z (Zp F27_0.h Z Z Z ⟨Z, Z⟩)) (Qa (U Z Z (Zn (bn.f6) A22.h Z Z Z ⟨Z, Z⟩)) (Qa (U Z Z (Zm (v := Vq a) Z Z ⟨Z, Z⟩)) (Qa (U Z Z (Qb Z Z ⟨Z, Z⟩)) (Qa (U Z Z (Zp F29_0.h Z Z Z ⟨Z, Z⟩)) (Qa (U Z Z (Zp F27_1.h Z Z Z ⟨Z, Z⟩)) (Qa (U Z Z (Zn (bn.f6) A22.h Z Z Z ⟨Z, Z⟩)) (Qa (U Z Z (Zm (v := O ((b.Task.Vars.length : Int))) Z Z ⟨Z, Z⟩)) (Qa (U Z Z (Exec.build Z (Qd (c := [O ((b.Task.Vars.length : Int))]) (Qf Z Z) (Qd (c := [O 1]) (Qf Z Z) Qg)) (v := Value.agg #[O ((b.Task.Vars.length : Int)), O 1]) (fun _ => by kernel_rfl) ⟨Z, Z⟩)) Qi))))))))))))))), ?_⟩
   refine QH ?_ ?_
   ·have lu := bn.f7
    refine Qt Z Z (Qh (E := (Qc .i64)) (ys := [2]) lu S22.h Z3 Z (by decide) Z Z Z Z ⟨[O 2], [], Z, Z, Z⟩ Z aI ?_)
    intro al rW fs
    refine ⟨(Qa (U Z Z (Zm (v := Vq a) Z Z ⟨Z, Z⟩)) (Qa (U Z Z (Zm (v := Vq a) Z Z ⟨Z, Z⟩)) (Qa (U Z Z (Zm (v := Vq a) Z Z ⟨Z, Z⟩)) (Qa (U Z Z (Zm (v := Vq a) Z Z ⟨Z, Z⟩)) (Qa (U Z Z (Qb Z Z ⟨Z, Z⟩)) (Qa (U Z Z (Zp F29_0.h Z Z Z ⟨Z, Z⟩)) (Qa (U Z Z (Zp F27_1.h Z Z Z ⟨Z, Z⟩)) (Qa (U Z Z (Zn (fs.f6) A22.h Z Z Z ⟨Z, Z⟩)) (Qa (U Z Z (Zm (v := O ((b.Task.Vars.length : Int))) Z Z ⟨Z, Z⟩)) (Qa (U Z Z (Exec.build Z (Qd (c := [O ((b.Task.Vars.length : Int))]) (Qf Z Z) (Qd (c := [O 1]) (Qf Z Z) Qg)) (v := Value.agg #[O ((b.Task.Vars.length : Int)), O 1]) (fun _ => by kernel_rfl) ⟨Z, Z⟩)) Qi)))))))))), ?_⟩
    refine QH ?_ ?_
    ·refine Qt Z Z (Exec.buildSlice (Te := 3) (cs := [O 0]) fs Z (Qd (c := [O 0]) (Qf Z Z) Qg) (fun _ => by kernel_rfl) ?_)
     intro nT rX ft
     refine ⟨(Qa (U Z Z (Zm (v := Vq a) Z Z ⟨Z, Z⟩)) (Qa (U Z Z (Zm (v := Vq a) Z Z ⟨Z, Z⟩)) (Qa (U Z Z (Zm (v := Vq a) Z Z ⟨Z, Z⟩)) (Qa (U Z Z (Zm (v := Vq a) Z Z ⟨Z, Z⟩)) (Qa (U Z Z (Qb Z Z ⟨Z, Z⟩)) (Qa (U Z Z (Zp F29_0.h Z Z Z ⟨Z, Z⟩)) (Qa (U Z Z (Zp F27_1.h Z Z Z ⟨Z, Z⟩)) (Qa (U Z Z (Zn (ft.f7) A22.h Z Z Z ⟨Z, Z⟩)) (Qa (U Z Z (Zm (v := O ((b.Task.Vars.length : Int))) Z Z ⟨Z, Z⟩)) (Qa (U Z Z (Exec.build Z (Qd (c := [O ((b.Task.Vars.length : Int))]) (Qf Z Z) (Qd (c := [O 1]) (Qf Z Z) Qg)) (v := Value.agg #[O ((b.Task.Vars.length : Int)), O 1]) (fun _ => by kernel_rfl) ⟨Z, Z⟩)) Qi)))))))))), ?_⟩
     refine QH ?_ ?_
     ·have lv := ft.f8
      refine Qt Z Z (Qh (E := (Qc .i64)) (ys := [0]) lv S22.h Z3 Z (by decide) Z Z Z Z ⟨[O 0], [], Z, Z, Z⟩ Z a2 ?_)
      intro aA rY bZ
      refine ⟨(Qa (U Z Z (Zm (v := Vq a) Z Z ⟨Z, Z⟩)) (Qa (U Z Z (Zm (v := Vq a) Z Z ⟨Z, Z⟩)) (Qa (U Z Z (Zm (v := Vq a) Z Z ⟨Z, Z⟩)) (Qa (U Z Z (Zm (v := O ((b.Task.Vars.length : Int))) Z Z ⟨Z, Z⟩)) (Qa (U Z Z (Exec.build Z (Qd (c := [O ((b.Task.Vars.length : Int))]) (Qf Z Z) (Qd (c := [O 1]) (Qf Z Z) Qg)) (v := Value.agg #[O ((b.Task.Vars.length : Int)), O 1]) (fun _ => by kernel_rfl) ⟨Z, Z⟩)) Qi))))), ?_⟩
      refine Qo Z Z (Qb Z Z ⟨Z, ?_⟩)
      refine Qo Z Z (Zp F29_0.h Z Z Z ⟨Z, ?_⟩)
      refine Qo Z Z (Zp F27_0.h Z Z Z ⟨Z, ?_⟩)
      refine QH ?_ ?_
      ·refine Qt Z Z (Exec.buildSlice (Te := 51) (cs := [O ((b.Task.Vars.length : Int)), O 1]) bZ Z (Qd (c := [O ((b.Task.Vars.length : Int)), O 1]) (Qf Z Z) Qg) (fun _ => by kernel_rfl) ?_)
       intro dt rZ fv
       refine ⟨(Qa (U Z Z (Zm (v := Vq a) Z Z ⟨Z, Z⟩)) (Qa (U Z Z (Zm (v := Vq a) Z Z ⟨Z, Z⟩)) (Qa (U Z Z (Zm (v := Vq a) Z Z ⟨Z, Z⟩)) (Qa (U Z Z (Qb Z Z ⟨Z, Z⟩)) (Qa (U Z Z (Zp F29_0.h Z Z Z ⟨Z, Z⟩)) (Qa (U Z Z (Zp F27_0.h Z Z Z ⟨Z, Z⟩)) Qi)))))), ?_⟩
       refine Qt Z Z (Qe (ds := [al]) (es := [al, o, m, j, d, i, l]) fv.f8 A22.h Z Z Z (Qj ((fv.f8).f3).arr_one) (Zj ((fv.f8).f3).arr_one Qk) (Nat.le_of_ble_eq_true Z) Z ?_)
       intro sa fw
       refine ⟨(Qa (U Z Z (Zm (v := Vq a) Z Z ⟨Z, Z⟩)) (Qa (U Z Z (Zm (v := Vq a) Z Z ⟨Z, Z⟩)) Qi)), ?_⟩
       refine Qo Z Z (Qb Z Z ⟨Z, ?_⟩)
       refine Qo Z Z (Zp F29_0.h Z Z Z ⟨Z, ?_⟩)
       refine Qo Z Z (Zp F27_1.h Z Z Z ⟨Z, ?_⟩)
       refine Qt Z Z (Qe (ds := [aA]) (es := [al, aA, m, j, d, i, l]) fw A22.h Z Z Z (Qj (fw.f2).arr_one) (Zj (fw.f2).arr_one Qk) (Nat.le_of_ble_eq_true Z) Z ?_)
       intro sb lw
       refine ⟨(Qa (U Z Z (Zm (v := Vq a) Z Z ⟨Z, Z⟩)) Qi), ?_⟩
       refine Q5 (Za Z Z (Qb Z Z (Za Z Z (Zp F29_0.h Z Z Z (Za Z Z (Zp F27_2.h Z Z Z ?_))))))
       have hH := St.boxArr (E := encFact) (xs := [(⟨(b.Task.Vars.length : Int), 1⟩ : Fact)]) lw.f1 ⟨[O ((b.Task.Vars.length : Int)), O 1], [], rfl, ⟨[O ((b.Task.Vars.length : Int))], [O 1], rfl, rfl, rfl⟩, rfl⟩ (by simp [maxLen])
       refine Za Z Z (Qe (ds := [Vs (some ⟨dt, 0, none⟩) 1 1]) (es := [al, aA, Vs (some ⟨dt, 0, none⟩) 1 1, j, d, i, l]) hH.f1 A24.h Z Z Z Z (Zj ((hH.f1).f1).arr_one Qk) (Nat.le_of_ble_eq_true Z) Z ?_)
       intro sc lx
       refine Zb (Ze ?_)
       exact ⟨am, al, aA, (Vs (some ⟨dt, 0, none⟩) 1 1), (Zv _), (((((((((((lx.f1).f11).f11).f11).f5).f6).f6).f11).f11).f11).f11).f11, (Fx.mk)⟩
      refine Qt Z Z (Qe (ds := [al]) (es := [al, o, m, j, d, i, l]) bZ.f7 A22.h Z Z Z (Qj ((bZ.f7).f2).arr_one) (Zj ((bZ.f7).f2).arr_one Qk) (Nat.le_of_ble_eq_true Z) Z ?_)
      intro sd ca
      refine ⟨(Qa (U Z Z (Zm (v := Vq a) Z Z ⟨Z, Z⟩)) (Qa (U Z Z (Zm (v := Vq a) Z Z ⟨Z, Z⟩)) (Qa (U Z Z (Zm (v := O ((b.Task.Vars.length : Int))) Z Z ⟨Z, Z⟩)) (Qa (U Z Z (Exec.build Z (Qd (c := [O ((b.Task.Vars.length : Int))]) (Qf Z Z) (Qd (c := [O 1]) (Qf Z Z) Qg)) (v := Value.agg #[O ((b.Task.Vars.length : Int)), O 1]) (fun _ => by kernel_rfl) ⟨Z, Z⟩)) Qi)))), ?_⟩
      refine Qo Z Z (Qb Z Z ⟨Z, ?_⟩)
      refine Qo Z Z (Zp F29_0.h Z Z Z ⟨Z, ?_⟩)
      refine Qo Z Z (Zp F27_1.h Z Z Z ⟨Z, ?_⟩)
      refine QH ?_ ?_
      ·refine Qt Z Z (Exec.buildSlice (Te := 51) (cs := [O ((b.Task.Vars.length : Int)), O 1]) ca Z (Qd (c := [O ((b.Task.Vars.length : Int)), O 1]) (Qf Z Z) Qg) (fun _ => by kernel_rfl) ?_)
       intro du se fx
       refine ⟨(Qa (U Z Z (Zm (v := Vq a) Z Z ⟨Z, Z⟩)) (Qa (U Z Z (Zm (v := Vq a) Z Z ⟨Z, Z⟩)) (Qa (U Z Z (Qb Z Z ⟨Z, Z⟩)) (Qa (U Z Z (Zp F29_0.h Z Z Z ⟨Z, Z⟩)) (Qa (U Z Z (Zp F27_1.h Z Z Z ⟨Z, Z⟩)) Qi))))), ?_⟩
       refine Qt Z Z (Qe (ds := [aA]) (es := [al, aA, m, j, d, i, l]) fx.f1 A22.h Z Z Z (Qj ((fx.f1).f2).arr_one) (Zj ((fx.f1).f2).arr_one Qk) (Nat.le_of_ble_eq_true Z) Z ?_)
       intro sf ly
       refine ⟨(Qa (U Z Z (Zm (v := Vq a) Z Z ⟨Z, Z⟩)) Qi), ?_⟩
       refine Q5 (Za Z Z (Qb Z Z (Za Z Z (Zp F29_0.h Z Z Z (Za Z Z (Zp F27_2.h Z Z Z ?_))))))
       have hI := St.boxArr (E := encFact) (xs := [(⟨(b.Task.Vars.length : Int), 1⟩ : Fact)]) ly.f1 ⟨[O ((b.Task.Vars.length : Int)), O 1], [], rfl, ⟨[O ((b.Task.Vars.length : Int))], [O 1], rfl, rfl, rfl⟩, rfl⟩ (by simp [maxLen])
       refine Za Z Z (Qe (ds := [Vs (some ⟨du, 0, none⟩) 1 1]) (es := [al, aA, Vs (some ⟨du, 0, none⟩) 1 1, j, d, i, l]) hI.f1 A24.h Z Z Z Z (Zj ((hI.f1).f1).arr_one Qk) (Nat.le_of_ble_eq_true Z) Z ?_)
       intro sg lz
       refine Zb (Ze ?_)
       exact ⟨am, al, aA, (Vs (some ⟨du, 0, none⟩) 1 1), (Zv _), (((((((((((lz.f1).f11).f11).f11).f5).f6).f6).f11).f11).f11).f11).f11, (Fx.mk)⟩
      refine Qt Z Z (Qe (ds := [aA]) (es := [al, aA, m, j, d, i, l]) ca A22.h Z Z Z (Qj (ca.f1).arr_one) (Zj (ca.f1).arr_one Qk) (Nat.le_of_ble_eq_true Z) Z ?_)
      intro sh l0
      refine ⟨(Qa (U Z Z (Zm (v := Vq a) Z Z ⟨Z, Z⟩)) (Qa (U Z Z (Zm (v := O ((b.Task.Vars.length : Int))) Z Z ⟨Z, Z⟩)) (Qa (U Z Z (Exec.build Z (Qd (c := [O ((b.Task.Vars.length : Int))]) (Qf Z Z) (Qd (c := [O 1]) (Qf Z Z) Qg)) (v := Value.agg #[O ((b.Task.Vars.length : Int)), O 1]) (fun _ => by kernel_rfl) ⟨Z, Z⟩)) Qi))), ?_⟩
      refine Qt Z Z (Exec.buildSlice (Te := 51) (cs := [O ((b.Task.Vars.length : Int)), O 1]) l0 Z (Qd (c := [O ((b.Task.Vars.length : Int)), O 1]) (Qf Z Z) Qg) (fun _ => by kernel_rfl) ?_)
      intro dv si l1
      refine ⟨(Qa (U Z Z (Zm (v := Vq a) Z Z ⟨Z, Z⟩)) Qi), ?_⟩
      refine Q5 (Za Z Z (Qb Z Z (Za Z Z (Zp F29_0.h Z Z Z (Za Z Z (Zp F27_2.h Z Z Z ?_))))))
      have hJ := St.boxArr (E := encFact) (xs := [(⟨(b.Task.Vars.length : Int), 1⟩ : Fact)]) l1 ⟨[O ((b.Task.Vars.length : Int)), O 1], [], rfl, ⟨[O ((b.Task.Vars.length : Int))], [O 1], rfl, rfl, rfl⟩, rfl⟩ (by simp [maxLen])
      refine Za Z Z (Qe (ds := [Vs (some ⟨dv, 0, none⟩) 1 1]) (es := [al, aA, Vs (some ⟨dv, 0, none⟩) 1 1, j, d, i, l]) hJ.f1 A24.h Z Z Z Z (Zj ((hJ.f1).f1).arr_one Qk) (Nat.le_of_ble_eq_true Z) Z ?_)
      intro sj l2
      refine Zb (Ze ?_)
      exact ⟨am, al, aA, (Vs (some ⟨dv, 0, none⟩) 1 1), (Zv _), (((((((((((l2.f1).f11).f11).f11).f5).f6).f6).f11).f11).f11).f11).f11, (Fx.mk)⟩
     refine Qt Z Z (Exec.buildSlice (Te := 51) (cs := [O ((b.Task.Vars.length : Int)), O 1]) ft Z (Qd (c := [O ((b.Task.Vars.length : Int)), O 1]) (Qf Z Z) Qg) (fun _ => by kernel_rfl) ?_)
     intro dw sk hK
     refine ⟨(Qa (U Z Z (Zm (v := Vq a) Z Z ⟨Z, Z⟩)) (Qa (U Z Z (Zm (v := Vq a) Z Z ⟨Z, Z⟩)) (Qa (U Z Z (Zm (v := Vq a) Z Z ⟨Z, Z⟩)) (Qa (U Z Z (Zm (v := Vq a) Z Z ⟨Z, Z⟩)) (Qa (U Z Z (Qb Z Z ⟨Z, Z⟩)) (Qa (U Z Z (Zp F29_0.h Z Z Z ⟨Z, Z⟩)) (Qa (U Z Z (Zp F27_1.h Z Z Z ⟨Z, Z⟩)) (Qa (U Z Z (Zn (hK.f8) A22.h Z Z Z ⟨Z, Z⟩)) Qi)))))))), ?_⟩
     refine Qt Z Z (Qh (E := (Qc .i64)) (ys := [0]) (hK.f1).f9 S22.h Z3 Z (by decide) Z Z Z Z ⟨[O 0], [], Z, Z, Z⟩ Z a2 ?_)
     intro c9 sl fy
     refine ⟨(Qa (U Z Z (Zm (v := Vq a) Z Z ⟨Z, Z⟩)) (Qa (U Z Z (Zm (v := Vq a) Z Z ⟨Z, Z⟩)) (Qa (U Z Z (Zm (v := Vq a) Z Z ⟨Z, Z⟩)) Qi))), ?_⟩
     refine Qo Z Z (Qb Z Z ⟨Z, ?_⟩)
     refine Qo Z Z (Zp F29_0.h Z Z Z ⟨Z, ?_⟩)
     refine Qo Z Z (Zp F27_0.h Z Z Z ⟨Z, ?_⟩)
     refine Qt Z Z (Qe (ds := [al]) (es := [al, o, m, j, d, i, l]) fy.f8 A22.h Z Z Z (Qj ((fy.f8).f3).arr_one) (Zj ((fy.f8).f3).arr_one Qk) (Nat.le_of_ble_eq_true Z) Z ?_)
     intro sm fz
     refine ⟨(Qa (U Z Z (Zm (v := Vq a) Z Z ⟨Z, Z⟩)) (Qa (U Z Z (Zm (v := Vq a) Z Z ⟨Z, Z⟩)) Qi)), ?_⟩
     refine Qo Z Z (Qb Z Z ⟨Z, ?_⟩)
     refine Qo Z Z (Zp F29_0.h Z Z Z ⟨Z, ?_⟩)
     refine Qo Z Z (Zp F27_1.h Z Z Z ⟨Z, ?_⟩)
     refine Qt Z Z (Qe (ds := [c9]) (es := [al, c9, m, j, d, i, l]) fz A22.h Z Z Z (Qj (fz.f1).arr_one) (Zj (fz.f1).arr_one Qk) (Nat.le_of_ble_eq_true Z) Z ?_)
     intro sn l3
     refine ⟨(Qa (U Z Z (Zm (v := Vq a) Z Z ⟨Z, Z⟩)) Qi), ?_⟩
     refine Q5 (Za Z Z (Qb Z Z (Za Z Z (Zp F29_0.h Z Z Z (Za Z Z (Zp F27_2.h Z Z Z ?_))))))
     have hL := St.boxArr (E := encFact) (xs := [(⟨(b.Task.Vars.length : Int), 1⟩ : Fact)]) l3.f2 ⟨[O ((b.Task.Vars.length : Int)), O 1], [], rfl, ⟨[O ((b.Task.Vars.length : Int))], [O 1], rfl, rfl, rfl⟩, rfl⟩ (by simp [maxLen])
     refine Za Z Z (Qe (ds := [Vs (some ⟨dw, 0, none⟩) 1 1]) (es := [al, c9, Vs (some ⟨dw, 0, none⟩) 1 1, j, d, i, l]) hL.f1 A24.h Z Z Z Z (Zj ((hL.f1).f1).arr_one Qk) (Nat.le_of_ble_eq_true Z) Z ?_)
     intro so l4
     refine Zb (Ze ?_)
     exact ⟨am, al, c9, (Vs (some ⟨dw, 0, none⟩) 1 1), (Zv _), (((((((((((l4.f1).f11).f11).f11).f5).f6).f6).f11).f11).f11).f11).f11, (Fx.mk)⟩
    refine Qt Z Z (Exec.buildSlice (Te := 51) (cs := [O ((b.Task.Vars.length : Int)), O 1]) fs Z (Qd (c := [O ((b.Task.Vars.length : Int)), O 1]) (Qf Z Z) Qg) (fun _ => by kernel_rfl) ?_)
    intro dx sp hM
    refine ⟨(Qa (U Z Z (Zm (v := Vq a) Z Z ⟨Z, Z⟩)) (Qa (U Z Z (Zm (v := Vq a) Z Z ⟨Z, Z⟩)) (Qa (U Z Z (Zm (v := Vq a) Z Z ⟨Z, Z⟩)) (Qa (U Z Z (Zm (v := Vq a) Z Z ⟨Z, Z⟩)) (Qa (U Z Z (Qb Z Z ⟨Z, Z⟩)) (Qa (U Z Z (Zp F29_0.h Z Z Z ⟨Z, Z⟩)) (Qa (U Z Z (Zp F27_1.h Z Z Z ⟨Z, Z⟩)) (Qa (U Z Z (Zn (hM.f7) A22.h Z Z Z ⟨Z, Z⟩)) Qi)))))))), ?_⟩
    refine Qt Z Z (Exec.buildSlice (Te := 3) (cs := [O 0]) hM Z (Qd (c := [O 0]) (Qf Z Z) Qg) (fun _ => by kernel_rfl) ?_)
    intro nU sq hN
    refine ⟨(Qa (U Z Z (Zm (v := Vq a) Z Z ⟨Z, Z⟩)) (Qa (U Z Z (Zm (v := Vq a) Z Z ⟨Z, Z⟩)) (Qa (U Z Z (Zm (v := Vq a) Z Z ⟨Z, Z⟩)) (Qa (U Z Z (Zm (v := Vq a) Z Z ⟨Z, Z⟩)) (Qa (U Z Z (Qb Z Z ⟨Z, Z⟩)) (Qa (U Z Z (Zp F29_0.h Z Z Z ⟨Z, Z⟩)) (Qa (U Z Z (Zp F27_1.h Z Z Z ⟨Z, Z⟩)) (Qa (U Z Z (Zn (hN.f8) A22.h Z Z Z ⟨Z, Z⟩)) Qi)))))))), ?_⟩
    refine Qt Z Z (Qh (E := (Qc .i64)) (ys := [0]) hN.f9 S22.h Z3 Z (by decide) Z Z Z Z ⟨[O 0], [], Z, Z, Z⟩ Z a2 ?_)
    intro cA sr f0
    refine ⟨(Qa (U Z Z (Zm (v := Vq a) Z Z ⟨Z, Z⟩)) (Qa (U Z Z (Zm (v := Vq a) Z Z ⟨Z, Z⟩)) (Qa (U Z Z (Zm (v := Vq a) Z Z ⟨Z, Z⟩)) Qi))), ?_⟩
    refine Qo Z Z (Qb Z Z ⟨Z, ?_⟩)
    refine Qo Z Z (Zp F29_0.h Z Z Z ⟨Z, ?_⟩)
    refine Qo Z Z (Zp F27_0.h Z Z Z ⟨Z, ?_⟩)
    refine Qt Z Z (Qe (ds := [al]) (es := [al, o, m, j, d, i, l]) f0.f8 A22.h Z Z Z (Qj ((f0.f8).f3).arr_one) (Zj ((f0.f8).f3).arr_one Qk) (Nat.le_of_ble_eq_true Z) Z ?_)
    intro ss fA
    refine ⟨(Qa (U Z Z (Zm (v := Vq a) Z Z ⟨Z, Z⟩)) (Qa (U Z Z (Zm (v := Vq a) Z Z ⟨Z, Z⟩)) Qi)), ?_⟩
    refine Qo Z Z (Qb Z Z ⟨Z, ?_⟩)
    refine Qo Z Z (Zp F29_0.h Z Z Z ⟨Z, ?_⟩)
    refine Qo Z Z (Zp F27_1.h Z Z Z ⟨Z, ?_⟩)
    refine Qt Z Z (Qe (ds := [cA]) (es := [al, cA, m, j, d, i, l]) fA A22.h Z Z Z (Qj (fA.f1).arr_one) (Zj (fA.f1).arr_one Qk) (Nat.le_of_ble_eq_true Z) Z ?_)
    intro st l5
    refine ⟨(Qa (U Z Z (Zm (v := Vq a) Z Z ⟨Z, Z⟩)) Qi), ?_⟩
    refine Q5 (Za Z Z (Qb Z Z (Za Z Z (Zp F29_0.h Z Z Z (Za Z Z (Zp F27_2.h Z Z Z ?_))))))
    have hO := St.boxArr (E := encFact) (xs := [(⟨(b.Task.Vars.length : Int), 1⟩ : Fact)]) l5.f2 ⟨[O ((b.Task.Vars.length : Int)), O 1], [], rfl, ⟨[O ((b.Task.Vars.length : Int))], [O 1], rfl, rfl, rfl⟩, rfl⟩ (by simp [maxLen])
    refine Za Z Z (Qe (ds := [Vs (some ⟨dx, 0, none⟩) 1 1]) (es := [al, cA, Vs (some ⟨dx, 0, none⟩) 1 1, j, d, i, l]) hO.f1 A24.h Z Z Z Z (Zj ((hO.f1).f1).arr_one Qk) (Nat.le_of_ble_eq_true Z) Z ?_)
    intro su l6
    refine Zb (Ze ?_)
    exact ⟨am, al, cA, (Vs (some ⟨dx, 0, none⟩) 1 1), (Zv _), (((((((((((l6.f1).f11).f11).f11).f5).f6).f6).f11).f11).f11).f11).f11, (Fx.mk)⟩
   refine QH ?_ ?_
   ·refine Qt Z Z (Exec.buildSlice (Te := 3) (cs := [O 0]) bn Z (Qd (c := [O 0]) (Qf Z Z) Qg) (fun _ => by kernel_rfl) ?_)
    intro nV sv cb
    refine ⟨(Qa (U Z Z (Zm (v := Vq a) Z Z ⟨Z, Z⟩)) (Qa (U Z Z (Zm (v := Vq a) Z Z ⟨Z, Z⟩)) (Qa (U Z Z (Zm (v := Vq a) Z Z ⟨Z, Z⟩)) (Qa (U Z Z (Zm (v := Vq a) Z Z ⟨Z, Z⟩)) (Qa (U Z Z (Qb Z Z ⟨Z, Z⟩)) (Qa (U Z Z (Zp F29_0.h Z Z Z ⟨Z, Z⟩)) (Qa (U Z Z (Zp F27_0.h Z Z Z ⟨Z, Z⟩)) (Qa (U Z Z (Zn (cb.f7) A22.h Z Z Z ⟨Z, Z⟩)) (Qa (U Z Z (Zm (v := Vq a) Z Z ⟨Z, Z⟩)) (Qa (U Z Z (Qb Z Z ⟨Z, Z⟩)) (Qa (U Z Z (Zp F29_0.h Z Z Z ⟨Z, Z⟩)) (Qa (U Z Z (Zp F27_1.h Z Z Z ⟨Z, Z⟩)) (Qa (U Z Z (Zn (cb.f7) A22.h Z Z Z ⟨Z, Z⟩)) (Qa (U Z Z (Zm (v := O ((b.Task.Vars.length : Int))) Z Z ⟨Z, Z⟩)) (Qa (U Z Z (Exec.build Z (Qd (c := [O ((b.Task.Vars.length : Int))]) (Qf Z Z) (Qd (c := [O 1]) (Qf Z Z) Qg)) (v := Value.agg #[O ((b.Task.Vars.length : Int)), O 1]) (fun _ => by kernel_rfl) ⟨Z, Z⟩)) Qi))))))))))))))), ?_⟩
    refine QH ?_ ?_
    ·have l7 := cb.f1
     refine Qt Z Z (Qh (E := (Qc .i64)) (ys := [2]) l7.f8 S22.h Z3 Z (by decide) Z Z Z Z ⟨[O 2], [], Z, Z, Z⟩ Z aI ?_)
     intro au sw fB
     refine ⟨(Qa (U Z Z (Zm (v := Vq a) Z Z ⟨Z, Z⟩)) (Qa (U Z Z (Zm (v := Vq a) Z Z ⟨Z, Z⟩)) (Qa (U Z Z (Zm (v := Vq a) Z Z ⟨Z, Z⟩)) (Qa (U Z Z (Zm (v := Vq a) Z Z ⟨Z, Z⟩)) (Qa (U Z Z (Qb Z Z ⟨Z, Z⟩)) (Qa (U Z Z (Zp F29_0.h Z Z Z ⟨Z, Z⟩)) (Qa (U Z Z (Zp F27_1.h Z Z Z ⟨Z, Z⟩)) (Qa (U Z Z (Zn (fB.f7) A22.h Z Z Z ⟨Z, Z⟩)) (Qa (U Z Z (Zm (v := O ((b.Task.Vars.length : Int))) Z Z ⟨Z, Z⟩)) (Qa (U Z Z (Exec.build Z (Qd (c := [O ((b.Task.Vars.length : Int))]) (Qf Z Z) (Qd (c := [O 1]) (Qf Z Z) Qg)) (v := Value.agg #[O ((b.Task.Vars.length : Int)), O 1]) (fun _ => by kernel_rfl) ⟨Z, Z⟩)) Qi)))))))))), ?_⟩
     refine QH ?_ ?_
     ·have l8 := fB.f1
      refine Qt Z Z (Qh (E := (Qc .i64)) (ys := [0]) l8.f8 S22.h Z3 Z (by decide) Z Z Z Z ⟨[O 0], [], Z, Z, Z⟩ Z a2 ?_)
      intro aB sx cc
      refine ⟨(Qa (U Z Z (Zm (v := Vq a) Z Z ⟨Z, Z⟩)) (Qa (U Z Z (Zm (v := Vq a) Z Z ⟨Z, Z⟩)) (Qa (U Z Z (Zm (v := Vq a) Z Z ⟨Z, Z⟩)) (Qa (U Z Z (Zm (v := O ((b.Task.Vars.length : Int))) Z Z ⟨Z, Z⟩)) (Qa (U Z Z (Exec.build Z (Qd (c := [O ((b.Task.Vars.length : Int))]) (Qf Z Z) (Qd (c := [O 1]) (Qf Z Z) Qg)) (v := Value.agg #[O ((b.Task.Vars.length : Int)), O 1]) (fun _ => by kernel_rfl) ⟨Z, Z⟩)) Qi))))), ?_⟩
      refine Qo Z Z (Qb Z Z ⟨Z, ?_⟩)
      refine Qo Z Z (Zp F29_0.h Z Z Z ⟨Z, ?_⟩)
      refine Qo Z Z (Zp F27_0.h Z Z Z ⟨Z, ?_⟩)
      refine QH ?_ ?_
      ·refine Qt Z Z (Exec.buildSlice (Te := 51) (cs := [O ((b.Task.Vars.length : Int)), O 1]) cc Z (Qd (c := [O ((b.Task.Vars.length : Int)), O 1]) (Qf Z Z) Qg) (fun _ => by kernel_rfl) ?_)
       intro dy sy fC
       refine ⟨(Qa (U Z Z (Zm (v := Vq a) Z Z ⟨Z, Z⟩)) (Qa (U Z Z (Zm (v := Vq a) Z Z ⟨Z, Z⟩)) (Qa (U Z Z (Zm (v := Vq a) Z Z ⟨Z, Z⟩)) (Qa (U Z Z (Qb Z Z ⟨Z, Z⟩)) (Qa (U Z Z (Zp F29_0.h Z Z Z ⟨Z, Z⟩)) (Qa (U Z Z (Zp F27_0.h Z Z Z ⟨Z, Z⟩)) Qi)))))), ?_⟩
       refine Qt Z Z (Qe (ds := [au]) (es := [au, o, m, j, d, i, l]) fC.f8 A22.h Z Z Z (Qj ((fC.f8).f3).arr_one) (Zj ((fC.f8).f3).arr_one Qk) (Nat.le_of_ble_eq_true Z) Z ?_)
       intro sz fD
       refine ⟨(Qa (U Z Z (Zm (v := Vq a) Z Z ⟨Z, Z⟩)) (Qa (U Z Z (Zm (v := Vq a) Z Z ⟨Z, Z⟩)) Qi)), ?_⟩
       refine Qo Z Z (Qb Z Z ⟨Z, ?_⟩)
       refine Qo Z Z (Zp F29_0.h Z Z Z ⟨Z, ?_⟩)
       refine Qo Z Z (Zp F27_1.h Z Z Z ⟨Z, ?_⟩)
       refine Qt Z Z (Qe (ds := [aB]) (es := [au, aB, m, j, d, i, l]) fD A22.h Z Z Z (Qj (fD.f2).arr_one) (Zj (fD.f2).arr_one Qk) (Nat.le_of_ble_eq_true Z) Z ?_)
       intro s0 l9
       refine ⟨(Qa (U Z Z (Zm (v := Vq a) Z Z ⟨Z, Z⟩)) Qi), ?_⟩
       refine Q5 (Za Z Z (Qb Z Z (Za Z Z (Zp F29_0.h Z Z Z (Za Z Z (Zp F27_2.h Z Z Z ?_))))))
       have hP := St.boxArr (E := encFact) (xs := [(⟨(b.Task.Vars.length : Int), 1⟩ : Fact)]) l9.f1 ⟨[O ((b.Task.Vars.length : Int)), O 1], [], rfl, ⟨[O ((b.Task.Vars.length : Int))], [O 1], rfl, rfl, rfl⟩, rfl⟩ (by simp [maxLen])
       refine Za Z Z (Qe (ds := [Vs (some ⟨dy, 0, none⟩) 1 1]) (es := [au, aB, Vs (some ⟨dy, 0, none⟩) 1 1, j, d, i, l]) hP.f1 A24.h Z Z Z Z (Zj ((hP.f1).f1).arr_one Qk) (Nat.le_of_ble_eq_true Z) Z ?_)
       intro s1 lA
       refine Zb (Ze ?_)
       exact ⟨am, au, aB, (Vs (some ⟨dy, 0, none⟩) 1 1), (Zv _), (((((((((((lA.f1).f11).f11).f11).f5).f6).f6).f11).f11).f11).f11).f11, (Fx.mk)⟩
      refine Qt Z Z (Qe (ds := [au]) (es := [au, o, m, j, d, i, l]) cc.f7 A22.h Z Z Z (Qj ((cc.f7).f2).arr_one) (Zj ((cc.f7).f2).arr_one Qk) (Nat.le_of_ble_eq_true Z) Z ?_)
      intro s2 cd
      refine ⟨(Qa (U Z Z (Zm (v := Vq a) Z Z ⟨Z, Z⟩)) (Qa (U Z Z (Zm (v := Vq a) Z Z ⟨Z, Z⟩)) (Qa (U Z Z (Zm (v := O ((b.Task.Vars.length : Int))) Z Z ⟨Z, Z⟩)) (Qa (U Z Z (Exec.build Z (Qd (c := [O ((b.Task.Vars.length : Int))]) (Qf Z Z) (Qd (c := [O 1]) (Qf Z Z) Qg)) (v := Value.agg #[O ((b.Task.Vars.length : Int)), O 1]) (fun _ => by kernel_rfl) ⟨Z, Z⟩)) Qi)))), ?_⟩
      refine Qo Z Z (Qb Z Z ⟨Z, ?_⟩)
      refine Qo Z Z (Zp F29_0.h Z Z Z ⟨Z, ?_⟩)
      refine Qo Z Z (Zp F27_1.h Z Z Z ⟨Z, ?_⟩)
      refine QH ?_ ?_
      ·refine Qt Z Z (Exec.buildSlice (Te := 51) (cs := [O ((b.Task.Vars.length : Int)), O 1]) cd Z (Qd (c := [O ((b.Task.Vars.length : Int)), O 1]) (Qf Z Z) Qg) (fun _ => by kernel_rfl) ?_)
       intro dz s3 fE
       refine ⟨(Qa (U Z Z (Zm (v := Vq a) Z Z ⟨Z, Z⟩)) (Qa (U Z Z (Zm (v := Vq a) Z Z ⟨Z, Z⟩)) (Qa (U Z Z (Qb Z Z ⟨Z, Z⟩)) (Qa (U Z Z (Zp F29_0.h Z Z Z ⟨Z, Z⟩)) (Qa (U Z Z (Zp F27_1.h Z Z Z ⟨Z, Z⟩)) Qi))))), ?_⟩
       refine Qt Z Z (Qe (ds := [aB]) (es := [au, aB, m, j, d, i, l]) fE.f1 A22.h Z Z Z (Qj ((fE.f1).f2).arr_one) (Zj ((fE.f1).f2).arr_one Qk) (Nat.le_of_ble_eq_true Z) Z ?_)
       intro s4 lB
       refine ⟨(Qa (U Z Z (Zm (v := Vq a) Z Z ⟨Z, Z⟩)) Qi), ?_⟩
       refine Q5 (Za Z Z (Qb Z Z (Za Z Z (Zp F29_0.h Z Z Z (Za Z Z (Zp F27_2.h Z Z Z ?_))))))
       have hQ := St.boxArr (E := encFact) (xs := [(⟨(b.Task.Vars.length : Int), 1⟩ : Fact)]) lB.f1 ⟨[O ((b.Task.Vars.length : Int)), O 1], [], rfl, ⟨[O ((b.Task.Vars.length : Int))], [O 1], rfl, rfl, rfl⟩, rfl⟩ (by simp [maxLen])
       refine Za Z Z (Qe (ds := [Vs (some ⟨dz, 0, none⟩) 1 1]) (es := [au, aB, Vs (some ⟨dz, 0, none⟩) 1 1, j, d, i, l]) hQ.f1 A24.h Z Z Z Z (Zj ((hQ.f1).f1).arr_one Qk) (Nat.le_of_ble_eq_true Z) Z ?_)
       intro s5 lC
       refine Zb (Ze ?_)
       exact ⟨am, au, aB, (Vs (some ⟨dz, 0, none⟩) 1 1), (Zv _), (((((((((((lC.f1).f11).f11).f11).f5).f6).f6).f11).f11).f11).f11).f11, (Fx.mk)⟩
      refine Qt Z Z (Qe (ds := [aB]) (es := [au, aB, m, j, d, i, l]) cd A22.h Z Z Z (Qj (cd.f1).arr_one) (Zj (cd.f1).arr_one Qk) (Nat.le_of_ble_eq_true Z) Z ?_)
      intro s6 jk
      refine ⟨(Qa (U Z Z (Zm (v := Vq a) Z Z ⟨Z, Z⟩)) (Qa (U Z Z (Zm (v := O ((b.Task.Vars.length : Int))) Z Z ⟨Z, Z⟩)) (Qa (U Z Z (Exec.build Z (Qd (c := [O ((b.Task.Vars.length : Int))]) (Qf Z Z) (Qd (c := [O 1]) (Qf Z Z) Qg)) (v := Value.agg #[O ((b.Task.Vars.length : Int)), O 1]) (fun _ => by kernel_rfl) ⟨Z, Z⟩)) Qi))), ?_⟩
      refine Qt Z Z (Exec.buildSlice (Te := 51) (cs := [O ((b.Task.Vars.length : Int)), O 1]) jk Z (Qd (c := [O ((b.Task.Vars.length : Int)), O 1]) (Qf Z Z) Qg) (fun _ => by kernel_rfl) ?_)
      intro d0 s7 jl
      refine ⟨(Qa (U Z Z (Zm (v := Vq a) Z Z ⟨Z, Z⟩)) Qi), ?_⟩
      refine Q5 (Za Z Z (Qb Z Z (Za Z Z (Zp F29_0.h Z Z Z (Za Z Z (Zp F27_2.h Z Z Z ?_))))))
      have g0 := St.boxArr (E := encFact) (xs := [(⟨(b.Task.Vars.length : Int), 1⟩ : Fact)]) jl ⟨[O ((b.Task.Vars.length : Int)), O 1], [], rfl, ⟨[O ((b.Task.Vars.length : Int))], [O 1], rfl, rfl, rfl⟩, rfl⟩ (by simp [maxLen])
      refine Za Z Z (Qe (ds := [Vs (some ⟨d0, 0, none⟩) 1 1]) (es := [au, aB, Vs (some ⟨d0, 0, none⟩) 1 1, j, d, i, l]) g0.f1 A24.h Z Z Z Z (Zj ((g0.f1).f1).arr_one Qk) (Nat.le_of_ble_eq_true Z) Z ?_)
      intro s8 jm
      refine Zb (Ze ?_)
      exact ⟨am, au, aB, (Vs (some ⟨d0, 0, none⟩) 1 1), (Zv _), (((((((((((jm.f1).f11).f11).f11).f5).f6).f6).f11).f11).f11).f11).f11, (Fx.mk)⟩
     refine Qt Z Z (Exec.buildSlice (Te := 51) (cs := [O ((b.Task.Vars.length : Int)), O 1]) fB Z (Qd (c := [O ((b.Task.Vars.length : Int)), O 1]) (Qf Z Z) Qg) (fun _ => by kernel_rfl) ?_)
     intro d1 s9 g1
     refine ⟨(Qa (U Z Z (Zm (v := Vq a) Z Z ⟨Z, Z⟩)) (Qa (U Z Z (Zm (v := Vq a) Z Z ⟨Z, Z⟩)) (Qa (U Z Z (Zm (v := Vq a) Z Z ⟨Z, Z⟩)) (Qa (U Z Z (Zm (v := Vq a) Z Z ⟨Z, Z⟩)) (Qa (U Z Z (Qb Z Z ⟨Z, Z⟩)) (Qa (U Z Z (Zp F29_0.h Z Z Z ⟨Z, Z⟩)) (Qa (U Z Z (Zp F27_1.h Z Z Z ⟨Z, Z⟩)) (Qa (U Z Z (Zn (g1.f8) A22.h Z Z Z ⟨Z, Z⟩)) Qi)))))))), ?_⟩
     refine Qt Z Z (Qh (E := (Qc .i64)) (ys := [0]) (g1.f2).f9 S22.h Z3 Z (by decide) Z Z Z Z ⟨[O 0], [], Z, Z, Z⟩ Z a2 ?_)
     intro cB sA d9
     refine ⟨(Qa (U Z Z (Zm (v := Vq a) Z Z ⟨Z, Z⟩)) (Qa (U Z Z (Zm (v := Vq a) Z Z ⟨Z, Z⟩)) (Qa (U Z Z (Zm (v := Vq a) Z Z ⟨Z, Z⟩)) Qi))), ?_⟩
     refine Qo Z Z (Qb Z Z ⟨Z, ?_⟩)
     refine Qo Z Z (Zp F29_0.h Z Z Z ⟨Z, ?_⟩)
     refine Qo Z Z (Zp F27_0.h Z Z Z ⟨Z, ?_⟩)
     refine Qt Z Z (Qe (ds := [au]) (es := [au, o, m, j, d, i, l]) d9.f8 A22.h Z Z Z (Qj ((d9.f8).f3).arr_one) (Zj ((d9.f8).f3).arr_one Qk) (Nat.le_of_ble_eq_true Z) Z ?_)
     intro sB dA
     refine ⟨(Qa (U Z Z (Zm (v := Vq a) Z Z ⟨Z, Z⟩)) (Qa (U Z Z (Zm (v := Vq a) Z Z ⟨Z, Z⟩)) Qi)), ?_⟩
     refine Qo Z Z (Qb Z Z ⟨Z, ?_⟩)
     refine Qo Z Z (Zp F29_0.h Z Z Z ⟨Z, ?_⟩)
     refine Qo Z Z (Zp F27_1.h Z Z Z ⟨Z, ?_⟩)
     refine Qt Z Z (Qe (ds := [cB]) (es := [au, cB, m, j, d, i, l]) dA A22.h Z Z Z (Qj (dA.f1).arr_one) (Zj (dA.f1).arr_one Qk) (Nat.le_of_ble_eq_true Z) Z ?_)
     intro sC jn
     refine ⟨(Qa (U Z Z (Zm (v := Vq a) Z Z ⟨Z, Z⟩)) Qi), ?_⟩
     refine Q5 (Za Z Z (Qb Z Z (Za Z Z (Zp F29_0.h Z Z Z (Za Z Z (Zp F27_2.h Z Z Z ?_))))))
     have g2 := St.boxArr (E := encFact) (xs := [(⟨(b.Task.Vars.length : Int), 1⟩ : Fact)]) jn.f2 ⟨[O ((b.Task.Vars.length : Int)), O 1], [], rfl, ⟨[O ((b.Task.Vars.length : Int))], [O 1], rfl, rfl, rfl⟩, rfl⟩ (by simp [maxLen])
     refine Za Z Z (Qe (ds := [Vs (some ⟨d1, 0, none⟩) 1 1]) (es := [au, cB, Vs (some ⟨d1, 0, none⟩) 1 1, j, d, i, l]) g2.f1 A24.h Z Z Z Z (Zj ((g2.f1).f1).arr_one Qk) (Nat.le_of_ble_eq_true Z) Z ?_)
     intro sD jo
     refine Zb (Ze ?_)
     exact ⟨am, au, cB, (Vs (some ⟨d1, 0, none⟩) 1 1), (Zv _), (((((((((((jo.f1).f11).f11).f11).f5).f6).f6).f11).f11).f11).f11).f11, (Fx.mk)⟩
    refine Qt Z Z (Exec.buildSlice (Te := 51) (cs := [O ((b.Task.Vars.length : Int)), O 1]) cb Z (Qd (c := [O ((b.Task.Vars.length : Int)), O 1]) (Qf Z Z) Qg) (fun _ => by kernel_rfl) ?_)
    intro d2 sE dB
    refine ⟨(Qa (U Z Z (Zm (v := Vq a) Z Z ⟨Z, Z⟩)) (Qa (U Z Z (Zm (v := Vq a) Z Z ⟨Z, Z⟩)) (Qa (U Z Z (Zm (v := Vq a) Z Z ⟨Z, Z⟩)) (Qa (U Z Z (Zm (v := Vq a) Z Z ⟨Z, Z⟩)) (Qa (U Z Z (Qb Z Z ⟨Z, Z⟩)) (Qa (U Z Z (Zp F29_0.h Z Z Z ⟨Z, Z⟩)) (Qa (U Z Z (Zp F27_0.h Z Z Z ⟨Z, Z⟩)) (Qa (U Z Z (Zn (dB.f8) A22.h Z Z Z ⟨Z, Z⟩)) (Qa (U Z Z (Zm (v := Vq a) Z Z ⟨Z, Z⟩)) (Qa (U Z Z (Qb Z Z ⟨Z, Z⟩)) (Qa (U Z Z (Zp F29_0.h Z Z Z ⟨Z, Z⟩)) (Qa (U Z Z (Zp F27_1.h Z Z Z ⟨Z, Z⟩)) (Qa (U Z Z (Zn (dB.f8) A22.h Z Z Z ⟨Z, Z⟩)) Qi))))))))))))), ?_⟩
    refine Qt Z Z (Qh (E := (Qc .i64)) (ys := [2]) (dB.f2).f9 S22.h Z3 Z (by decide) Z Z Z Z ⟨[O 2], [], Z, Z, Z⟩ Z aI ?_)
    intro b1 sF g3
    refine ⟨(Qa (U Z Z (Zm (v := Vq a) Z Z ⟨Z, Z⟩)) (Qa (U Z Z (Zm (v := Vq a) Z Z ⟨Z, Z⟩)) (Qa (U Z Z (Zm (v := Vq a) Z Z ⟨Z, Z⟩)) (Qa (U Z Z (Zm (v := Vq a) Z Z ⟨Z, Z⟩)) (Qa (U Z Z (Qb Z Z ⟨Z, Z⟩)) (Qa (U Z Z (Zp F29_0.h Z Z Z ⟨Z, Z⟩)) (Qa (U Z Z (Zp F27_1.h Z Z Z ⟨Z, Z⟩)) (Qa (U Z Z (Zn (g3.f8) A22.h Z Z Z ⟨Z, Z⟩)) Qi)))))))), ?_⟩
    refine Qt Z Z (Qh (E := (Qc .i64)) (ys := [0]) (g3.f2).f9 S22.h Z3 Z (by decide) Z Z Z Z ⟨[O 0], [], Z, Z, Z⟩ Z a2 ?_)
    intro cC sG dC
    refine ⟨(Qa (U Z Z (Zm (v := Vq a) Z Z ⟨Z, Z⟩)) (Qa (U Z Z (Zm (v := Vq a) Z Z ⟨Z, Z⟩)) (Qa (U Z Z (Zm (v := Vq a) Z Z ⟨Z, Z⟩)) Qi))), ?_⟩
    refine Qo Z Z (Qb Z Z ⟨Z, ?_⟩)
    refine Qo Z Z (Zp F29_0.h Z Z Z ⟨Z, ?_⟩)
    refine Qo Z Z (Zp F27_0.h Z Z Z ⟨Z, ?_⟩)
    refine Qt Z Z (Qe (ds := [b1]) (es := [b1, o, m, j, d, i, l]) dC.f8 A22.h Z Z Z (Qj ((dC.f8).f2).arr_one) (Zj ((dC.f8).f2).arr_one Qk) (Nat.le_of_ble_eq_true Z) Z ?_)
    intro sH dD
    refine ⟨(Qa (U Z Z (Zm (v := Vq a) Z Z ⟨Z, Z⟩)) (Qa (U Z Z (Zm (v := Vq a) Z Z ⟨Z, Z⟩)) Qi)), ?_⟩
    refine Qo Z Z (Qb Z Z ⟨Z, ?_⟩)
    refine Qo Z Z (Zp F29_0.h Z Z Z ⟨Z, ?_⟩)
    refine Qo Z Z (Zp F27_1.h Z Z Z ⟨Z, ?_⟩)
    refine Qt Z Z (Qe (ds := [cC]) (es := [b1, cC, m, j, d, i, l]) dD A22.h Z Z Z (Qj (dD.f1).arr_one) (Zj (dD.f1).arr_one Qk) (Nat.le_of_ble_eq_true Z) Z ?_)
    intro sI jp
    refine ⟨(Qa (U Z Z (Zm (v := Vq a) Z Z ⟨Z, Z⟩)) Qi), ?_⟩
    refine Q5 (Za Z Z (Qb Z Z (Za Z Z (Zp F29_0.h Z Z Z (Za Z Z (Zp F27_2.h Z Z Z ?_))))))
    have g4 := St.boxArr (E := encFact) (xs := [(⟨(b.Task.Vars.length : Int), 1⟩ : Fact)]) jp.f3 ⟨[O ((b.Task.Vars.length : Int)), O 1], [], rfl, ⟨[O ((b.Task.Vars.length : Int))], [O 1], rfl, rfl, rfl⟩, rfl⟩ (by simp [maxLen])
    refine Za Z Z (Qe (ds := [Vs (some ⟨d2, 0, none⟩) 1 1]) (es := [b1, cC, Vs (some ⟨d2, 0, none⟩) 1 1, j, d, i, l]) g4.f1 A24.h Z Z Z Z (Zj ((g4.f1).f1).arr_one Qk) (Nat.le_of_ble_eq_true Z) Z ?_)
    intro sJ jq
    refine Zb (Ze ?_)
    exact ⟨am, b1, cC, (Vs (some ⟨d2, 0, none⟩) 1 1), (Zv _), (((((((((((jq.f1).f11).f11).f11).f5).f6).f6).f11).f11).f11).f11).f11, (Fx.mk)⟩
   refine Qt Z Z (Exec.buildSlice (Te := 51) (cs := [O ((b.Task.Vars.length : Int)), O 1]) bn Z (Qd (c := [O ((b.Task.Vars.length : Int)), O 1]) (Qf Z Z) Qg) (fun _ => by kernel_rfl) ?_)
   intro ba sK bC
   refine ⟨(Qa (U Z Z (Zm (v := Vq a) Z Z ⟨Z, Z⟩)) (Qa (U Z Z (Zm (v := Vq a) Z Z ⟨Z, Z⟩)) (Qa (U Z Z (Zm (v := Vq a) Z Z ⟨Z, Z⟩)) (Qa (U Z Z (Zm (v := Vq a) Z Z ⟨Z, Z⟩)) (Qa (U Z Z (Qb Z Z ⟨Z, Z⟩)) (Qa (U Z Z (Zp F29_0.h Z Z Z ⟨Z, Z⟩)) (Qa (U Z Z (Zp F27_0.h Z Z Z ⟨Z, Z⟩)) (Qa (U Z Z (Zn (bC.f7) A22.h Z Z Z ⟨Z, Z⟩)) (Qa (U Z Z (Zm (v := Vq a) Z Z ⟨Z, Z⟩)) (Qa (U Z Z (Qb Z Z ⟨Z, Z⟩)) (Qa (U Z Z (Zp F29_0.h Z Z Z ⟨Z, Z⟩)) (Qa (U Z Z (Zp F27_1.h Z Z Z ⟨Z, Z⟩)) (Qa (U Z Z (Zn (bC.f7) A22.h Z Z Z ⟨Z, Z⟩)) Qi))))))))))))), ?_⟩
   refine QH ?_ ?_
   ·have jr := bC.f1
    refine Qt Z Z (Qh (E := (Qc .i64)) (ys := [2]) jr.f8 S22.h Z3 Z (by decide) Z Z Z Z ⟨[O 2], [], Z, Z, Z⟩ Z aI ?_)
    intro b2 sL g5
    refine ⟨(Qa (U Z Z (Zm (v := Vq a) Z Z ⟨Z, Z⟩)) (Qa (U Z Z (Zm (v := Vq a) Z Z ⟨Z, Z⟩)) (Qa (U Z Z (Zm (v := Vq a) Z Z ⟨Z, Z⟩)) (Qa (U Z Z (Zm (v := Vq a) Z Z ⟨Z, Z⟩)) (Qa (U Z Z (Qb Z Z ⟨Z, Z⟩)) (Qa (U Z Z (Zp F29_0.h Z Z Z ⟨Z, Z⟩)) (Qa (U Z Z (Zp F27_1.h Z Z Z ⟨Z, Z⟩)) (Qa (U Z Z (Zn (g5.f7) A22.h Z Z Z ⟨Z, Z⟩)) Qi)))))))), ?_⟩
    refine Qt Z Z (Exec.buildSlice (Te := 3) (cs := [O 0]) g5 Z (Qd (c := [O 0]) (Qf Z Z) Qg) (fun _ => by kernel_rfl) ?_)
    intro nW sM g6
    refine ⟨(Qa (U Z Z (Zm (v := Vq a) Z Z ⟨Z, Z⟩)) (Qa (U Z Z (Zm (v := Vq a) Z Z ⟨Z, Z⟩)) (Qa (U Z Z (Zm (v := Vq a) Z Z ⟨Z, Z⟩)) (Qa (U Z Z (Zm (v := Vq a) Z Z ⟨Z, Z⟩)) (Qa (U Z Z (Qb Z Z ⟨Z, Z⟩)) (Qa (U Z Z (Zp F29_0.h Z Z Z ⟨Z, Z⟩)) (Qa (U Z Z (Zp F27_1.h Z Z Z ⟨Z, Z⟩)) (Qa (U Z Z (Zn (g6.f8) A22.h Z Z Z ⟨Z, Z⟩)) Qi)))))))), ?_⟩
    refine Qt Z Z (Qh (E := (Qc .i64)) (ys := [0]) g6.f9 S22.h Z3 Z (by decide) Z Z Z Z ⟨[O 0], [], Z, Z, Z⟩ Z a2 ?_)
    intro cD sN dE
    refine ⟨(Qa (U Z Z (Zm (v := Vq a) Z Z ⟨Z, Z⟩)) (Qa (U Z Z (Zm (v := Vq a) Z Z ⟨Z, Z⟩)) (Qa (U Z Z (Zm (v := Vq a) Z Z ⟨Z, Z⟩)) Qi))), ?_⟩
    refine Qo Z Z (Qb Z Z ⟨Z, ?_⟩)
    refine Qo Z Z (Zp F29_0.h Z Z Z ⟨Z, ?_⟩)
    refine Qo Z Z (Zp F27_0.h Z Z Z ⟨Z, ?_⟩)
    refine Qt Z Z (Qe (ds := [b2]) (es := [b2, o, m, j, d, i, l]) dE.f8 A22.h Z Z Z (Qj ((dE.f8).f2).arr_one) (Zj ((dE.f8).f2).arr_one Qk) (Nat.le_of_ble_eq_true Z) Z ?_)
    intro sO dF
    refine ⟨(Qa (U Z Z (Zm (v := Vq a) Z Z ⟨Z, Z⟩)) (Qa (U Z Z (Zm (v := Vq a) Z Z ⟨Z, Z⟩)) Qi)), ?_⟩
    refine Qo Z Z (Qb Z Z ⟨Z, ?_⟩)
    refine Qo Z Z (Zp F29_0.h Z Z Z ⟨Z, ?_⟩)
    refine Qo Z Z (Zp F27_1.h Z Z Z ⟨Z, ?_⟩)
    refine Qt Z Z (Qe (ds := [cD]) (es := [b2, cD, m, j, d, i, l]) dF A22.h Z Z Z (Qj (dF.f1).arr_one) (Zj (dF.f1).arr_one Qk) (Nat.le_of_ble_eq_true Z) Z ?_)
    intro sP js
    refine ⟨(Qa (U Z Z (Zm (v := Vq a) Z Z ⟨Z, Z⟩)) Qi), ?_⟩
    refine Q5 (Za Z Z (Qb Z Z (Za Z Z (Zp F29_0.h Z Z Z (Za Z Z (Zp F27_2.h Z Z Z ?_))))))
    have g7 := St.boxArr (E := encFact) (xs := [(⟨(b.Task.Vars.length : Int), 1⟩ : Fact)]) js.f3 ⟨[O ((b.Task.Vars.length : Int)), O 1], [], rfl, ⟨[O ((b.Task.Vars.length : Int))], [O 1], rfl, rfl, rfl⟩, rfl⟩ (by simp [maxLen])
    refine Za Z Z (Qe (ds := [Vs (some ⟨ba, 0, none⟩) 1 1]) (es := [b2, cD, Vs (some ⟨ba, 0, none⟩) 1 1, j, d, i, l]) g7.f1 A24.h Z Z Z Z (Zj ((g7.f1).f1).arr_one Qk) (Nat.le_of_ble_eq_true Z) Z ?_)
    intro sQ jt
    refine Zb (Ze ?_)
    exact ⟨am, b2, cD, (Vs (some ⟨ba, 0, none⟩) 1 1), (Zv _), (((((((((((jt.f1).f11).f11).f11).f5).f6).f6).f11).f11).f11).f11).f11, (Fx.mk)⟩
   refine Qt Z Z (Exec.buildSlice (Te := 3) (cs := [O 0]) bC Z (Qd (c := [O 0]) (Qf Z Z) Qg) (fun _ => by kernel_rfl) ?_)
   intro nX sR dG
   refine ⟨(Qa (U Z Z (Zm (v := Vq a) Z Z ⟨Z, Z⟩)) (Qa (U Z Z (Zm (v := Vq a) Z Z ⟨Z, Z⟩)) (Qa (U Z Z (Zm (v := Vq a) Z Z ⟨Z, Z⟩)) (Qa (U Z Z (Zm (v := Vq a) Z Z ⟨Z, Z⟩)) (Qa (U Z Z (Qb Z Z ⟨Z, Z⟩)) (Qa (U Z Z (Zp F29_0.h Z Z Z ⟨Z, Z⟩)) (Qa (U Z Z (Zp F27_0.h Z Z Z ⟨Z, Z⟩)) (Qa (U Z Z (Zn (dG.f8) A22.h Z Z Z ⟨Z, Z⟩)) (Qa (U Z Z (Zm (v := Vq a) Z Z ⟨Z, Z⟩)) (Qa (U Z Z (Qb Z Z ⟨Z, Z⟩)) (Qa (U Z Z (Zp F29_0.h Z Z Z ⟨Z, Z⟩)) (Qa (U Z Z (Zp F27_1.h Z Z Z ⟨Z, Z⟩)) (Qa (U Z Z (Zn (dG.f8) A22.h Z Z Z ⟨Z, Z⟩)) Qi))))))))))))), ?_⟩
   refine Qt Z Z (Qh (E := (Qc .i64)) (ys := [2]) (dG.f2).f9 S22.h Z3 Z (by decide) Z Z Z Z ⟨[O 2], [], Z, Z, Z⟩ Z aI ?_)
   intro b3 sS g8
   refine ⟨(Qa (U Z Z (Zm (v := Vq a) Z Z ⟨Z, Z⟩)) (Qa (U Z Z (Zm (v := Vq a) Z Z ⟨Z, Z⟩)) (Qa (U Z Z (Zm (v := Vq a) Z Z ⟨Z, Z⟩)) (Qa (U Z Z (Zm (v := Vq a) Z Z ⟨Z, Z⟩)) (Qa (U Z Z (Qb Z Z ⟨Z, Z⟩)) (Qa (U Z Z (Zp F29_0.h Z Z Z ⟨Z, Z⟩)) (Qa (U Z Z (Zp F27_1.h Z Z Z ⟨Z, Z⟩)) (Qa (U Z Z (Zn (g8.f8) A22.h Z Z Z ⟨Z, Z⟩)) Qi)))))))), ?_⟩
   refine Qt Z Z (Qh (E := (Qc .i64)) (ys := [0]) (g8.f1).f9 S22.h Z3 Z (by decide) Z Z Z Z ⟨[O 0], [], Z, Z, Z⟩ Z a2 ?_)
   intro cE sT dH
   refine ⟨(Qa (U Z Z (Zm (v := Vq a) Z Z ⟨Z, Z⟩)) (Qa (U Z Z (Zm (v := Vq a) Z Z ⟨Z, Z⟩)) (Qa (U Z Z (Zm (v := Vq a) Z Z ⟨Z, Z⟩)) Qi))), ?_⟩
   refine Qo Z Z (Qb Z Z ⟨Z, ?_⟩)
   refine Qo Z Z (Zp F29_0.h Z Z Z ⟨Z, ?_⟩)
   refine Qo Z Z (Zp F27_0.h Z Z Z ⟨Z, ?_⟩)
   refine Qt Z Z (Qe (ds := [b3]) (es := [b3, o, m, j, d, i, l]) dH.f8 A22.h Z Z Z (Qj ((dH.f8).f2).arr_one) (Zj ((dH.f8).f2).arr_one Qk) (Nat.le_of_ble_eq_true Z) Z ?_)
   intro sU dI
   refine ⟨(Qa (U Z Z (Zm (v := Vq a) Z Z ⟨Z, Z⟩)) (Qa (U Z Z (Zm (v := Vq a) Z Z ⟨Z, Z⟩)) Qi)), ?_⟩
   refine Qo Z Z (Qb Z Z ⟨Z, ?_⟩)
   refine Qo Z Z (Zp F29_0.h Z Z Z ⟨Z, ?_⟩)
   refine Qo Z Z (Zp F27_1.h Z Z Z ⟨Z, ?_⟩)
   refine Qt Z Z (Qe (ds := [cE]) (es := [b3, cE, m, j, d, i, l]) dI A22.h Z Z Z (Qj (dI.f1).arr_one) (Zj (dI.f1).arr_one Qk) (Nat.le_of_ble_eq_true Z) Z ?_)
   intro sV ju
   refine ⟨(Qa (U Z Z (Zm (v := Vq a) Z Z ⟨Z, Z⟩)) Qi), ?_⟩
   refine Q5 (Za Z Z (Qb Z Z (Za Z Z (Zp F29_0.h Z Z Z (Za Z Z (Zp F27_2.h Z Z Z ?_))))))
   have g9 := St.boxArr (E := encFact) (xs := [(⟨(b.Task.Vars.length : Int), 1⟩ : Fact)]) ju.f3 ⟨[O ((b.Task.Vars.length : Int)), O 1], [], rfl, ⟨[O ((b.Task.Vars.length : Int))], [O 1], rfl, rfl, rfl⟩, rfl⟩ (by simp [maxLen])
   refine Za Z Z (Qe (ds := [Vs (some ⟨ba, 0, none⟩) 1 1]) (es := [b3, cE, Vs (some ⟨ba, 0, none⟩) 1 1, j, d, i, l]) g9.f1 A24.h Z Z Z Z (Zj ((g9.f1).f1).arr_one Qk) (Nat.le_of_ble_eq_true Z) Z ?_)
   intro sW jv
   refine Zb (Ze ?_)
   exact ⟨am, b3, cE, (Vs (some ⟨ba, 0, none⟩) 1 1), (Zv _), (((((((((((jv.f1).f11).f11).f11).f5).f6).f6).f11).f11).f11).f11).f11, (Fx.mk)⟩
  refine QH ?_ ?_
  ·refine Qt Z Z (Exec.buildSlice (Te := 3) (cs := [O 0]) aJ.drew Z (Qd (c := [O 0]) (Qf Z Z) Qg) (fun _ => by kernel_rfl) ?_)
   intro nY sX bD
   refine ⟨(Qa (U Z Z (Zm (v := Vq a) Z Z ⟨Z, Z⟩)) (Qa (U Z Z (Zm (v := Vq a) Z Z ⟨Z, Z⟩)) (Qa (U Z Z (Zm (v := Vq a) Z Z ⟨Z, Z⟩)) (Qa (U Z Z (Zm (v := Vq a) Z Z ⟨Z, Z⟩)) (Qa (U Z Z (Qb Z Z ⟨Z, Z⟩)) (Qa (U Z Z (Zp F29_0.h Z Z Z ⟨Z, Z⟩)) (Qa (U Z Z (Zp F27_0.h Z Z Z ⟨Z, Z⟩)) (Qa (U Z Z (Zn (bD.f6) A22.h Z Z Z ⟨Z, Z⟩)) (Qa (U Z Z (Zm (v := Vq a) Z Z ⟨Z, Z⟩)) (Qa (U Z Z (Qb Z Z ⟨Z, Z⟩)) (Qa (U Z Z (Zp F29_0.h Z Z Z ⟨Z, Z⟩)) (Qa (U Z Z (Zp F27_1.h Z Z Z ⟨Z, Z⟩)) (Qa (U Z Z (Zn (bD.f6) A22.h Z Z Z ⟨Z, Z⟩)) (Qa (U Z Z (Zm (v := O ((b.Task.Vars.length : Int))) Z Z ⟨Z, Z⟩)) (Qa (U Z Z (Exec.build Z (Qd (c := [O ((b.Task.Vars.length : Int))]) (Qf Z Z) (Qd (c := [O 1]) (Qf Z Z) Qg)) (v := Value.agg #[O ((b.Task.Vars.length : Int)), O 1]) (fun _ => by kernel_rfl) ⟨Z, Z⟩)) Qi))))))))))))))), ?_⟩
   refine QH ?_ ?_
   ·refine Qt Z Z (Exec.buildSlice (Te := 3) (cs := [O 2]) bD Z (Qd (c := [O 2]) (Qf Z Z) Qg) (fun _ => by kernel_rfl) ?_)
    intro nZ sY bE
    refine ⟨(Qa (U Z Z (Zm (v := Vq a) Z Z ⟨Z, Z⟩)) (Qa (U Z Z (Zm (v := Vq a) Z Z ⟨Z, Z⟩)) (Qa (U Z Z (Zm (v := Vq a) Z Z ⟨Z, Z⟩)) (Qa (U Z Z (Zm (v := Vq a) Z Z ⟨Z, Z⟩)) (Qa (U Z Z (Qb Z Z ⟨Z, Z⟩)) (Qa (U Z Z (Zp F29_0.h Z Z Z ⟨Z, Z⟩)) (Qa (U Z Z (Zp F27_0.h Z Z Z ⟨Z, Z⟩)) (Qa (U Z Z (Zn (bE.f7) A22.h Z Z Z ⟨Z, Z⟩)) (Qa (U Z Z (Zm (v := Vq a) Z Z ⟨Z, Z⟩)) (Qa (U Z Z (Qb Z Z ⟨Z, Z⟩)) (Qa (U Z Z (Zp F29_0.h Z Z Z ⟨Z, Z⟩)) (Qa (U Z Z (Zp F27_1.h Z Z Z ⟨Z, Z⟩)) (Qa (U Z Z (Zn (bE.f7) A22.h Z Z Z ⟨Z, Z⟩)) (Qa (U Z Z (Zm (v := O ((b.Task.Vars.length : Int))) Z Z ⟨Z, Z⟩)) (Qa (U Z Z (Exec.build Z (Qd (c := [O ((b.Task.Vars.length : Int))]) (Qf Z Z) (Qd (c := [O 1]) (Qf Z Z) Qg)) (v := Value.agg #[O ((b.Task.Vars.length : Int)), O 1]) (fun _ => by kernel_rfl) ⟨Z, Z⟩)) Qi))))))))))))))), ?_⟩
    refine QH ?_ ?_
    ·have jw := bE.f8
     refine Qt Z Z (Qh (E := (Qc .i64)) (ys := [2]) jw S22.h Z3 Z (by decide) Z Z Z Z ⟨[O 2], [], Z, Z, Z⟩ Z aI ?_)
     intro av sZ dJ
     refine ⟨(Qa (U Z Z (Zm (v := Vq a) Z Z ⟨Z, Z⟩)) (Qa (U Z Z (Zm (v := Vq a) Z Z ⟨Z, Z⟩)) (Qa (U Z Z (Zm (v := Vq a) Z Z ⟨Z, Z⟩)) (Qa (U Z Z (Zm (v := Vq a) Z Z ⟨Z, Z⟩)) (Qa (U Z Z (Qb Z Z ⟨Z, Z⟩)) (Qa (U Z Z (Zp F29_0.h Z Z Z ⟨Z, Z⟩)) (Qa (U Z Z (Zp F27_1.h Z Z Z ⟨Z, Z⟩)) (Qa (U Z Z (Zn (dJ.f7) A22.h Z Z Z ⟨Z, Z⟩)) (Qa (U Z Z (Zm (v := O ((b.Task.Vars.length : Int))) Z Z ⟨Z, Z⟩)) (Qa (U Z Z (Exec.build Z (Qd (c := [O ((b.Task.Vars.length : Int))]) (Qf Z Z) (Qd (c := [O 1]) (Qf Z Z) Qg)) (v := Value.agg #[O ((b.Task.Vars.length : Int)), O 1]) (fun _ => by kernel_rfl) ⟨Z, Z⟩)) Qi)))))))))), ?_⟩
     refine QH ?_ ?_
     ·have jx := dJ.f1
      refine Qt Z Z (Qh (E := (Qc .i64)) (ys := [0]) jx.f8 S22.h Z3 Z (by decide) Z Z Z Z ⟨[O 0], [], Z, Z, Z⟩ Z a2 ?_)
      intro aC ta bF
      refine ⟨(Qa (U Z Z (Zm (v := Vq a) Z Z ⟨Z, Z⟩)) (Qa (U Z Z (Zm (v := Vq a) Z Z ⟨Z, Z⟩)) (Qa (U Z Z (Zm (v := Vq a) Z Z ⟨Z, Z⟩)) (Qa (U Z Z (Zm (v := O ((b.Task.Vars.length : Int))) Z Z ⟨Z, Z⟩)) (Qa (U Z Z (Exec.build Z (Qd (c := [O ((b.Task.Vars.length : Int))]) (Qf Z Z) (Qd (c := [O 1]) (Qf Z Z) Qg)) (v := Value.agg #[O ((b.Task.Vars.length : Int)), O 1]) (fun _ => by kernel_rfl) ⟨Z, Z⟩)) Qi))))), ?_⟩
      refine Qo Z Z (Qb Z Z ⟨Z, ?_⟩)
      refine Qo Z Z (Zp F29_0.h Z Z Z ⟨Z, ?_⟩)
      refine Qo Z Z (Zp F27_0.h Z Z Z ⟨Z, ?_⟩)
      refine QH ?_ ?_
      ·refine Qt Z Z (Exec.buildSlice (Te := 51) (cs := [O ((b.Task.Vars.length : Int)), O 1]) bF Z (Qd (c := [O ((b.Task.Vars.length : Int)), O 1]) (Qf Z Z) Qg) (fun _ => by kernel_rfl) ?_)
       intro d3 tb dK
       refine ⟨(Qa (U Z Z (Zm (v := Vq a) Z Z ⟨Z, Z⟩)) (Qa (U Z Z (Zm (v := Vq a) Z Z ⟨Z, Z⟩)) (Qa (U Z Z (Zm (v := Vq a) Z Z ⟨Z, Z⟩)) (Qa (U Z Z (Qb Z Z ⟨Z, Z⟩)) (Qa (U Z Z (Zp F29_0.h Z Z Z ⟨Z, Z⟩)) (Qa (U Z Z (Zp F27_0.h Z Z Z ⟨Z, Z⟩)) Qi)))))), ?_⟩
       refine Qt Z Z (Qe (ds := [av]) (es := [av, o, m, j, d, i, l]) dK.f8 A22.h Z Z Z (Qj ((dK.f8).f3).arr_one) (Zj ((dK.f8).f3).arr_one Qk) (Nat.le_of_ble_eq_true Z) Z ?_)
       intro tc dL
       refine ⟨(Qa (U Z Z (Zm (v := Vq a) Z Z ⟨Z, Z⟩)) (Qa (U Z Z (Zm (v := Vq a) Z Z ⟨Z, Z⟩)) Qi)), ?_⟩
       refine Qo Z Z (Qb Z Z ⟨Z, ?_⟩)
       refine Qo Z Z (Zp F29_0.h Z Z Z ⟨Z, ?_⟩)
       refine Qo Z Z (Zp F27_1.h Z Z Z ⟨Z, ?_⟩)
       refine Qt Z Z (Qe (ds := [aC]) (es := [av, aC, m, j, d, i, l]) dL A22.h Z Z Z (Qj (dL.f2).arr_one) (Zj (dL.f2).arr_one Qk) (Nat.le_of_ble_eq_true Z) Z ?_)
       intro td jy
       refine ⟨(Qa (U Z Z (Zm (v := Vq a) Z Z ⟨Z, Z⟩)) Qi), ?_⟩
       refine Q5 (Za Z Z (Qb Z Z (Za Z Z (Zp F29_0.h Z Z Z (Za Z Z (Zp F27_2.h Z Z Z ?_))))))
       have gA := St.boxArr (E := encFact) (xs := [(⟨(b.Task.Vars.length : Int), 1⟩ : Fact)]) jy.f1 ⟨[O ((b.Task.Vars.length : Int)), O 1], [], rfl, ⟨[O ((b.Task.Vars.length : Int))], [O 1], rfl, rfl, rfl⟩, rfl⟩ (by simp [maxLen])
       refine Za Z Z (Qe (ds := [Vs (some ⟨d3, 0, none⟩) 1 1]) (es := [av, aC, Vs (some ⟨d3, 0, none⟩) 1 1, j, d, i, l]) gA.f1 A24.h Z Z Z Z (Zj ((gA.f1).f1).arr_one Qk) (Nat.le_of_ble_eq_true Z) Z ?_)
       intro te jz
       refine Zb (Ze ?_)
       exact ⟨am, av, aC, (Vs (some ⟨d3, 0, none⟩) 1 1), (Zv _), (((((((((((jz.f1).f11).f11).f11).f5).f6).f6).f11).f11).f11).f11).f11, (Fx.mk)⟩
      refine Qt Z Z (Qe (ds := [av]) (es := [av, o, m, j, d, i, l]) bF.f7 A22.h Z Z Z (Qj ((bF.f7).f2).arr_one) (Zj ((bF.f7).f2).arr_one Qk) (Nat.le_of_ble_eq_true Z) Z ?_)
      intro tf bG
      refine ⟨(Qa (U Z Z (Zm (v := Vq a) Z Z ⟨Z, Z⟩)) (Qa (U Z Z (Zm (v := Vq a) Z Z ⟨Z, Z⟩)) (Qa (U Z Z (Zm (v := O ((b.Task.Vars.length : Int))) Z Z ⟨Z, Z⟩)) (Qa (U Z Z (Exec.build Z (Qd (c := [O ((b.Task.Vars.length : Int))]) (Qf Z Z) (Qd (c := [O 1]) (Qf Z Z) Qg)) (v := Value.agg #[O ((b.Task.Vars.length : Int)), O 1]) (fun _ => by kernel_rfl) ⟨Z, Z⟩)) Qi)))), ?_⟩
      refine Qo Z Z (Qb Z Z ⟨Z, ?_⟩)
      refine Qo Z Z (Zp F29_0.h Z Z Z ⟨Z, ?_⟩)
      refine Qo Z Z (Zp F27_1.h Z Z Z ⟨Z, ?_⟩)
      refine QH ?_ ?_
      ·refine Qt Z Z (Exec.buildSlice (Te := 51) (cs := [O ((b.Task.Vars.length : Int)), O 1]) bG Z (Qd (c := [O ((b.Task.Vars.length : Int)), O 1]) (Qf Z Z) Qg) (fun _ => by kernel_rfl) ?_)
       intro d4 tg dM
       refine ⟨(Qa (U Z Z (Zm (v := Vq a) Z Z ⟨Z, Z⟩)) (Qa (U Z Z (Zm (v := Vq a) Z Z ⟨Z, Z⟩)) (Qa (U Z Z (Qb Z Z ⟨Z, Z⟩)) (Qa (U Z Z (Zp F29_0.h Z Z Z ⟨Z, Z⟩)) (Qa (U Z Z (Zp F27_1.h Z Z Z ⟨Z, Z⟩)) Qi))))), ?_⟩
       refine Qt Z Z (Qe (ds := [aC]) (es := [av, aC, m, j, d, i, l]) dM.f1 A22.h Z Z Z (Qj ((dM.f1).f2).arr_one) (Zj ((dM.f1).f2).arr_one Qk) (Nat.le_of_ble_eq_true Z) Z ?_)
       intro th j0
       refine ⟨(Qa (U Z Z (Zm (v := Vq a) Z Z ⟨Z, Z⟩)) Qi), ?_⟩
       refine Q5 (Za Z Z (Qb Z Z (Za Z Z (Zp F29_0.h Z Z Z (Za Z Z (Zp F27_2.h Z Z Z ?_))))))
       have gB := St.boxArr (E := encFact) (xs := [(⟨(b.Task.Vars.length : Int), 1⟩ : Fact)]) j0.f1 ⟨[O ((b.Task.Vars.length : Int)), O 1], [], rfl, ⟨[O ((b.Task.Vars.length : Int))], [O 1], rfl, rfl, rfl⟩, rfl⟩ (by simp [maxLen])
       refine Za Z Z (Qe (ds := [Vs (some ⟨d4, 0, none⟩) 1 1]) (es := [av, aC, Vs (some ⟨d4, 0, none⟩) 1 1, j, d, i, l]) gB.f1 A24.h Z Z Z Z (Zj ((gB.f1).f1).arr_one Qk) (Nat.le_of_ble_eq_true Z) Z ?_)
       intro ti j1
       refine Zb (Ze ?_)
       exact ⟨am, av, aC, (Vs (some ⟨d4, 0, none⟩) 1 1), (Zv _), (((((((((((j1.f1).f11).f11).f11).f5).f6).f6).f11).f11).f11).f11).f11, (Fx.mk)⟩
      refine Qt Z Z (Qe (ds := [aC]) (es := [av, aC, m, j, d, i, l]) bG A22.h Z Z Z (Qj (bG.f1).arr_one) (Zj (bG.f1).arr_one Qk) (Nat.le_of_ble_eq_true Z) Z ?_)
      intro tj j2
      refine ⟨(Qa (U Z Z (Zm (v := Vq a) Z Z ⟨Z, Z⟩)) (Qa (U Z Z (Zm (v := O ((b.Task.Vars.length : Int))) Z Z ⟨Z, Z⟩)) (Qa (U Z Z (Exec.build Z (Qd (c := [O ((b.Task.Vars.length : Int))]) (Qf Z Z) (Qd (c := [O 1]) (Qf Z Z) Qg)) (v := Value.agg #[O ((b.Task.Vars.length : Int)), O 1]) (fun _ => by kernel_rfl) ⟨Z, Z⟩)) Qi))), ?_⟩
      refine Qt Z Z (Exec.buildSlice (Te := 51) (cs := [O ((b.Task.Vars.length : Int)), O 1]) j2 Z (Qd (c := [O ((b.Task.Vars.length : Int)), O 1]) (Qf Z Z) Qg) (fun _ => by kernel_rfl) ?_)
      intro d5 tk j3
      refine ⟨(Qa (U Z Z (Zm (v := Vq a) Z Z ⟨Z, Z⟩)) Qi), ?_⟩
      refine Q5 (Za Z Z (Qb Z Z (Za Z Z (Zp F29_0.h Z Z Z (Za Z Z (Zp F27_2.h Z Z Z ?_))))))
      have gC := St.boxArr (E := encFact) (xs := [(⟨(b.Task.Vars.length : Int), 1⟩ : Fact)]) j3 ⟨[O ((b.Task.Vars.length : Int)), O 1], [], rfl, ⟨[O ((b.Task.Vars.length : Int))], [O 1], rfl, rfl, rfl⟩, rfl⟩ (by simp [maxLen])
      refine Za Z Z (Qe (ds := [Vs (some ⟨d5, 0, none⟩) 1 1]) (es := [av, aC, Vs (some ⟨d5, 0, none⟩) 1 1, j, d, i, l]) gC.f1 A24.h Z Z Z Z (Zj ((gC.f1).f1).arr_one Qk) (Nat.le_of_ble_eq_true Z) Z ?_)
      intro tl j4
      refine Zb (Ze ?_)
      exact ⟨am, av, aC, (Vs (some ⟨d5, 0, none⟩) 1 1), (Zv _), (((((((((((j4.f1).f11).f11).f11).f5).f6).f6).f11).f11).f11).f11).f11, (Fx.mk)⟩
     refine Qt Z Z (Exec.buildSlice (Te := 51) (cs := [O ((b.Task.Vars.length : Int)), O 1]) dJ Z (Qd (c := [O ((b.Task.Vars.length : Int)), O 1]) (Qf Z Z) Qg) (fun _ => by kernel_rfl) ?_)
     intro d6 tm gD
     refine ⟨(Qa (U Z Z (Zm (v := Vq a) Z Z ⟨Z, Z⟩)) (Qa (U Z Z (Zm (v := Vq a) Z Z ⟨Z, Z⟩)) (Qa (U Z Z (Zm (v := Vq a) Z Z ⟨Z, Z⟩)) (Qa (U Z Z (Zm (v := Vq a) Z Z ⟨Z, Z⟩)) (Qa (U Z Z (Qb Z Z ⟨Z, Z⟩)) (Qa (U Z Z (Zp F29_0.h Z Z Z ⟨Z, Z⟩)) (Qa (U Z Z (Zp F27_1.h Z Z Z ⟨Z, Z⟩)) (Qa (U Z Z (Zn (gD.f8) A22.h Z Z Z ⟨Z, Z⟩)) Qi)))))))), ?_⟩
     refine Qt Z Z (Qh (E := (Qc .i64)) (ys := [0]) (gD.f2).f9 S22.h Z3 Z (by decide) Z Z Z Z ⟨[O 0], [], Z, Z, Z⟩ Z a2 ?_)
     intro cF tn dN
     refine ⟨(Qa (U Z Z (Zm (v := Vq a) Z Z ⟨Z, Z⟩)) (Qa (U Z Z (Zm (v := Vq a) Z Z ⟨Z, Z⟩)) (Qa (U Z Z (Zm (v := Vq a) Z Z ⟨Z, Z⟩)) Qi))), ?_⟩
     refine Qo Z Z (Qb Z Z ⟨Z, ?_⟩)
     refine Qo Z Z (Zp F29_0.h Z Z Z ⟨Z, ?_⟩)
     refine Qo Z Z (Zp F27_0.h Z Z Z ⟨Z, ?_⟩)
     refine Qt Z Z (Qe (ds := [av]) (es := [av, o, m, j, d, i, l]) dN.f8 A22.h Z Z Z (Qj ((dN.f8).f3).arr_one) (Zj ((dN.f8).f3).arr_one Qk) (Nat.le_of_ble_eq_true Z) Z ?_)
     intro to dO
     refine ⟨(Qa (U Z Z (Zm (v := Vq a) Z Z ⟨Z, Z⟩)) (Qa (U Z Z (Zm (v := Vq a) Z Z ⟨Z, Z⟩)) Qi)), ?_⟩
     refine Qo Z Z (Qb Z Z ⟨Z, ?_⟩)
     refine Qo Z Z (Zp F29_0.h Z Z Z ⟨Z, ?_⟩)
     refine Qo Z Z (Zp F27_1.h Z Z Z ⟨Z, ?_⟩)
     refine Qt Z Z (Qe (ds := [cF]) (es := [av, cF, m, j, d, i, l]) dO A22.h Z Z Z (Qj (dO.f1).arr_one) (Zj (dO.f1).arr_one Qk) (Nat.le_of_ble_eq_true Z) Z ?_)
     intro tp j5
     refine ⟨(Qa (U Z Z (Zm (v := Vq a) Z Z ⟨Z, Z⟩)) Qi), ?_⟩
     refine Q5 (Za Z Z (Qb Z Z (Za Z Z (Zp F29_0.h Z Z Z (Za Z Z (Zp F27_2.h Z Z Z ?_))))))
     have gE := St.boxArr (E := encFact) (xs := [(⟨(b.Task.Vars.length : Int), 1⟩ : Fact)]) j5.f2 ⟨[O ((b.Task.Vars.length : Int)), O 1], [], rfl, ⟨[O ((b.Task.Vars.length : Int))], [O 1], rfl, rfl, rfl⟩, rfl⟩ (by simp [maxLen])
     refine Za Z Z (Qe (ds := [Vs (some ⟨d6, 0, none⟩) 1 1]) (es := [av, cF, Vs (some ⟨d6, 0, none⟩) 1 1, j, d, i, l]) gE.f1 A24.h Z Z Z Z (Zj ((gE.f1).f1).arr_one Qk) (Nat.le_of_ble_eq_true Z) Z ?_)
     intro tq j6
     refine Zb (Ze ?_)
     exact ⟨am, av, cF, (Vs (some ⟨d6, 0, none⟩) 1 1), (Zv _), (((((((((((j6.f1).f11).f11).f11).f5).f6).f6).f11).f11).f11).f11).f11, (Fx.mk)⟩
    refine Qt Z Z (Exec.buildSlice (Te := 51) (cs := [O ((b.Task.Vars.length : Int)), O 1]) bE Z (Qd (c := [O ((b.Task.Vars.length : Int)), O 1]) (Qf Z Z) Qg) (fun _ => by kernel_rfl) ?_)
    intro d7 tr dP
    refine ⟨(Qa (U Z Z (Zm (v := Vq a) Z Z ⟨Z, Z⟩)) (Qa (U Z Z (Zm (v := Vq a) Z Z ⟨Z, Z⟩)) (Qa (U Z Z (Zm (v := Vq a) Z Z ⟨Z, Z⟩)) (Qa (U Z Z (Zm (v := Vq a) Z Z ⟨Z, Z⟩)) (Qa (U Z Z (Qb Z Z ⟨Z, Z⟩)) (Qa (U Z Z (Zp F29_0.h Z Z Z ⟨Z, Z⟩)) (Qa (U Z Z (Zp F27_0.h Z Z Z ⟨Z, Z⟩)) (Qa (U Z Z (Zn (dP.f8) A22.h Z Z Z ⟨Z, Z⟩)) (Qa (U Z Z (Zm (v := Vq a) Z Z ⟨Z, Z⟩)) (Qa (U Z Z (Qb Z Z ⟨Z, Z⟩)) (Qa (U Z Z (Zp F29_0.h Z Z Z ⟨Z, Z⟩)) (Qa (U Z Z (Zp F27_1.h Z Z Z ⟨Z, Z⟩)) (Qa (U Z Z (Zn (dP.f8) A22.h Z Z Z ⟨Z, Z⟩)) Qi))))))))))))), ?_⟩
    refine Qt Z Z (Qh (E := (Qc .i64)) (ys := [2]) (dP.f1).f9 S22.h Z3 Z (by decide) Z Z Z Z ⟨[O 2], [], Z, Z, Z⟩ Z aI ?_)
    intro b4 ts gF
    refine ⟨(Qa (U Z Z (Zm (v := Vq a) Z Z ⟨Z, Z⟩)) (Qa (U Z Z (Zm (v := Vq a) Z Z ⟨Z, Z⟩)) (Qa (U Z Z (Zm (v := Vq a) Z Z ⟨Z, Z⟩)) (Qa (U Z Z (Zm (v := Vq a) Z Z ⟨Z, Z⟩)) (Qa (U Z Z (Qb Z Z ⟨Z, Z⟩)) (Qa (U Z Z (Zp F29_0.h Z Z Z ⟨Z, Z⟩)) (Qa (U Z Z (Zp F27_1.h Z Z Z ⟨Z, Z⟩)) (Qa (U Z Z (Zn (gF.f8) A22.h Z Z Z ⟨Z, Z⟩)) Qi)))))))), ?_⟩
    refine Qt Z Z (Qh (E := (Qc .i64)) (ys := [0]) (gF.f2).f9 S22.h Z3 Z (by decide) Z Z Z Z ⟨[O 0], [], Z, Z, Z⟩ Z a2 ?_)
    intro cG tt dQ
    refine ⟨(Qa (U Z Z (Zm (v := Vq a) Z Z ⟨Z, Z⟩)) (Qa (U Z Z (Zm (v := Vq a) Z Z ⟨Z, Z⟩)) (Qa (U Z Z (Zm (v := Vq a) Z Z ⟨Z, Z⟩)) Qi))), ?_⟩
    refine Qo Z Z (Qb Z Z ⟨Z, ?_⟩)
    refine Qo Z Z (Zp F29_0.h Z Z Z ⟨Z, ?_⟩)
    refine Qo Z Z (Zp F27_0.h Z Z Z ⟨Z, ?_⟩)
    refine Qt Z Z (Qe (ds := [b4]) (es := [b4, o, m, j, d, i, l]) dQ.f8 A22.h Z Z Z (Qj ((dQ.f8).f2).arr_one) (Zj ((dQ.f8).f2).arr_one Qk) (Nat.le_of_ble_eq_true Z) Z ?_)
    intro tu dR
    refine ⟨(Qa (U Z Z (Zm (v := Vq a) Z Z ⟨Z, Z⟩)) (Qa (U Z Z (Zm (v := Vq a) Z Z ⟨Z, Z⟩)) Qi)), ?_⟩
    refine Qo Z Z (Qb Z Z ⟨Z, ?_⟩)
    refine Qo Z Z (Zp F29_0.h Z Z Z ⟨Z, ?_⟩)
    refine Qo Z Z (Zp F27_1.h Z Z Z ⟨Z, ?_⟩)
    refine Qt Z Z (Qe (ds := [cG]) (es := [b4, cG, m, j, d, i, l]) dR A22.h Z Z Z (Qj (dR.f1).arr_one) (Zj (dR.f1).arr_one Qk) (Nat.le_of_ble_eq_true Z) Z ?_)
    intro tv j7
    refine ⟨(Qa (U Z Z (Zm (v := Vq a) Z Z ⟨Z, Z⟩)) Qi), ?_⟩
    refine Q5 (Za Z Z (Qb Z Z (Za Z Z (Zp F29_0.h Z Z Z (Za Z Z (Zp F27_2.h Z Z Z ?_))))))
    have gG := St.boxArr (E := encFact) (xs := [(⟨(b.Task.Vars.length : Int), 1⟩ : Fact)]) j7.f3 ⟨[O ((b.Task.Vars.length : Int)), O 1], [], rfl, ⟨[O ((b.Task.Vars.length : Int))], [O 1], rfl, rfl, rfl⟩, rfl⟩ (by simp [maxLen])
    refine Za Z Z (Qe (ds := [Vs (some ⟨d7, 0, none⟩) 1 1]) (es := [b4, cG, Vs (some ⟨d7, 0, none⟩) 1 1, j, d, i, l]) gG.f1 A24.h Z Z Z Z (Zj ((gG.f1).f1).arr_one Qk) (Nat.le_of_ble_eq_true Z) Z ?_)
    intro tw j8
    refine Zb (Ze ?_)
    exact ⟨am, b4, cG, (Vs (some ⟨d7, 0, none⟩) 1 1), (Zv _), (((((((((((j8.f1).f11).f11).f11).f5).f6).f6).f11).f11).f11).f11).f11, (Fx.mk)⟩
   refine Qt Z Z (Exec.buildSlice (Te := 51) (cs := [O ((b.Task.Vars.length : Int)), O 1]) bD Z (Qd (c := [O ((b.Task.Vars.length : Int)), O 1]) (Qf Z Z) Qg) (fun _ => by kernel_rfl) ?_)
   intro d8 tx dS
   refine ⟨(Qa (U Z Z (Zm (v := Vq a) Z Z ⟨Z, Z⟩)) (Qa (U Z Z (Zm (v := Vq a) Z Z ⟨Z, Z⟩)) (Qa (U Z Z (Zm (v := Vq a) Z Z ⟨Z, Z⟩)) (Qa (U Z Z (Zm (v := Vq a) Z Z ⟨Z, Z⟩)) (Qa (U Z Z (Qb Z Z ⟨Z, Z⟩)) (Qa (U Z Z (Zp F29_0.h Z Z Z ⟨Z, Z⟩)) (Qa (U Z Z (Zp F27_0.h Z Z Z ⟨Z, Z⟩)) (Qa (U Z Z (Zn (dS.f7) A22.h Z Z Z ⟨Z, Z⟩)) (Qa (U Z Z (Zm (v := Vq a) Z Z ⟨Z, Z⟩)) (Qa (U Z Z (Qb Z Z ⟨Z, Z⟩)) (Qa (U Z Z (Zp F29_0.h Z Z Z ⟨Z, Z⟩)) (Qa (U Z Z (Zp F27_1.h Z Z Z ⟨Z, Z⟩)) (Qa (U Z Z (Zn (dS.f7) A22.h Z Z Z ⟨Z, Z⟩)) Qi))))))))))))), ?_⟩
   refine Qt Z Z (Exec.buildSlice (Te := 3) (cs := [O 2]) dS Z (Qd (c := [O 2]) (Qf Z Z) Qg) (fun _ => by kernel_rfl) ?_)
   intro oa ty dT
   refine ⟨(Qa (U Z Z (Zm (v := Vq a) Z Z ⟨Z, Z⟩)) (Qa (U Z Z (Zm (v := Vq a) Z Z ⟨Z, Z⟩)) (Qa (U Z Z (Zm (v := Vq a) Z Z ⟨Z, Z⟩)) (Qa (U Z Z (Zm (v := Vq a) Z Z ⟨Z, Z⟩)) (Qa (U Z Z (Qb Z Z ⟨Z, Z⟩)) (Qa (U Z Z (Zp F29_0.h Z Z Z ⟨Z, Z⟩)) (Qa (U Z Z (Zp F27_0.h Z Z Z ⟨Z, Z⟩)) (Qa (U Z Z (Zn (dT.f8) A22.h Z Z Z ⟨Z, Z⟩)) (Qa (U Z Z (Zm (v := Vq a) Z Z ⟨Z, Z⟩)) (Qa (U Z Z (Qb Z Z ⟨Z, Z⟩)) (Qa (U Z Z (Zp F29_0.h Z Z Z ⟨Z, Z⟩)) (Qa (U Z Z (Zp F27_1.h Z Z Z ⟨Z, Z⟩)) (Qa (U Z Z (Zn (dT.f8) A22.h Z Z Z ⟨Z, Z⟩)) Qi))))))))))))), ?_⟩
   refine Qt Z Z (Qh (E := (Qc .i64)) (ys := [2]) dT.f9 S22.h Z3 Z (by decide) Z Z Z Z ⟨[O 2], [], Z, Z, Z⟩ Z aI ?_)
   intro b5 tz gH
   refine ⟨(Qa (U Z Z (Zm (v := Vq a) Z Z ⟨Z, Z⟩)) (Qa (U Z Z (Zm (v := Vq a) Z Z ⟨Z, Z⟩)) (Qa (U Z Z (Zm (v := Vq a) Z Z ⟨Z, Z⟩)) (Qa (U Z Z (Zm (v := Vq a) Z Z ⟨Z, Z⟩)) (Qa (U Z Z (Qb Z Z ⟨Z, Z⟩)) (Qa (U Z Z (Zp F29_0.h Z Z Z ⟨Z, Z⟩)) (Qa (U Z Z (Zp F27_1.h Z Z Z ⟨Z, Z⟩)) (Qa (U Z Z (Zn (gH.f8) A22.h Z Z Z ⟨Z, Z⟩)) Qi)))))))), ?_⟩
   refine Qt Z Z (Qh (E := (Qc .i64)) (ys := [0]) (gH.f2).f9 S22.h Z3 Z (by decide) Z Z Z Z ⟨[O 0], [], Z, Z, Z⟩ Z a2 ?_)
   intro cH t0 dU
   refine ⟨(Qa (U Z Z (Zm (v := Vq a) Z Z ⟨Z, Z⟩)) (Qa (U Z Z (Zm (v := Vq a) Z Z ⟨Z, Z⟩)) (Qa (U Z Z (Zm (v := Vq a) Z Z ⟨Z, Z⟩)) Qi))), ?_⟩
   refine Qo Z Z (Qb Z Z ⟨Z, ?_⟩)
   refine Qo Z Z (Zp F29_0.h Z Z Z ⟨Z, ?_⟩)
   refine Qo Z Z (Zp F27_0.h Z Z Z ⟨Z, ?_⟩)
   refine Qt Z Z (Qe (ds := [b5]) (es := [b5, o, m, j, d, i, l]) dU.f8 A22.h Z Z Z (Qj ((dU.f8).f2).arr_one) (Zj ((dU.f8).f2).arr_one Qk) (Nat.le_of_ble_eq_true Z) Z ?_)
   intro t1 dV
   refine ⟨(Qa (U Z Z (Zm (v := Vq a) Z Z ⟨Z, Z⟩)) (Qa (U Z Z (Zm (v := Vq a) Z Z ⟨Z, Z⟩)) Qi)), ?_⟩
   refine Qo Z Z (Qb Z Z ⟨Z, ?_⟩)
   refine Qo Z Z (Zp F29_0.h Z Z Z ⟨Z, ?_⟩)
   refine Qo Z Z (Zp F27_1.h Z Z Z ⟨Z, ?_⟩)
   refine Qt Z Z (Qe (ds := [cH]) (es := [b5, cH, m, j, d, i, l]) dV A22.h Z Z Z (Qj (dV.f1).arr_one) (Zj (dV.f1).arr_one Qk) (Nat.le_of_ble_eq_true Z) Z ?_)
   intro t2 j9
   refine ⟨(Qa (U Z Z (Zm (v := Vq a) Z Z ⟨Z, Z⟩)) Qi), ?_⟩
   refine Q5 (Za Z Z (Qb Z Z (Za Z Z (Zp F29_0.h Z Z Z (Za Z Z (Zp F27_2.h Z Z Z ?_))))))
   have gI := St.boxArr (E := encFact) (xs := [(⟨(b.Task.Vars.length : Int), 1⟩ : Fact)]) j9.f3 ⟨[O ((b.Task.Vars.length : Int)), O 1], [], rfl, ⟨[O ((b.Task.Vars.length : Int))], [O 1], rfl, rfl, rfl⟩, rfl⟩ (by simp [maxLen])
   refine Za Z Z (Qe (ds := [Vs (some ⟨d8, 0, none⟩) 1 1]) (es := [b5, cH, Vs (some ⟨d8, 0, none⟩) 1 1, j, d, i, l]) gI.f1 A24.h Z Z Z Z (Zj ((gI.f1).f1).arr_one Qk) (Nat.le_of_ble_eq_true Z) Z ?_)
   intro t3 jA
   refine Zb (Ze ?_)
   exact ⟨am, b5, cH, (Vs (some ⟨d8, 0, none⟩) 1 1), (Zv _), (((((((((((jA.f1).f11).f11).f11).f5).f6).f6).f11).f11).f11).f11).f11, (Fx.mk)⟩
  refine Qt Z Z (Exec.buildSlice (Te := 51) (cs := [O ((b.Task.Vars.length : Int)), O 1]) aJ.drew Z (Qd (c := [O ((b.Task.Vars.length : Int)), O 1]) (Qf Z Z) Qg) (fun _ => by kernel_rfl) ?_)
  intro aN t4 bH
  refine ⟨(Qa (U Z Z (Zm (v := Vq a) Z Z ⟨Z, Z⟩)) (Qa (U Z Z (Zm (v := Vq a) Z Z ⟨Z, Z⟩)) (Qa (U Z Z (Zm (v := Vq a) Z Z ⟨Z, Z⟩)) (Qa (U Z Z (Zm (v := Vq a) Z Z ⟨Z, Z⟩)) (Qa (U Z Z (Qb Z Z ⟨Z, Z⟩)) (Qa (U Z Z (Zp F29_0.h Z Z Z ⟨Z, Z⟩)) (Qa (U Z Z (Zp F27_0.h Z Z Z ⟨Z, Z⟩)) (Qa (U Z Z (Zn (bH.f6) A22.h Z Z Z ⟨Z, Z⟩)) (Qa (U Z Z (Zm (v := Vq a) Z Z ⟨Z, Z⟩)) (Qa (U Z Z (Qb Z Z ⟨Z, Z⟩)) (Qa (U Z Z (Zp F29_0.h Z Z Z ⟨Z, Z⟩)) (Qa (U Z Z (Zp F27_1.h Z Z Z ⟨Z, Z⟩)) (Qa (U Z Z (Zn (bH.f6) A22.h Z Z Z ⟨Z, Z⟩)) Qi))))))))))))), ?_⟩
  refine QH ?_ ?_
  ·refine Qt Z Z (Exec.buildSlice (Te := 3) (cs := [O 2]) bH Z (Qd (c := [O 2]) (Qf Z Z) Qg) (fun _ => by kernel_rfl) ?_)
   intro ob t5 bI
   refine ⟨(Qa (U Z Z (Zm (v := Vq a) Z Z ⟨Z, Z⟩)) (Qa (U Z Z (Zm (v := Vq a) Z Z ⟨Z, Z⟩)) (Qa (U Z Z (Zm (v := Vq a) Z Z ⟨Z, Z⟩)) (Qa (U Z Z (Zm (v := Vq a) Z Z ⟨Z, Z⟩)) (Qa (U Z Z (Qb Z Z ⟨Z, Z⟩)) (Qa (U Z Z (Zp F29_0.h Z Z Z ⟨Z, Z⟩)) (Qa (U Z Z (Zp F27_0.h Z Z Z ⟨Z, Z⟩)) (Qa (U Z Z (Zn (bI.f7) A22.h Z Z Z ⟨Z, Z⟩)) (Qa (U Z Z (Zm (v := Vq a) Z Z ⟨Z, Z⟩)) (Qa (U Z Z (Qb Z Z ⟨Z, Z⟩)) (Qa (U Z Z (Zp F29_0.h Z Z Z ⟨Z, Z⟩)) (Qa (U Z Z (Zp F27_1.h Z Z Z ⟨Z, Z⟩)) (Qa (U Z Z (Zn (bI.f7) A22.h Z Z Z ⟨Z, Z⟩)) Qi))))))))))))), ?_⟩
   refine QH ?_ ?_
   ·have jB := bI.f8
    refine Qt Z Z (Qh (E := (Qc .i64)) (ys := [2]) jB S22.h Z3 Z (by decide) Z Z Z Z ⟨[O 2], [], Z, Z, Z⟩ Z aI ?_)
    intro b6 t6 gJ
    refine ⟨(Qa (U Z Z (Zm (v := Vq a) Z Z ⟨Z, Z⟩)) (Qa (U Z Z (Zm (v := Vq a) Z Z ⟨Z, Z⟩)) (Qa (U Z Z (Zm (v := Vq a) Z Z ⟨Z, Z⟩)) (Qa (U Z Z (Zm (v := Vq a) Z Z ⟨Z, Z⟩)) (Qa (U Z Z (Qb Z Z ⟨Z, Z⟩)) (Qa (U Z Z (Zp F29_0.h Z Z Z ⟨Z, Z⟩)) (Qa (U Z Z (Zp F27_1.h Z Z Z ⟨Z, Z⟩)) (Qa (U Z Z (Zn (gJ.f7) A22.h Z Z Z ⟨Z, Z⟩)) Qi)))))))), ?_⟩
    refine Qt Z Z (Exec.buildSlice (Te := 3) (cs := [O 0]) gJ Z (Qd (c := [O 0]) (Qf Z Z) Qg) (fun _ => by kernel_rfl) ?_)
    intro oc t7 gK
    refine ⟨(Qa (U Z Z (Zm (v := Vq a) Z Z ⟨Z, Z⟩)) (Qa (U Z Z (Zm (v := Vq a) Z Z ⟨Z, Z⟩)) (Qa (U Z Z (Zm (v := Vq a) Z Z ⟨Z, Z⟩)) (Qa (U Z Z (Zm (v := Vq a) Z Z ⟨Z, Z⟩)) (Qa (U Z Z (Qb Z Z ⟨Z, Z⟩)) (Qa (U Z Z (Zp F29_0.h Z Z Z ⟨Z, Z⟩)) (Qa (U Z Z (Zp F27_1.h Z Z Z ⟨Z, Z⟩)) (Qa (U Z Z (Zn (gK.f8) A22.h Z Z Z ⟨Z, Z⟩)) Qi)))))))), ?_⟩
    refine Qt Z Z (Qh (E := (Qc .i64)) (ys := [0]) gK.f9 S22.h Z3 Z (by decide) Z Z Z Z ⟨[O 0], [], Z, Z, Z⟩ Z a2 ?_)
    intro cI t8 dW
    refine ⟨(Qa (U Z Z (Zm (v := Vq a) Z Z ⟨Z, Z⟩)) (Qa (U Z Z (Zm (v := Vq a) Z Z ⟨Z, Z⟩)) (Qa (U Z Z (Zm (v := Vq a) Z Z ⟨Z, Z⟩)) Qi))), ?_⟩
    refine Qo Z Z (Qb Z Z ⟨Z, ?_⟩)
    refine Qo Z Z (Zp F29_0.h Z Z Z ⟨Z, ?_⟩)
    refine Qo Z Z (Zp F27_0.h Z Z Z ⟨Z, ?_⟩)
    refine Qt Z Z (Qe (ds := [b6]) (es := [b6, o, m, j, d, i, l]) dW.f8 A22.h Z Z Z (Qj ((dW.f8).f2).arr_one) (Zj ((dW.f8).f2).arr_one Qk) (Nat.le_of_ble_eq_true Z) Z ?_)
    intro t9 dX
    refine ⟨(Qa (U Z Z (Zm (v := Vq a) Z Z ⟨Z, Z⟩)) (Qa (U Z Z (Zm (v := Vq a) Z Z ⟨Z, Z⟩)) Qi)), ?_⟩
    refine Qo Z Z (Qb Z Z ⟨Z, ?_⟩)
    refine Qo Z Z (Zp F29_0.h Z Z Z ⟨Z, ?_⟩)
    refine Qo Z Z (Zp F27_1.h Z Z Z ⟨Z, ?_⟩)
    refine Qt Z Z (Qe (ds := [cI]) (es := [b6, cI, m, j, d, i, l]) dX A22.h Z Z Z (Qj (dX.f1).arr_one) (Zj (dX.f1).arr_one Qk) (Nat.le_of_ble_eq_true Z) Z ?_)
    intro tA jC
    refine ⟨(Qa (U Z Z (Zm (v := Vq a) Z Z ⟨Z, Z⟩)) Qi), ?_⟩
    refine Q5 (Za Z Z (Qb Z Z (Za Z Z (Zp F29_0.h Z Z Z (Za Z Z (Zp F27_2.h Z Z Z ?_))))))
    have gL := St.boxArr (E := encFact) (xs := [(⟨(b.Task.Vars.length : Int), 1⟩ : Fact)]) jC.f3 ⟨[O ((b.Task.Vars.length : Int)), O 1], [], rfl, ⟨[O ((b.Task.Vars.length : Int))], [O 1], rfl, rfl, rfl⟩, rfl⟩ (by simp [maxLen])
    refine Za Z Z (Qe (ds := [Vs (some ⟨aN, 0, none⟩) 1 1]) (es := [b6, cI, Vs (some ⟨aN, 0, none⟩) 1 1, j, d, i, l]) gL.f1 A24.h Z Z Z Z (Zj ((gL.f1).f1).arr_one Qk) (Nat.le_of_ble_eq_true Z) Z ?_)
    intro tB jD
    refine Zb (Ze ?_)
    exact ⟨am, b6, cI, (Vs (some ⟨aN, 0, none⟩) 1 1), (Zv _), (((((((((((jD.f1).f11).f11).f11).f5).f6).f6).f11).f11).f11).f11).f11, (Fx.mk)⟩
   refine Qt Z Z (Exec.buildSlice (Te := 3) (cs := [O 0]) bI Z (Qd (c := [O 0]) (Qf Z Z) Qg) (fun _ => by kernel_rfl) ?_)
   intro od tC dY
   refine ⟨(Qa (U Z Z (Zm (v := Vq a) Z Z ⟨Z, Z⟩)) (Qa (U Z Z (Zm (v := Vq a) Z Z ⟨Z, Z⟩)) (Qa (U Z Z (Zm (v := Vq a) Z Z ⟨Z, Z⟩)) (Qa (U Z Z (Zm (v := Vq a) Z Z ⟨Z, Z⟩)) (Qa (U Z Z (Qb Z Z ⟨Z, Z⟩)) (Qa (U Z Z (Zp F29_0.h Z Z Z ⟨Z, Z⟩)) (Qa (U Z Z (Zp F27_0.h Z Z Z ⟨Z, Z⟩)) (Qa (U Z Z (Zn (dY.f8) A22.h Z Z Z ⟨Z, Z⟩)) (Qa (U Z Z (Zm (v := Vq a) Z Z ⟨Z, Z⟩)) (Qa (U Z Z (Qb Z Z ⟨Z, Z⟩)) (Qa (U Z Z (Zp F29_0.h Z Z Z ⟨Z, Z⟩)) (Qa (U Z Z (Zp F27_1.h Z Z Z ⟨Z, Z⟩)) (Qa (U Z Z (Zn (dY.f8) A22.h Z Z Z ⟨Z, Z⟩)) Qi))))))))))))), ?_⟩
   refine Qt Z Z (Qh (E := (Qc .i64)) (ys := [2]) (dY.f1).f9 S22.h Z3 Z (by decide) Z Z Z Z ⟨[O 2], [], Z, Z, Z⟩ Z aI ?_)
   intro b7 tD gM
   refine ⟨(Qa (U Z Z (Zm (v := Vq a) Z Z ⟨Z, Z⟩)) (Qa (U Z Z (Zm (v := Vq a) Z Z ⟨Z, Z⟩)) (Qa (U Z Z (Zm (v := Vq a) Z Z ⟨Z, Z⟩)) (Qa (U Z Z (Zm (v := Vq a) Z Z ⟨Z, Z⟩)) (Qa (U Z Z (Qb Z Z ⟨Z, Z⟩)) (Qa (U Z Z (Zp F29_0.h Z Z Z ⟨Z, Z⟩)) (Qa (U Z Z (Zp F27_1.h Z Z Z ⟨Z, Z⟩)) (Qa (U Z Z (Zn (gM.f8) A22.h Z Z Z ⟨Z, Z⟩)) Qi)))))))), ?_⟩
   refine Qt Z Z (Qh (E := (Qc .i64)) (ys := [0]) (gM.f1).f9 S22.h Z3 Z (by decide) Z Z Z Z ⟨[O 0], [], Z, Z, Z⟩ Z a2 ?_)
   intro cJ tE dZ
   refine ⟨(Qa (U Z Z (Zm (v := Vq a) Z Z ⟨Z, Z⟩)) (Qa (U Z Z (Zm (v := Vq a) Z Z ⟨Z, Z⟩)) (Qa (U Z Z (Zm (v := Vq a) Z Z ⟨Z, Z⟩)) Qi))), ?_⟩
   refine Qo Z Z (Qb Z Z ⟨Z, ?_⟩)
   refine Qo Z Z (Zp F29_0.h Z Z Z ⟨Z, ?_⟩)
   refine Qo Z Z (Zp F27_0.h Z Z Z ⟨Z, ?_⟩)
   refine Qt Z Z (Qe (ds := [b7]) (es := [b7, o, m, j, d, i, l]) dZ.f8 A22.h Z Z Z (Qj ((dZ.f8).f2).arr_one) (Zj ((dZ.f8).f2).arr_one Qk) (Nat.le_of_ble_eq_true Z) Z ?_)
   intro tF ea
   refine ⟨(Qa (U Z Z (Zm (v := Vq a) Z Z ⟨Z, Z⟩)) (Qa (U Z Z (Zm (v := Vq a) Z Z ⟨Z, Z⟩)) Qi)), ?_⟩
   refine Qo Z Z (Qb Z Z ⟨Z, ?_⟩)
   refine Qo Z Z (Zp F29_0.h Z Z Z ⟨Z, ?_⟩)
   refine Qo Z Z (Zp F27_1.h Z Z Z ⟨Z, ?_⟩)
   refine Qt Z Z (Qe (ds := [cJ]) (es := [b7, cJ, m, j, d, i, l]) ea A22.h Z Z Z (Qj (ea.f1).arr_one) (Zj (ea.f1).arr_one Qk) (Nat.le_of_ble_eq_true Z) Z ?_)
   intro tG jF
   refine ⟨(Qa (U Z Z (Zm (v := Vq a) Z Z ⟨Z, Z⟩)) Qi), ?_⟩
   refine Q5 (Za Z Z (Qb Z Z (Za Z Z (Zp F29_0.h Z Z Z (Za Z Z (Zp F27_2.h Z Z Z ?_))))))
   have gN := St.boxArr (E := encFact) (xs := [(⟨(b.Task.Vars.length : Int), 1⟩ : Fact)]) jF.f3 ⟨[O ((b.Task.Vars.length : Int)), O 1], [], rfl, ⟨[O ((b.Task.Vars.length : Int))], [O 1], rfl, rfl, rfl⟩, rfl⟩ (by simp [maxLen])
   refine Za Z Z (Qe (ds := [Vs (some ⟨aN, 0, none⟩) 1 1]) (es := [b7, cJ, Vs (some ⟨aN, 0, none⟩) 1 1, j, d, i, l]) gN.f1 A24.h Z Z Z Z (Zj ((gN.f1).f1).arr_one Qk) (Nat.le_of_ble_eq_true Z) Z ?_)
   intro tH jG
   refine Zb (Ze ?_)
   exact ⟨am, b7, cJ, (Vs (some ⟨aN, 0, none⟩) 1 1), (Zv _), (((((((((((jG.f1).f11).f11).f11).f5).f6).f6).f11).f11).f11).f11).f11, (Fx.mk)⟩
  refine Qt Z Z (Exec.buildSlice (Te := 3) (cs := [O 0]) bH Z (Qd (c := [O 0]) (Qf Z Z) Qg) (fun _ => by kernel_rfl) ?_)
  intro oe tI eb
  refine ⟨(Qa (U Z Z (Zm (v := Vq a) Z Z ⟨Z, Z⟩)) (Qa (U Z Z (Zm (v := Vq a) Z Z ⟨Z, Z⟩)) (Qa (U Z Z (Zm (v := Vq a) Z Z ⟨Z, Z⟩)) (Qa (U Z Z (Zm (v := Vq a) Z Z ⟨Z, Z⟩)) (Qa (U Z Z (Qb Z Z ⟨Z, Z⟩)) (Qa (U Z Z (Zp F29_0.h Z Z Z ⟨Z, Z⟩)) (Qa (U Z Z (Zp F27_0.h Z Z Z ⟨Z, Z⟩)) (Qa (U Z Z (Zn (eb.f7) A22.h Z Z Z ⟨Z, Z⟩)) (Qa (U Z Z (Zm (v := Vq a) Z Z ⟨Z, Z⟩)) (Qa (U Z Z (Qb Z Z ⟨Z, Z⟩)) (Qa (U Z Z (Zp F29_0.h Z Z Z ⟨Z, Z⟩)) (Qa (U Z Z (Zp F27_1.h Z Z Z ⟨Z, Z⟩)) (Qa (U Z Z (Zn (eb.f7) A22.h Z Z Z ⟨Z, Z⟩)) Qi))))))))))))), ?_⟩
  refine Qt Z Z (Exec.buildSlice (Te := 3) (cs := [O 2]) eb Z (Qd (c := [O 2]) (Qf Z Z) Qg) (fun _ => by kernel_rfl) ?_)
  intro og tJ ec
  refine ⟨(Qa (U Z Z (Zm (v := Vq a) Z Z ⟨Z, Z⟩)) (Qa (U Z Z (Zm (v := Vq a) Z Z ⟨Z, Z⟩)) (Qa (U Z Z (Zm (v := Vq a) Z Z ⟨Z, Z⟩)) (Qa (U Z Z (Zm (v := Vq a) Z Z ⟨Z, Z⟩)) (Qa (U Z Z (Qb Z Z ⟨Z, Z⟩)) (Qa (U Z Z (Zp F29_0.h Z Z Z ⟨Z, Z⟩)) (Qa (U Z Z (Zp F27_0.h Z Z Z ⟨Z, Z⟩)) (Qa (U Z Z (Zn (ec.f8) A22.h Z Z Z ⟨Z, Z⟩)) (Qa (U Z Z (Zm (v := Vq a) Z Z ⟨Z, Z⟩)) (Qa (U Z Z (Qb Z Z ⟨Z, Z⟩)) (Qa (U Z Z (Zp F29_0.h Z Z Z ⟨Z, Z⟩)) (Qa (U Z Z (Zp F27_1.h Z Z Z ⟨Z, Z⟩)) (Qa (U Z Z (Zn (ec.f8) A22.h Z Z Z ⟨Z, Z⟩)) Qi))))))))))))), ?_⟩
  refine Qt Z Z (Qh (E := (Qc .i64)) (ys := [2]) ec.f9 S22.h Z3 Z (by decide) Z Z Z Z ⟨[O 2], [], Z, Z, Z⟩ Z aI ?_)
  intro b8 tK gO
  refine ⟨(Qa (U Z Z (Zm (v := Vq a) Z Z ⟨Z, Z⟩)) (Qa (U Z Z (Zm (v := Vq a) Z Z ⟨Z, Z⟩)) (Qa (U Z Z (Zm (v := Vq a) Z Z ⟨Z, Z⟩)) (Qa (U Z Z (Zm (v := Vq a) Z Z ⟨Z, Z⟩)) (Qa (U Z Z (Qb Z Z ⟨Z, Z⟩)) (Qa (U Z Z (Zp F29_0.h Z Z Z ⟨Z, Z⟩)) (Qa (U Z Z (Zp F27_1.h Z Z Z ⟨Z, Z⟩)) (Qa (U Z Z (Zn (gO.f8) A22.h Z Z Z ⟨Z, Z⟩)) Qi)))))))), ?_⟩
  refine Qt Z Z (Qh (E := (Qc .i64)) (ys := [0]) (gO.f1).f9 S22.h Z3 Z (by decide) Z Z Z Z ⟨[O 0], [], Z, Z, Z⟩ Z a2 ?_)
  intro cK tL ed
  refine ⟨(Qa (U Z Z (Zm (v := Vq a) Z Z ⟨Z, Z⟩)) (Qa (U Z Z (Zm (v := Vq a) Z Z ⟨Z, Z⟩)) (Qa (U Z Z (Zm (v := Vq a) Z Z ⟨Z, Z⟩)) Qi))), ?_⟩
  refine Qo Z Z (Qb Z Z ⟨Z, ?_⟩)
  refine Qo Z Z (Zp F29_0.h Z Z Z ⟨Z, ?_⟩)
  refine Qo Z Z (Zp F27_0.h Z Z Z ⟨Z, ?_⟩)
  refine Qt Z Z (Qe (ds := [b8]) (es := [b8, o, m, j, d, i, l]) ed.f8 A22.h Z Z Z (Qj ((ed.f8).f2).arr_one) (Zj ((ed.f8).f2).arr_one Qk) (Nat.le_of_ble_eq_true Z) Z ?_)
  intro tM ee
  refine ⟨(Qa (U Z Z (Zm (v := Vq a) Z Z ⟨Z, Z⟩)) (Qa (U Z Z (Zm (v := Vq a) Z Z ⟨Z, Z⟩)) Qi)), ?_⟩
  refine Qo Z Z (Qb Z Z ⟨Z, ?_⟩)
  refine Qo Z Z (Zp F29_0.h Z Z Z ⟨Z, ?_⟩)
  refine Qo Z Z (Zp F27_1.h Z Z Z ⟨Z, ?_⟩)
  refine Qt Z Z (Qe (ds := [cK]) (es := [b8, cK, m, j, d, i, l]) ee A22.h Z Z Z (Qj (ee.f1).arr_one) (Zj (ee.f1).arr_one Qk) (Nat.le_of_ble_eq_true Z) Z ?_)
  intro tN jH
  refine ⟨(Qa (U Z Z (Zm (v := Vq a) Z Z ⟨Z, Z⟩)) Qi), ?_⟩
  refine Q5 (Za Z Z (Qb Z Z (Za Z Z (Zp F29_0.h Z Z Z (Za Z Z (Zp F27_2.h Z Z Z ?_))))))
  have gP := St.boxArr (E := encFact) (xs := [(⟨(b.Task.Vars.length : Int), 1⟩ : Fact)]) jH.f3 ⟨[O ((b.Task.Vars.length : Int)), O 1], [], rfl, ⟨[O ((b.Task.Vars.length : Int))], [O 1], rfl, rfl, rfl⟩, rfl⟩ (by simp [maxLen])
  refine Za Z Z (Qe (ds := [Vs (some ⟨aN, 0, none⟩) 1 1]) (es := [b8, cK, Vs (some ⟨aN, 0, none⟩) 1 1, j, d, i, l]) gP.f1 A24.h Z Z Z Z (Zj ((gP.f1).f1).arr_one Qk) (Nat.le_of_ble_eq_true Z) Z ?_)
  intro tO jI
  refine Zb (Ze ?_)
  exact ⟨am, b8, cK, (Vs (some ⟨aN, 0, none⟩) 1 1), (Zv _), (((((((((((jI.f1).f11).f11).f11).f5).f6).f6).f11).f11).f11).f11).f11, (Fx.mk)⟩
 intro oP tP jg
 obtain ⟨fV, ai, aj, ak, aG, gQ, ⟨oQ, rfl⟩⟩ := jg
 refine (Ze (Zc (Zc (Zd (Za Z Z (Zm (v := Vq p) Z Z (Za Z Z (Qb Z Z (Za Z Z (Zp F67_0.h Z Z Z (Za Z Z (Zp F44_3.h Z Z Z ?_))))))))))))
 refine Za Z Z (Zn (gQ) A41.h Z Z Z (Za Z Z (Zr S41.h Z Z (a5.mono (Zt x aG)) (Za Z Z (Zm (v := O 0) Z Z (Zb (Ze ?_)))))))
 obtain ⟨gw, iR, lV, lN, lF⟩ := Qu hm
 refine Qs (M := fun f' w' => ∃ s', (gw = .next s' ∨ gw = .brk s') ∧ (QO fun (ih : (List Op)) (ii : (List Int)) => ∃ (i7 : PHeap) (cL : Value) (cM : Value), PHeap.le fV i7 ∧ St w0 i7 (Res.box p 67 [aw, ax, ay, ac, az, y, z, aa, ab] :: Res.arr (Qc .i64) 3 y n.vars :: Res.arr encFact 51 z n.atoms :: Res.arr encBool 4 aa n.grouped :: Res.arr (Qc .i64) 3 ab n.fluents :: Res.box a 29 [ai, aj, ak, cL, d, i, cM] :: Res.arr (Qc .i64) 3 ai bd :: Res.arr (Qc .i64) 3 aj be :: Res.arr encFact 51 m b.Task.Goal :: Res.arr encOp 55 cL ih :: Res.arr (Qc .i64) 3 cM ii :: Res.arr encFact 51 ak [(⟨(b.Task.Vars.length : Int), 1⟩ : Fact)] :: H) w' ∧ Fx f' [(0, Vq p), (1, Vq a), (2, ap), (9, O ((b.Task.Vars.length : Int))), (91, ac), (92, O ((n.g.Goal.length : Int)))]) s') ?_ ?_
 ·refine YF (QC (fun k' s' f' w' => (QO fun (fK : (List Op)) (fL : (List Int)) => ∃ (i8 : PHeap) (bj : Value) (bk : Value), PHeap.le fV i8 ∧ St w0 i8 (Res.box p 67 [aw, ax, ay, ac, az, y, z, aa, ab] :: Res.arr (Qc .i64) 3 y n.vars :: Res.arr encFact 51 z n.atoms :: Res.arr encBool 4 aa n.grouped :: Res.arr (Qc .i64) 3 ab n.fluents :: Res.box a 29 [ai, aj, ak, bj, d, i, bk] :: Res.arr (Qc .i64) 3 ai bd :: Res.arr (Qc .i64) 3 aj be :: Res.arr encFact 51 m b.Task.Goal :: Res.arr encOp 55 bj fK :: Res.arr (Qc .i64) 3 bk fL :: Res.arr encFact 51 ak [(⟨(b.Task.Vars.length : Int), 1⟩ : Fact)] :: H) w' ∧ Fx f' [(93, O (k' : Int)), (0, Vq p), (1, Vq a), (2, ap), (9, O ((b.Task.Vars.length : Int))), (91, ac), (92, O ((n.g.Goal.length : Int)))]) s') iR ?_ ?_ ?_)
  ·have jJ := gQ.f11
   exact ⟨fV, j, l, (Zv _), ((((((((((jJ.f11).f11).f11).f11).f11).f11).f11).f11).f11).f11).f11, (Fx.mk)⟩
  ·intro cf nt gx oR tQ lJ iX aE mb
   obtain ⟨fK, fL⟩ := nt
   replace aE := Q3 aE
   obtain ⟨pn, bj, bk, aP, gR, ⟨oS, rfl⟩⟩ := iX
   refine Zc (Zd (Za Z Z (Zq Z Z Z (Zb (Ze (Zc (YT (Zx (decide_eq_true (by omega))) (JG (Ze (Zc ?_))))))))))
   refine YF (Zc (Zd ?_))
   obtain ⟨u1, mC, aE⟩ := Zg aE
   refine Za Z Z (QJ S41.h Z Z Z (a5.mono (Zt (Zt x aG) aP)) mC ?_)
   intro oh pj iN
   refine Za Z Z (Zw (E := encCond) gR A85.h Z Z Z iN ?_)
   intro pv mD
   obtain ⟨ga, gb, gc, rfl, iu, iv, iw⟩ := KJ.1 mD
   refine Za Z Z (Exec.alloc (cs := [Vn, Vn, Vn]) gR Z85 Z Z ?_)
   intro oi tR jK
   refine Za Z Z (Qe (ds := [ga, gb, gc]) (es := [ga, gb, gc]) jK A85.h Z Z Z Z (Zj iu.one (Zj iv.one (Zj iw.one Qk))) (Nat.le_of_ble_eq_true Z) Z ?_)
   intro tS gS
   refine Zb (Ze (Zc (Zd (Za Z Z (Zm (v := Vq p) Z Z (Za Z Z (Jy (ds := [ga, gb, gc]) (gS) A85.h Z Z Z (Za Z Z (Zm (v := ap) Z Z ?_)))))))))
   obtain ⟨gp, mE, aE⟩ := Zg aE
   refine Za Z Z (Tc Z Z Z (Zi Z (Zi Z (Zi Z (Zi Z (Zi Z Qx))))) (YE mE ((((gS.f5).f5).f5).f5).f5 (cW.mono (Zt (Zt x aG) aP)) (cX.mono (Zt (Zt x aG) aP)) (cY.mono (Zt (Zt x aG) aP)) (a5.mono (Zt (Zt x aG) aP)) (cZ.mono (Zt (Zt x aG) aP)) iu iv iw (SliceRep.nil _ _) (da.mono (Zt (Zt x aG) aP)) (SliceRep.nil _ _)).r ?_)
   rintro gj tT ⟨fW, _, ij, jL, rfl, fR⟩
   refine Za Z Z (Zr S119.h Z Z fR (Za Z Z (Zm (v := O 0) Z Z (Zb (Ze ?_)))))
   obtain ⟨gy, iS, lW, lO, lG⟩ := Qu aE
   refine Qs (M := fun f' w' => ∃ s', (gy = .next s' ∨ gy = .brk s') ∧ (QO fun (ik : (List Op)) (il : (List Int)) => ∃ (i9 : PHeap) (cN : Value) (cO : Value), PHeap.le fW i9 ∧ St w0 i9 (Res.box p 67 [aw, ax, ay, ac, az, y, z, aa, ab] :: Res.arr (Qc .i64) 3 y n.vars :: Res.arr encFact 51 z n.atoms :: Res.arr encBool 4 aa n.grouped :: Res.arr (Qc .i64) 3 ab n.fluents :: Res.box a 29 [ai, aj, ak, cN, d, i, cO] :: Res.arr (Qc .i64) 3 ai bd :: Res.arr (Qc .i64) 3 aj be :: Res.arr encFact 51 m b.Task.Goal :: Res.arr encOp 55 cN ik :: Res.arr (Qc .i64) 3 cO il :: Res.arr encFact 51 ak [(⟨(b.Task.Vars.length : Int), 1⟩ : Fact)] :: H) w' ∧ Fx f' [(0, Vq p), (1, Vq a), (2, ap), (9, O ((b.Task.Vars.length : Int))), (91, ac), (92, O ((n.g.Goal.length : Int))), (93, O ((cf : Int))), (100, gj), (101, O ((gp.length : Int)))]) s') ?_ ?_
   ·refine YF (QC (fun k' s' f' w' => (QO fun (fM : (List Op)) (fN : (List Int)) => ∃ (iA : PHeap) (bl : Value) (aL : Value), PHeap.le fW iA ∧ St w0 iA (Res.box p 67 [aw, ax, ay, ac, az, y, z, aa, ab] :: Res.arr (Qc .i64) 3 y n.vars :: Res.arr encFact 51 z n.atoms :: Res.arr encBool 4 aa n.grouped :: Res.arr (Qc .i64) 3 ab n.fluents :: Res.box a 29 [ai, aj, ak, bl, d, i, aL] :: Res.arr (Qc .i64) 3 ai bd :: Res.arr (Qc .i64) 3 aj be :: Res.arr encFact 51 m b.Task.Goal :: Res.arr encOp 55 bl fM :: Res.arr (Qc .i64) 3 aL fN :: Res.arr encFact 51 ak [(⟨(b.Task.Vars.length : Int), 1⟩ : Fact)] :: H) w' ∧ Fx f' [(102, O (k' : Int)), (0, Vq p), (1, Vq a), (2, ap), (9, O ((b.Task.Vars.length : Int))), (91, ac), (92, O ((n.g.Goal.length : Int))), (93, O ((cf : Int))), (100, gj), (101, O ((gp.length : Int)))]) s') iS ?_ ?_ ?_)
    ·have jM := (jL.f5).drop
     exact ⟨fW, bj, bk, (Zv _), (((((((((((jM.f11).f11).f11).f11).f11).f11).f11).f11).f11).f11).f11).f11, (Fx.mk)⟩
    ·intro hX nu gz oT tU lK iY a4 mc
     obtain ⟨fM, fN⟩ := nu
     replace a4 := Q3 a4
     obtain ⟨nc, bl, aL, fO, aT, ⟨oU, rfl⟩⟩ := iY
     refine Zc (Zd (Za Z Z (Zq Z Z Z (Zb (Ze (Zc (YT (Zx (decide_eq_true (by omega))) (JG (Ze (Zc ?_))))))))))
     refine YF (Zc (Zd ?_))
     obtain ⟨bA, mF, a4⟩ := Zg a4
     refine Za Z Z (QJ S119.h Z Z Z (fR.mono fO) mF ?_)
     intro oj pk iO
     refine Za Z Z (Zw (E := (Qp encFact)) aT A24.h Z Z Z iO ?_)
     intro u mG
     have aX : SliceRep _ _ _ (bA) := QG.1 mG
     refine Za Z Z (Zo (v := u) Z Z (Zb (Ze (Zc (Zc (Zd (Za Z Z (Zm (v := Vq a) Z Z (Za Z Z (Qb Z Z (Za Z Z (Zp F29_3.h Z Z Z ?_))))))))))))
     refine Za Z Z (Zn (aT.f5) A22.h Z Z Z (Za Z Z (Q2 (aT.f10) S22.h Z Z (Za Z Z (Exec.eql Z Z Z (Zb (Ze ?_)))))))
     rcases JV a4 with ⟨br, a4⟩ | ⟨br, a4⟩
     ·refine Qd0 Z br (Zc (Zd (Za Z Z (Zo (v := Vb false) Z Z (Zb (Ze (Qf8 (KN (Qbx (KN (KN (Qbx (KN (Qbx (KN (KN (Qbx (KN (KN ?_)))))))))))))))))))
      have o1 := Zu a4
      subst gz
      have lR := lW _ (mc (by intro _ h; cases h))
      have o2 := Zu lR
      subst gx
      have lS := lV _ (mb (by intro _ h; cases h))
      have o3 := Zu lS
      subst r
      refine ⟨_, Qa5 Z, ?_⟩
      obtain ⟨nd, mt, jN, mP⟩ := aT.f11.freezeArr
      exact ⟨nd, ak, ai, aj, bl, aL, (Zt (Zt (Zt (Zt (Zt x aG) aP) ij) fO) mt), ((((((((((jN.f10).f10).f10).f10).f10).f10).f10).f10).f10).f10).f10, Z, mP⟩
     refine Qd1 Z br ?_
     replace br := Zk br
     refine JG (Ze ?_)
     obtain ⟨mu, ck, a4⟩ := Zg a4
     obtain ⟨mv, cl, a4⟩ := Zg a4
     refine Qs (M := fun f' w' => ∃ (iB : PHeap) (cP : Value) (cQ : Value), PHeap.le nc iB ∧ St w0 iB (Res.box p 67 [aw, ax, ay, ac, az, y, z, aa, ab] :: Res.arr (Qc .i64) 3 y n.vars :: Res.arr encFact 51 z n.atoms :: Res.arr encBool 4 aa n.grouped :: Res.arr (Qc .i64) 3 ab n.fluents :: Res.box a 29 [ai, aj, ak, cP, d, i, cQ] :: Res.arr (Qc .i64) 3 ai bd :: Res.arr (Qc .i64) 3 aj be :: Res.arr encFact 51 m b.Task.Goal :: Res.arr encOp 55 cP mu :: Res.arr (Qc .i64) 3 cQ mv :: Res.arr encFact 51 ak [(⟨(b.Task.Vars.length : Int), 1⟩ : Fact)] :: H) w' ∧ Fx f' [(0, Vq p), (1, Vq a), (2, ap), (9, O ((b.Task.Vars.length : Int))), (91, ac), (92, O ((n.g.Goal.length : Int))), (93, O ((cf : Int))), (100, gj), (101, O ((gp.length : Int))), (102, O ((hX : Int)))]) ?_ ?_
     ·refine KM (n0 := 24) (qs 0 10 (qs 14 4 (.alt (.e 10 [0, 1, 2, 3, 4, 5, 6, 7, 14, 15, 16, 17] (.q 11 (.alt (.e 12 [0, 1, 2, 3, 4, 5, 6, 14, 15, 16, 17] (.alt (.e 13 [0, 1, 14, 15, 16, 17] (.e 18 [0, 1, 14, 15, 16, 17] (.e 19 [0, 1] (qs 20 3 (.e 23 [1] .done))))) (.e 18 [0, 1, 2, 3, 4, 5, 6, 14, 15, 16, 17] (.e 13 [0, 1, 14, 15, 16, 17] (.e 19 [0, 1] (qs 20 3 (.e 23 [1] .done))))))) (.e 18 [0, 1, 2, 3, 4, 5, 6, 7, 14, 15, 16, 17, 11] (.e 12 [0, 1, 2, 3, 4, 5, 6, 14, 15, 16, 17] (.e 13 [0, 1, 14, 15, 16, 17] (.e 19 [0, 1] (qs 20 3 (.e 23 [1] .done))))))))) (.e 18 [0, 1, 2, 3, 4, 5, 6, 7, 8, 9, 14, 15, 16, 17] (.e 10 [0, 1, 2, 3, 4, 5, 6, 7, 14, 15, 16, 17] (.q 11 (.e 12 [0, 1, 2, 3, 4, 5, 6, 14, 15, 16, 17] (.e 13 [0, 1, 14, 15, 16, 17] (.e 19 [0, 1] (qs 20 3 (.e 23 [1] .done))))))))))) KL (by kernel_rfl) (by kernel_rfl) (Qo Z Z (Zm (v := Vq a) Z Z ⟨Z, ?_⟩))
      refine Qo Z Z (Zm (v := Vq a) Z Z ⟨Z, ?_⟩)
      refine Qo Z Z (Zm (v := Vq a) Z Z ⟨Z, ?_⟩)
      refine Qo Z Z (Qb Z Z ⟨Z, ?_⟩)
      refine Qo Z Z (Zp F29_0.h Z Z Z ⟨Z, ?_⟩)
      refine Qo Z Z (Zp F27_3.h Z Z Z ⟨Z, ?_⟩)
      refine Qo Z Z (Zn ((aT.drew).f5) A25.h Z Z Z ⟨Z, ?_⟩)
      refine Qo Z Z (Zm (v := u) Z Z ⟨Z, ?_⟩)
      refine Qo Z Z (Zm (v := O ((b.Task.Vars.length : Int))) Z Z ⟨Z, ?_⟩)
      refine Qo Z Z (Exec.build Z (Qd (c := [O ((b.Task.Vars.length : Int))]) (Qf Z Z) (Qd (c := [O 1]) (Qf Z Z) Qg)) (v := Value.agg #[Vn, O ((b.Task.Vars.length : Int)), O 1]) (fun _ => by kernel_rfl) ⟨Z, ?_⟩)
      refine Qo Z Z (Zm (v := Vq a) Z Z ⟨Z, ?_⟩)
      refine Qo Z Z (Qb Z Z ⟨Z, ?_⟩)
      refine Qo Z Z (Zp F29_3.h Z Z Z ⟨Z, ?_⟩)
      refine Qo Z Z (Zn ((aT.drew).f5) A22.h Z Z Z ⟨Z, ?_⟩)
      refine QH ?_ ?_
      ·refine Qt Z Z (Exec.buildSlice (Te := 60) (cs := [Vn, O ((b.Task.Vars.length : Int)), O 1]) aT.drew Z (Qd (c := [Vn, O ((b.Task.Vars.length : Int)), O 1]) (Qf Z Z) Qg) (fun _ => by kernel_rfl) ?_)
       intro ao tV bJ
       refine ⟨(Qa (U Z Z (Zm (v := Vq a) Z Z ⟨Z, Z⟩)) (Qa (U Z Z (Zm (v := Vq a) Z Z ⟨Z, Z⟩)) (Qa (U Z Z (Zm (v := Vq a) Z Z ⟨Z, Z⟩)) (Qa (U Z Z (Qb Z Z ⟨Z, Z⟩)) (Qa (U Z Z (Zp F29_0.h Z Z Z ⟨Z, Z⟩)) (Qa (U Z Z (Zp F27_3.h Z Z Z ⟨Z, Z⟩)) (Qa (U Z Z (Zn (bJ.f6) A25.h Z Z Z ⟨Z, Z⟩)) (Qa (U Z Z (Zm (v := u) Z Z ⟨Z, Z⟩)) (Qa (U Z Z (Zm (v := Vq a) Z Z ⟨Z, Z⟩)) (Qa (U Z Z (Qb Z Z ⟨Z, Z⟩)) (Qa (U Z Z (Zp F29_3.h Z Z Z ⟨Z, Z⟩)) (Qa (U Z Z (Zn (bJ.f6) A22.h Z Z Z ⟨Z, Z⟩)) Qi)))))))))))), ?_⟩
       refine Qo Z Z (Exec.build Z (Qd (c := [u]) (Qf Z (Qj aX.one)) (Qd (c := [Vs (some ⟨ao, 0, none⟩) 1 1]) (Qf Z Z) Qg)) (v := Value.agg #[Value.string (⟨#[]⟩), O 0, u, Vs (some ⟨ao, 0, none⟩) 1 1]) (fun _ => by kernel_rfl) ⟨Z, ?_⟩)
       refine QH ?_ ?_
       ·have jO := St.boxArr (E := encEffect) (xs := [(⟨[], (b.Task.Vars.length : Int), 1⟩ : Effect)]) bJ ⟨[Vn, O ((b.Task.Vars.length : Int)), O 1], [], rfl, ⟨[Vn], [O ((b.Task.Vars.length : Int)), O 1], rfl, ⟨_, rfl, (SliceRep.nil _ _)⟩, ⟨[O ((b.Task.Vars.length : Int))], [O 1], rfl, rfl, rfl⟩⟩, rfl⟩ (by simp [maxLen])
        obtain ⟨iC, ch, jP, ix⟩ := jO.freezeArr
        refine Qt Z Z (Exec.buildSlice (Te := 55) (cs := [Value.string (⟨#[]⟩), O 0, u, Vs (some ⟨ao, 0, none⟩) 1 1]) jP Z (Qd (c := [Value.string (⟨#[]⟩), O 0, u, Vs (some ⟨ao, 0, none⟩) 1 1]) (Qf Z Z) Qg) (fun _ => by kernel_rfl) ?_)
        intro ok tW bK
        refine ⟨(Qa (U Z Z (Zm (v := Vq a) Z Z ⟨Z, Z⟩)) (Qa (U Z Z (Zm (v := Vq a) Z Z ⟨Z, Z⟩)) (Qa (U Z Z (Zm (v := Vq a) Z Z ⟨Z, Z⟩)) (Qa (U Z Z (Qb Z Z ⟨Z, Z⟩)) (Qa (U Z Z (Zp F29_0.h Z Z Z ⟨Z, Z⟩)) (Qa (U Z Z (Zp F27_3.h Z Z Z ⟨Z, Z⟩)) (Qa (U Z Z (Zn (bK.f6) A25.h Z Z Z ⟨Z, Z⟩)) (Qa (U Z Z (Zm (v := Vq a) Z Z ⟨Z, Z⟩)) (Qa (U Z Z (Qb Z Z ⟨Z, Z⟩)) (Qa (U Z Z (Zp F29_3.h Z Z Z ⟨Z, Z⟩)) (Qa (U Z Z (Zn (bK.f6) A22.h Z Z Z ⟨Z, Z⟩)) Qi))))))))))), ?_⟩
        refine QH ?_ ?_
        ·have jQ := bK.f10
         refine Qt Z Z (Qh (E := encOp) (ys := [(⟨⟨#[]⟩, 0, bA, [(⟨[], (b.Task.Vars.length : Int), 1⟩ : Effect)]⟩ : Op)]) jQ S25.h Z55 Z (by decide) Z Z Z Z ⟨[Value.string (⟨#[]⟩), O 0, u, Vs (some ⟨ao, 0, none⟩) 1 1], [], Z, ⟨[Value.string (⟨#[]⟩)], [O 0, u, Vs (some ⟨ao, 0, none⟩) 1 1], Z, Z, ⟨[O 0], [u, Vs (some ⟨ao, 0, none⟩) 1 1], Z, Z, ⟨[u], [Vs (some ⟨ao, 0, none⟩) 1 1], Z, ⟨_, Z, (aX.mono ch)⟩, ⟨_, Z, ix⟩⟩⟩⟩, Z⟩ Z ck ?_)
         intro cR tX gT
         refine ⟨(Qa (U Z Z (Zm (v := Vq a) Z Z ⟨Z, Z⟩)) (Qa (U Z Z (Zm (v := Vq a) Z Z ⟨Z, Z⟩)) (Qa (U Z Z (Zm (v := Vq a) Z Z ⟨Z, Z⟩)) (Qa (U Z Z (Qb Z Z ⟨Z, Z⟩)) (Qa (U Z Z (Zp F29_3.h Z Z Z ⟨Z, Z⟩)) (Qa (U Z Z (Zn (gT.f6) A22.h Z Z Z ⟨Z, Z⟩)) Qi)))))), ?_⟩
         refine Qt Z Z (Exec.buildSlice (Te := 3) (cs := [O ((-1))]) gT Z (Qd (c := [O ((-1))]) (Qf Z Z) Qg) (fun _ => by kernel_rfl) ?_)
         intro ol tY gU
         refine ⟨(Qa (U Z Z (Zm (v := Vq a) Z Z ⟨Z, Z⟩)) (Qa (U Z Z (Zm (v := Vq a) Z Z ⟨Z, Z⟩)) (Qa (U Z Z (Zm (v := Vq a) Z Z ⟨Z, Z⟩)) (Qa (U Z Z (Qb Z Z ⟨Z, Z⟩)) (Qa (U Z Z (Zp F29_3.h Z Z Z ⟨Z, Z⟩)) (Qa (U Z Z (Zn (gU.f7) A22.h Z Z Z ⟨Z, Z⟩)) Qi)))))), ?_⟩
         refine Qt Z Z (Qh (E := (Qc .i64)) (ys := [(-1)]) gU.f11 S22.h Z3 Z (by decide) Z Z Z Z ⟨[O ((-1))], [], Z, Z, Z⟩ Z cl ?_)
         intro gk tZ ef
         refine ⟨(Qa (U Z Z (Zm (v := Vq a) Z Z ⟨Z, Z⟩)) (Qa (U Z Z (Zm (v := Vq a) Z Z ⟨Z, Z⟩)) Qi)), ?_⟩
         refine Qo Z Z (Qb Z Z ⟨Z, ?_⟩)
         refine Qo Z Z (Zp F29_0.h Z Z Z ⟨Z, ?_⟩)
         refine Qo Z Z (Zp F27_3.h Z Z Z ⟨Z, ?_⟩)
         refine Qt Z Z (Qe (ds := [cR]) (es := [ai, aj, ak, cR, d, i, aL]) ef.f7 A25.h Z Z Z (Qj ((ef.f7).f2).arr_one) (Zj ((ef.f7).f2).arr_one Qk) (Nat.le_of_ble_eq_true Z) Z ?_)
         intro ua eg
         refine ⟨(Qa (U Z Z (Zm (v := Vq a) Z Z ⟨Z, Z⟩)) Qi), ?_⟩
         refine Q5 (Za Z Z (Qb Z Z (Za Z Z (Zp F29_3.h Z Z Z (Za Z Z (Qe (ds := [gk]) (es := [ai, aj, ak, cR, d, i, gk]) eg A22.h Z Z Z (Qj (eg.f1).arr_one) (Zj (eg.f1).arr_one Qk) (Nat.le_of_ble_eq_true Z) Z ?_))))))
         intro ub jR
         refine Zb (Ze ?_)
         exact ⟨iC, cR, gk, ch, (((((((((((jR.f11).f2).f3).f11).f11).f11).f6).f11).f11).f11).f11).f11, (Fx.mk)⟩
        refine Qt Z Z (Exec.buildSlice (Te := 3) (cs := [O ((-1))]) bK Z (Qd (c := [O ((-1))]) (Qf Z Z) Qg) (fun _ => by kernel_rfl) ?_)
        intro om uc eh
        refine ⟨(Qa (U Z Z (Zm (v := Vq a) Z Z ⟨Z, Z⟩)) (Qa (U Z Z (Zm (v := Vq a) Z Z ⟨Z, Z⟩)) (Qa (U Z Z (Zm (v := Vq a) Z Z ⟨Z, Z⟩)) (Qa (U Z Z (Qb Z Z ⟨Z, Z⟩)) (Qa (U Z Z (Zp F29_0.h Z Z Z ⟨Z, Z⟩)) (Qa (U Z Z (Zp F27_3.h Z Z Z ⟨Z, Z⟩)) (Qa (U Z Z (Zn (eh.f7) A25.h Z Z Z ⟨Z, Z⟩)) (Qa (U Z Z (Zm (v := Vq a) Z Z ⟨Z, Z⟩)) (Qa (U Z Z (Qb Z Z ⟨Z, Z⟩)) (Qa (U Z Z (Zp F29_3.h Z Z Z ⟨Z, Z⟩)) (Qa (U Z Z (Zn (eh.f7) A22.h Z Z Z ⟨Z, Z⟩)) Qi))))))))))), ?_⟩
        refine Qt Z Z (Qh (E := encOp) (ys := [(⟨⟨#[]⟩, 0, bA, [(⟨[], (b.Task.Vars.length : Int), 1⟩ : Effect)]⟩ : Op)]) (eh.f1).f11 S25.h Z55 Z (by decide) Z Z Z Z ⟨[Value.string (⟨#[]⟩), O 0, u, Vs (some ⟨ao, 0, none⟩) 1 1], [], Z, ⟨[Value.string (⟨#[]⟩)], [O 0, u, Vs (some ⟨ao, 0, none⟩) 1 1], Z, Z, ⟨[O 0], [u, Vs (some ⟨ao, 0, none⟩) 1 1], Z, Z, ⟨[u], [Vs (some ⟨ao, 0, none⟩) 1 1], Z, ⟨_, Z, (aX.mono ch)⟩, ⟨_, Z, ix⟩⟩⟩⟩, Z⟩ Z ck ?_)
        intro cS ud gV
        refine ⟨(Qa (U Z Z (Zm (v := Vq a) Z Z ⟨Z, Z⟩)) (Qa (U Z Z (Zm (v := Vq a) Z Z ⟨Z, Z⟩)) (Qa (U Z Z (Zm (v := Vq a) Z Z ⟨Z, Z⟩)) (Qa (U Z Z (Qb Z Z ⟨Z, Z⟩)) (Qa (U Z Z (Zp F29_3.h Z Z Z ⟨Z, Z⟩)) (Qa (U Z Z (Zn (gV.f7) A22.h Z Z Z ⟨Z, Z⟩)) Qi)))))), ?_⟩
        refine Qt Z Z (Qh (E := (Qc .i64)) (ys := [(-1)]) (gV.f1).f11 S22.h Z3 Z (by decide) Z Z Z Z ⟨[O ((-1))], [], Z, Z, Z⟩ Z cl ?_)
        intro gl ue ei
        refine ⟨(Qa (U Z Z (Zm (v := Vq a) Z Z ⟨Z, Z⟩)) (Qa (U Z Z (Zm (v := Vq a) Z Z ⟨Z, Z⟩)) Qi)), ?_⟩
        refine Qo Z Z (Qb Z Z ⟨Z, ?_⟩)
        refine Qo Z Z (Zp F29_0.h Z Z Z ⟨Z, ?_⟩)
        refine Qo Z Z (Zp F27_3.h Z Z Z ⟨Z, ?_⟩)
        refine Qt Z Z (Qe (ds := [cS]) (es := [ai, aj, ak, cS, d, i, aL]) ei.f7 A25.h Z Z Z (Qj ((ei.f7).f2).arr_one) (Zj ((ei.f7).f2).arr_one Qk) (Nat.le_of_ble_eq_true Z) Z ?_)
        intro uf ej
        refine ⟨(Qa (U Z Z (Zm (v := Vq a) Z Z ⟨Z, Z⟩)) Qi), ?_⟩
        refine Q5 (Za Z Z (Qb Z Z (Za Z Z (Zp F29_3.h Z Z Z (Za Z Z (Qe (ds := [gl]) (es := [ai, aj, ak, cS, d, i, gl]) ej A22.h Z Z Z (Qj (ej.f1).arr_one) (Zj (ej.f1).arr_one Qk) (Nat.le_of_ble_eq_true Z) Z ?_))))))
        intro ug jS
        refine Zb (Ze ?_)
        exact ⟨iC, cS, gl, ch, (((((((((((jS.f11).f2).f3).f11).f11).f11).f6).f11).f11).f11).f11).f11, (Fx.mk)⟩
       refine Qt Z Z (Exec.buildSlice (Te := 3) (cs := [O ((-1))]) bJ Z (Qd (c := [O ((-1))]) (Qf Z Z) Qg) (fun _ => by kernel_rfl) ?_)
       intro on uh ek
       refine ⟨(Qa (U Z Z (Zm (v := Vq a) Z Z ⟨Z, Z⟩)) (Qa (U Z Z (Zm (v := Vq a) Z Z ⟨Z, Z⟩)) (Qa (U Z Z (Zm (v := Vq a) Z Z ⟨Z, Z⟩)) (Qa (U Z Z (Qb Z Z ⟨Z, Z⟩)) (Qa (U Z Z (Zp F29_0.h Z Z Z ⟨Z, Z⟩)) (Qa (U Z Z (Zp F27_3.h Z Z Z ⟨Z, Z⟩)) (Qa (U Z Z (Zn (ek.f7) A25.h Z Z Z ⟨Z, Z⟩)) (Qa (U Z Z (Zm (v := u) Z Z ⟨Z, Z⟩)) (Qa (U Z Z (Zm (v := Vq a) Z Z ⟨Z, Z⟩)) (Qa (U Z Z (Qb Z Z ⟨Z, Z⟩)) (Qa (U Z Z (Zp F29_3.h Z Z Z ⟨Z, Z⟩)) (Qa (U Z Z (Zn (ek.f7) A22.h Z Z Z ⟨Z, Z⟩)) (Qa (U Z Z (Exec.build Z (Qd (c := [u]) (Qf Z (Qj aX.one)) (Qd (c := [Vs (some ⟨ao, 0, none⟩) 1 1]) (Qf Z Z) Qg)) (v := Value.agg #[Value.string (⟨#[]⟩), O 0, u, Vs (some ⟨ao, 0, none⟩) 1 1]) (fun _ => by kernel_rfl) ⟨Z, Z⟩)) Qi))))))))))))), ?_⟩
       have jU := St.boxArr (E := encEffect) (xs := [(⟨[], (b.Task.Vars.length : Int), 1⟩ : Effect)]) ek.f1 ⟨[Vn, O ((b.Task.Vars.length : Int)), O 1], [], rfl, ⟨[Vn], [O ((b.Task.Vars.length : Int)), O 1], rfl, ⟨_, rfl, (SliceRep.nil _ _)⟩, ⟨[O ((b.Task.Vars.length : Int))], [O 1], rfl, rfl, rfl⟩⟩, rfl⟩ (by simp [maxLen])
       obtain ⟨nf, im, jV, mQ⟩ := jU.freezeArr
       refine Qt Z Z (Exec.buildSlice (Te := 55) (cs := [Value.string (⟨#[]⟩), O 0, u, Vs (some ⟨ao, 0, none⟩) 1 1]) jV Z (Qd (c := [Value.string (⟨#[]⟩), O 0, u, Vs (some ⟨ao, 0, none⟩) 1 1]) (Qf Z Z) Qg) (fun _ => by kernel_rfl) ?_)
       intro oo ui el
       refine ⟨(Qa (U Z Z (Zm (v := Vq a) Z Z ⟨Z, Z⟩)) (Qa (U Z Z (Zm (v := Vq a) Z Z ⟨Z, Z⟩)) (Qa (U Z Z (Zm (v := Vq a) Z Z ⟨Z, Z⟩)) (Qa (U Z Z (Qb Z Z ⟨Z, Z⟩)) (Qa (U Z Z (Zp F29_0.h Z Z Z ⟨Z, Z⟩)) (Qa (U Z Z (Zp F27_3.h Z Z Z ⟨Z, Z⟩)) (Qa (U Z Z (Zn (el.f7) A25.h Z Z Z ⟨Z, Z⟩)) (Qa (U Z Z (Zm (v := Vq a) Z Z ⟨Z, Z⟩)) (Qa (U Z Z (Qb Z Z ⟨Z, Z⟩)) (Qa (U Z Z (Zp F29_3.h Z Z Z ⟨Z, Z⟩)) (Qa (U Z Z (Zn (el.f7) A22.h Z Z Z ⟨Z, Z⟩)) Qi))))))))))), ?_⟩
       refine Qt Z Z (Qh (E := encOp) (ys := [(⟨⟨#[]⟩, 0, bA, [(⟨[], (b.Task.Vars.length : Int), 1⟩ : Effect)]⟩ : Op)]) el.f11 S25.h Z55 Z (by decide) Z Z Z Z ⟨[Value.string (⟨#[]⟩), O 0, u, Vs (some ⟨ao, 0, none⟩) 1 1], [], Z, ⟨[Value.string (⟨#[]⟩)], [O 0, u, Vs (some ⟨ao, 0, none⟩) 1 1], Z, Z, ⟨[O 0], [u, Vs (some ⟨ao, 0, none⟩) 1 1], Z, Z, ⟨[u], [Vs (some ⟨ao, 0, none⟩) 1 1], Z, ⟨_, Z, (aX.mono im)⟩, ⟨_, Z, mQ⟩⟩⟩⟩, Z⟩ Z ck ?_)
       intro cT uj gW
       refine ⟨(Qa (U Z Z (Zm (v := Vq a) Z Z ⟨Z, Z⟩)) (Qa (U Z Z (Zm (v := Vq a) Z Z ⟨Z, Z⟩)) (Qa (U Z Z (Zm (v := Vq a) Z Z ⟨Z, Z⟩)) (Qa (U Z Z (Qb Z Z ⟨Z, Z⟩)) (Qa (U Z Z (Zp F29_3.h Z Z Z ⟨Z, Z⟩)) (Qa (U Z Z (Zn (gW.f7) A22.h Z Z Z ⟨Z, Z⟩)) Qi)))))), ?_⟩
       refine Qt Z Z (Qh (E := (Qc .i64)) (ys := [(-1)]) (gW.f1).f11 S22.h Z3 Z (by decide) Z Z Z Z ⟨[O ((-1))], [], Z, Z, Z⟩ Z cl ?_)
       intro gm uk em
       refine ⟨(Qa (U Z Z (Zm (v := Vq a) Z Z ⟨Z, Z⟩)) (Qa (U Z Z (Zm (v := Vq a) Z Z ⟨Z, Z⟩)) Qi)), ?_⟩
       refine Qo Z Z (Qb Z Z ⟨Z, ?_⟩)
       refine Qo Z Z (Zp F29_0.h Z Z Z ⟨Z, ?_⟩)
       refine Qo Z Z (Zp F27_3.h Z Z Z ⟨Z, ?_⟩)
       refine Qt Z Z (Qe (ds := [cT]) (es := [ai, aj, ak, cT, d, i, aL]) em.f7 A25.h Z Z Z (Qj ((em.f7).f2).arr_one) (Zj ((em.f7).f2).arr_one Qk) (Nat.le_of_ble_eq_true Z) Z ?_)
       intro ul eo
       refine ⟨(Qa (U Z Z (Zm (v := Vq a) Z Z ⟨Z, Z⟩)) Qi), ?_⟩
       refine Q5 (Za Z Z (Qb Z Z (Za Z Z (Zp F29_3.h Z Z Z (Za Z Z (Qe (ds := [gm]) (es := [ai, aj, ak, cT, d, i, gm]) eo A22.h Z Z Z (Qj (eo.f1).arr_one) (Zj (eo.f1).arr_one Qk) (Nat.le_of_ble_eq_true Z) Z ?_))))))
       intro um jW
       refine Zb (Ze ?_)
       exact ⟨nf, cT, gm, im, (((((((((((jW.f11).f2).f3).f11).f11).f11).f6).f11).f11).f11).f11).f11, (Fx.mk)⟩
      refine Qt Z Z (Exec.buildSlice (Te := 3) (cs := [O ((-1))]) aT.drew Z (Qd (c := [O ((-1))]) (Qf Z Z) Qg) (fun _ => by kernel_rfl) ?_)
      intro op un er
      refine ⟨(Qa (U Z Z (Zm (v := Vq a) Z Z ⟨Z, Z⟩)) (Qa (U Z Z (Zm (v := Vq a) Z Z ⟨Z, Z⟩)) (Qa (U Z Z (Zm (v := Vq a) Z Z ⟨Z, Z⟩)) (Qa (U Z Z (Qb Z Z ⟨Z, Z⟩)) (Qa (U Z Z (Zp F29_0.h Z Z Z ⟨Z, Z⟩)) (Qa (U Z Z (Zp F27_3.h Z Z Z ⟨Z, Z⟩)) (Qa (U Z Z (Zn (er.f6) A25.h Z Z Z ⟨Z, Z⟩)) (Qa (U Z Z (Zm (v := u) Z Z ⟨Z, Z⟩)) (Qa (U Z Z (Zm (v := O ((b.Task.Vars.length : Int))) Z Z ⟨Z, Z⟩)) (Qa (U Z Z (Exec.build Z (Qd (c := [O ((b.Task.Vars.length : Int))]) (Qf Z Z) (Qd (c := [O 1]) (Qf Z Z) Qg)) (v := Value.agg #[Vn, O ((b.Task.Vars.length : Int)), O 1]) (fun _ => by kernel_rfl) ⟨Z, Z⟩)) (Qa (U Z Z (Zm (v := Vq a) Z Z ⟨Z, Z⟩)) (Qa (U Z Z (Qb Z Z ⟨Z, Z⟩)) (Qa (U Z Z (Zp F29_3.h Z Z Z ⟨Z, Z⟩)) (Qa (U Z Z (Zn (er.f6) A22.h Z Z Z ⟨Z, Z⟩)) Qi)))))))))))))), ?_⟩
      refine Qt Z Z (Exec.buildSlice (Te := 60) (cs := [Vn, O ((b.Task.Vars.length : Int)), O 1]) er Z (Qd (c := [Vn, O ((b.Task.Vars.length : Int)), O 1]) (Qf Z Z) Qg) (fun _ => by kernel_rfl) ?_)
      intro aR uo et
      refine ⟨(Qa (U Z Z (Zm (v := Vq a) Z Z ⟨Z, Z⟩)) (Qa (U Z Z (Zm (v := Vq a) Z Z ⟨Z, Z⟩)) (Qa (U Z Z (Zm (v := Vq a) Z Z ⟨Z, Z⟩)) (Qa (U Z Z (Qb Z Z ⟨Z, Z⟩)) (Qa (U Z Z (Zp F29_0.h Z Z Z ⟨Z, Z⟩)) (Qa (U Z Z (Zp F27_3.h Z Z Z ⟨Z, Z⟩)) (Qa (U Z Z (Zn (et.f7) A25.h Z Z Z ⟨Z, Z⟩)) (Qa (U Z Z (Zm (v := u) Z Z ⟨Z, Z⟩)) (Qa (U Z Z (Zm (v := Vq a) Z Z ⟨Z, Z⟩)) (Qa (U Z Z (Qb Z Z ⟨Z, Z⟩)) (Qa (U Z Z (Zp F29_3.h Z Z Z ⟨Z, Z⟩)) (Qa (U Z Z (Zn (et.f7) A22.h Z Z Z ⟨Z, Z⟩)) Qi)))))))))))), ?_⟩
      refine Qo Z Z (Exec.build Z (Qd (c := [u]) (Qf Z (Qj aX.one)) (Qd (c := [Vs (some ⟨aR, 0, none⟩) 1 1]) (Qf Z Z) Qg)) (v := Value.agg #[Value.string (⟨#[]⟩), O 0, u, Vs (some ⟨aR, 0, none⟩) 1 1]) (fun _ => by kernel_rfl) ⟨Z, ?_⟩)
      have jX := St.boxArr (E := encEffect) (xs := [(⟨[], (b.Task.Vars.length : Int), 1⟩ : Effect)]) et ⟨[Vn, O ((b.Task.Vars.length : Int)), O 1], [], rfl, ⟨[Vn], [O ((b.Task.Vars.length : Int)), O 1], rfl, ⟨_, rfl, (SliceRep.nil _ _)⟩, ⟨[O ((b.Task.Vars.length : Int))], [O 1], rfl, rfl, rfl⟩⟩, rfl⟩ (by simp [maxLen])
      obtain ⟨ng, io, jY, mR⟩ := jX.freezeArr
      refine Qt Z Z (Exec.buildSlice (Te := 55) (cs := [Value.string (⟨#[]⟩), O 0, u, Vs (some ⟨aR, 0, none⟩) 1 1]) jY Z (Qd (c := [Value.string (⟨#[]⟩), O 0, u, Vs (some ⟨aR, 0, none⟩) 1 1]) (Qf Z Z) Qg) (fun _ => by kernel_rfl) ?_)
      intro oq up eu
      refine ⟨(Qa (U Z Z (Zm (v := Vq a) Z Z ⟨Z, Z⟩)) (Qa (U Z Z (Zm (v := Vq a) Z Z ⟨Z, Z⟩)) (Qa (U Z Z (Zm (v := Vq a) Z Z ⟨Z, Z⟩)) (Qa (U Z Z (Qb Z Z ⟨Z, Z⟩)) (Qa (U Z Z (Zp F29_0.h Z Z Z ⟨Z, Z⟩)) (Qa (U Z Z (Zp F27_3.h Z Z Z ⟨Z, Z⟩)) (Qa (U Z Z (Zn (eu.f7) A25.h Z Z Z ⟨Z, Z⟩)) (Qa (U Z Z (Zm (v := Vq a) Z Z ⟨Z, Z⟩)) (Qa (U Z Z (Qb Z Z ⟨Z, Z⟩)) (Qa (U Z Z (Zp F29_3.h Z Z Z ⟨Z, Z⟩)) (Qa (U Z Z (Zn (eu.f7) A22.h Z Z Z ⟨Z, Z⟩)) Qi))))))))))), ?_⟩
      refine Qt Z Z (Qh (E := encOp) (ys := [(⟨⟨#[]⟩, 0, bA, [(⟨[], (b.Task.Vars.length : Int), 1⟩ : Effect)]⟩ : Op)]) eu.f11 S25.h Z55 Z (by decide) Z Z Z Z ⟨[Value.string (⟨#[]⟩), O 0, u, Vs (some ⟨aR, 0, none⟩) 1 1], [], Z, ⟨[Value.string (⟨#[]⟩)], [O 0, u, Vs (some ⟨aR, 0, none⟩) 1 1], Z, Z, ⟨[O 0], [u, Vs (some ⟨aR, 0, none⟩) 1 1], Z, Z, ⟨[u], [Vs (some ⟨aR, 0, none⟩) 1 1], Z, ⟨_, Z, (aX.mono io)⟩, ⟨_, Z, mR⟩⟩⟩⟩, Z⟩ Z ck ?_)
      intro cU uq gX
      refine ⟨(Qa (U Z Z (Zm (v := Vq a) Z Z ⟨Z, Z⟩)) (Qa (U Z Z (Zm (v := Vq a) Z Z ⟨Z, Z⟩)) (Qa (U Z Z (Zm (v := Vq a) Z Z ⟨Z, Z⟩)) (Qa (U Z Z (Qb Z Z ⟨Z, Z⟩)) (Qa (U Z Z (Zp F29_3.h Z Z Z ⟨Z, Z⟩)) (Qa (U Z Z (Zn (gX.f7) A22.h Z Z Z ⟨Z, Z⟩)) Qi)))))), ?_⟩
      refine Qt Z Z (Qh (E := (Qc .i64)) (ys := [(-1)]) (gX.f1).f11 S22.h Z3 Z (by decide) Z Z Z Z ⟨[O ((-1))], [], Z, Z, Z⟩ Z cl ?_)
      intro gn ur ev
      refine ⟨(Qa (U Z Z (Zm (v := Vq a) Z Z ⟨Z, Z⟩)) (Qa (U Z Z (Zm (v := Vq a) Z Z ⟨Z, Z⟩)) Qi)), ?_⟩
      refine Qo Z Z (Qb Z Z ⟨Z, ?_⟩)
      refine Qo Z Z (Zp F29_0.h Z Z Z ⟨Z, ?_⟩)
      refine Qo Z Z (Zp F27_3.h Z Z Z ⟨Z, ?_⟩)
      refine Qt Z Z (Qe (ds := [cU]) (es := [ai, aj, ak, cU, d, i, aL]) ev.f7 A25.h Z Z Z (Qj ((ev.f7).f2).arr_one) (Zj ((ev.f7).f2).arr_one Qk) (Nat.le_of_ble_eq_true Z) Z ?_)
      intro us ew
      refine ⟨(Qa (U Z Z (Zm (v := Vq a) Z Z ⟨Z, Z⟩)) Qi), ?_⟩
      refine Q5 (Za Z Z (Qb Z Z (Za Z Z (Zp F29_3.h Z Z Z (Za Z Z (Qe (ds := [gn]) (es := [ai, aj, ak, cU, d, i, gn]) ew A22.h Z Z Z (Qj (ew.f1).arr_one) (Zj (ew.f1).arr_one Qk) (Nat.le_of_ble_eq_true Z) Z ?_))))))
      intro ut ka
      refine Zb (Ze ?_)
      exact ⟨ng, cU, gn, io, (((((((((((ka.f11).f2).f3).f11).f11).f11).f6).f11).f11).f11).f11).f11, (Fx.mk)⟩
     intro oV uu jh
     obtain ⟨nh, cP, cQ, mw, kb, ⟨oW, rfl⟩⟩ := jh
     refine (QaO (Ze (Zd (Za Z Z (Exec.add Z Z Z (Za Z Z (Zm (v := O (IntKind.i64.wrap ((hX : Int) + 1))) Z Z (Zb (Ze ?_)))))))))
     have o4 := Zu a4
     subst gz
     refine ⟨_, Z, ?_⟩; exact ⟨nh, cP, cQ, (Zt fO mw), (((((((((((kb.f11).f11).f11).f11).f11).f11).f11).f11).f11).f11).f11).f11, (Fx.mk (FxL.cons (J5 lK (SliceRep.le fR)) fxl))⟩
    intro nv oX uv iZ md
    obtain ⟨fM, fN⟩ := nv
    obtain ⟨ni, bl, aL, mx, kc, ⟨oY, rfl⟩⟩ := iZ
    refine Zc (Zd (Za Z Z (Zq Z Z Z (Zb (Ze (Zc (KQ (Zx (decide_eq_false (by omega))) (Qcl (K8 (K8 (QaI (Ze ?_))))))))))))
    refine ⟨_, .inl md, ?_⟩; exact ⟨ni, bl, aL, mx, (((((((((((kc.f11).f11).f11).f11).f11).f11).f11).f11).f11).f11).f11).f11, (Fx.mk)⟩
   rintro oZ uw ⟨nw, hU, ji⟩
   have aE := hU.elim (lO _) (lG _)
   clear hU
   obtain ⟨ik, il⟩ := nw
   replace aE := Q3 aE
   obtain ⟨nj, cN, cO, my, kd, ⟨pa, rfl⟩⟩ := ji
   refine (QaO (Ze (Zd (Za Z Z (Exec.add Z Z Z (Za Z Z (Zm (v := O (IntKind.i64.wrap ((cf : Int) + 1))) Z Z (Zb (Ze ?_)))))))))
   have o5 := Zu aE
   subst gx
   refine ⟨_, Z, ?_⟩; exact ⟨nj, cN, cO, (Zt (Zt aP ij) my), (((((((((((kd.f11).f11).f11).f11).f11).f11).f11).f11).f11).f11).f11).f11, (Fx.mk (FxL.cons (J5 lJ (SliceRep.le (a5.mono (Zt x aG)))) fxl))⟩
  intro nx pb ux ja me
  obtain ⟨fK, fL⟩ := nx
  obtain ⟨nk, bj, bk, mz, kf, ⟨pc, rfl⟩⟩ := ja
  refine Zc (Zd (Za Z Z (Zq Z Z Z (Zb (Ze (Zc (KQ (Zx (decide_eq_false (by omega))) (Qcl (K8 (K8 (QaI (Ze ?_))))))))))))
  refine ⟨_, .inl me, ?_⟩; exact ⟨nk, bj, bk, mz, (((((((((((kf.f11).f11).f11).f11).f11).f11).f11).f11).f11).f11).f11).f11, (Fx.mk)⟩
 rintro pd uy ⟨ny, hV, jj⟩
 have hm := hV.elim (lN _) (lF _)
 clear hV
 obtain ⟨ih, ii⟩ := ny
 replace hm := Q3 hm
 obtain ⟨po, cL, cM, m0, kg, ⟨pe, rfl⟩⟩ := jj
 refine (Ze (Zc (Zd (Za Z Z (Zo (v := Vb true) Z Z (Zb (Ze (Qf8 ?_))))))))
 have o6 := Zu hm
 subst r
 refine ⟨_, Qa5 Z, ?_⟩
 obtain ⟨nl, m1, kh, mS⟩ := kg.f11.freezeArr
 exact ⟨nl, ak, ai, aj, cL, cM, (Zt (Zt (Zt x aG) m0) m1), ((((((((((kh.f10).f10).f10).f10).f10).f10).f10).f10).f10).f10).f10, Z, mS⟩
end Go.Pw
