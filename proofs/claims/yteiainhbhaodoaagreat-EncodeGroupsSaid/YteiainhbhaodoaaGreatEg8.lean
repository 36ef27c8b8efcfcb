/- -/
import Derived.Test.YteiainhbhaodoaaGreatL61
import Derived.Test.YteiainhbhaodoaaGreatEg7
set_option maxRecDepth 100000
set_option maxHeartbeats 4000000
set_option linter.unusedVariables false
namespace Go.Pw
open Go.Proofs
attribute [local irreducible] Exec WL W andThen YR DL Jh
theorem Qdo {w0 w : World} {s : PHeap} {H : List Res} {j : Ground} {q : (List Int)} {l : Value} {m : Value} {n : Value} {o : Value} {p : Value} {d : Value} {r : Bool} (hm : JQ j q = some r) (hS : St w0 s (H) w) (bf : SliceRep encAtom s l j.Atoms) (bg : SliceRep encGFluent s m j.Fluents) (bh : SliceRep (Qc .i64) s n j.Init) (bi : SliceRep encCond s o j.Goal) (bj : SliceRep encGOp s p j.Ops) (bk : SliceRep (Qc .i64) s d q) :
  Calls Tryz.prog 13 #[Value.agg #[l, m, n, o, p], d] w fun e w' => ∃ v, e = .returned v ∧ ((fun (be : Bool) => ∃ (ai : PHeap) , PHeap.le s ai ∧ St w0 ai (H) w' ∧ v = Value.bool (be)) r) := by
 unfold JQ at hm
 refine Ql Tryz.func13 Z Z (G ?_)
 refine JH Z Z ?_
 intro c cn b7
 obtain ⟨z, av, aI, aE, a6⟩ := Qu hm
 refine g ?_
 refine Zc (Zd (g ?_))
 refine Zc (Zc (Zd (g ?_)))
 refine Qs (M := fun f' w' => ∃ s', (z = .next s' ∨ z = .brk s') ∧ (fun (ah : Int) => ∃ (aj : PHeap) , PHeap.le s aj ∧ St w0 aj (Res.box c 44 [l, m, n, o, p] :: H) w' ∧ Fx f' [(1, d), (2, Vq c), (5, O ah), (9, d), (10, O ((q.length : Int)))]) s') ?_ ?_
 ·refine G ?_
  refine QC (fun k' s' f' w' => (fun (u : Int) => ∃ (ak : PHeap) , PHeap.le s ak ∧ St w0 ak (Res.box c 44 [l, m, n, o, p] :: H) w' ∧ Fx f' [(11, O (k' : Int)), (1, d), (2, Vq c), (5, O u), (9, d), (10, O ((q.length : Int)))]) s') av ?_ ?_ ?_
  ·exact fq
  ·intro ag u bo bq co bF ax b aK
   obtain ⟨bb, bI, ab, ⟨br, rfl⟩⟩ := ax
   obtain ⟨bd, aO, b⟩ := Zg b
   refine G ?_
   refine QI Z Z Z aO ?_
   intro bl bS aq
   refine G ?_
   refine Zw (E := (Qc .i64)) ab A3.h Z Z Z aq ?_
   intro ck aP
   obtain rfl := Qm.1 aP
   obtain ⟨y, a, b⟩ := Zg b
   refine g ?_
   refine Zc (Zc (Qs (M := fun f' w' => (fun (y : Bool) => ∃ (al : PHeap) , PHeap.le bb al ∧ St w0 al (Res.box c 44 [l, m, n, o, p] :: H) w' ∧ Fx f' [(1, d), (2, Vq c), (5, O u), (7, O bd), (9, d), (10, O ((q.length : Int))), (11, O ((ag : Int))), (37, Vb y)]) y) ?_ ?_))
   ·refine G ?_
    rcases Qv a with ⟨a8, a⟩ | ⟨a8, a⟩
    ·cases a
     refine G ?_
     exact fq
    refine G ?_
    rcases Qv a with ⟨a9, a⟩ | ⟨a9, a⟩
    ·cases a
     refine G ?_
     exact fq
    refine G ?_
    rcases Qv a with ⟨aA, a⟩ | ⟨aA, a⟩
    ·obtain ⟨cy, aQ, a⟩ := Zg a
     refine G ?_
     refine QI Z Z Z aQ ?_
     intro bm bT ar
     refine G ?_
     refine Zw (E := (Qc .i64)) ab A3.h Z Z Z ar ?_
     intro cl aR
     obtain rfl := Qm.1 aR
     cases a
     refine G ?_
     exact fq
    cases a
    refine G ?_
    exact fq
   intro bs cp a1
   obtain ⟨bV, bJ, a5, ⟨bt, rfl⟩⟩ := a1
   refine G ?_
   rcases Qv b with ⟨aB, b⟩ | ⟨aB, b⟩
   ·cases b
    have aG := aI _ (aK (by intro _ h; cases h))
    cases aG
    refine G ?_
    exact fr
   obtain ⟨c0, aS, b⟩ := Zg b
   refine G ?_
   refine Tc Z Z Z Z (Qax aS a5 rq).r ?_
   rintro _ cq ⟨bc, bK, b8, rfl⟩
   obtain ⟨x, t, b⟩ := Zg b
   refine g ?_
   refine Qs (M := fun f' w' => (fun (x : Int) => ∃ (am : PHeap) , PHeap.le bc am ∧ St w0 am (Res.box c 44 [l, m, n, o, p] :: H) w' ∧ Fx f' [(1, d), (2, Vq c), (5, O x), (9, d), (10, O ((q.length : Int))), (11, O ((ag : Int)))]) x) ?_ ?_
   ·rcases Qv t with ⟨aC, t⟩ | ⟨aC, t⟩
    ·cases t
     refine G ?_
     exact fq
    cases t
    refine G ?_
    exact fq
   intro bu cr a2
   obtain ⟨bW, bL, b9, ⟨bv, rfl⟩⟩ := a2
   cases b
   refine G ?_
   exact ⟨_, Z, fq⟩
  intro u bw cs ay aL
  obtain ⟨bX, bM, bA, ⟨bx, rfl⟩⟩ := ay
  refine G ?_
  exact ⟨_, .inl aL, fq⟩
 rintro bz ct ⟨ah, ad, a3⟩
 have hm := ad.elim (aE _) (a6 _)
 clear ad
 obtain ⟨an, bN, bB, ⟨b0, rfl⟩⟩ := a3
 refine G ?_
 rcases Qv hm with ⟨ae, hm⟩ | ⟨ae, hm⟩
 ·cases hm
  refine G ?_
  exact fr
 obtain ⟨aa, aw, aJ, aF, a7⟩ := Qu hm
 refine W_c Z ae (Qbk (JG (Ze (Zc (Zc (Zd (g ?_)))))))
 refine Qs (M := fun f' w' => ∃ s', (aa = .next s' ∨ aa = .brk s') ∧ (fun (_ : Unit) => ∃ (ao : PHeap) , PHeap.le an ao ∧ St w0 ao (Res.box c 44 [l, m, n, o, p] :: H) w' ∧ Fx f' [(1, d), (2, Vq c), (49, O ((j.Ops.length : Int)))]) s') ?_ ?_
 ·refine G ?_
  refine QC (fun k' s' f' w' => (fun (_ : Unit) => ∃ (ap : PHeap) , PHeap.le an ap ∧ St w0 ap (Res.box c 44 [l, m, n, o, p] :: H) w' ∧ Fx f' [(50, O (k' : Int)), (1, d), (2, Vq c), (49, O ((j.Ops.length : Int)))]) s') aw ?_ ?_ ?_
  ·exact fq
  ·intro bH cc bp b1 cu bG az i aM
   obtain ⟨bY, bO, ac, ⟨b2, rfl⟩⟩ := az
   obtain ⟨cz, aT, i⟩ := Zg i
   refine G ?_
   refine QI Z Z Z aT ?_
   intro bn bU au
   refine G ?_
   refine Zw (E := encGOp) ac A92.h Z Z Z au ?_
   intro cm aU
   obtain ⟨cf, cg, ch, ci, cj, rfl, aW, aX, aY, aZ, ba⟩ := Ys.1 aU
   obtain ⟨c1, aV, i⟩ := Zg i
   refine G ?_
   refine Tc Z Z Z Z (Qdn aV ac aW aX aY aZ ba rq).r ?_
   rintro _ cv ⟨bZ, bP, bC, rfl⟩
   refine G ?_
   rcases Qv i with ⟨aD, i⟩ | ⟨aD, i⟩
   ·cases i
    have aH := aJ _ (aM (by intro _ h; cases h))
    cases aH
    refine G ?_
    exact fr
   cases i
   refine G ?_
   exact ⟨_, Z, fq⟩
  intro cd b3 cw a0 aN
  obtain ⟨ca, bQ, bD, ⟨b4, rfl⟩⟩ := a0
  refine G ?_
  exact ⟨_, .inl aN, fq⟩
 rintro b5 cx ⟨ce, af, a4⟩
 have hm := af.elim (aF _) (a7 _)
 clear af
 obtain ⟨cb, bR, bE, ⟨b6, rfl⟩⟩ := a4
 cases hm
 refine G ?_
 exact fr
theorem Qlv : (Tryz.prog.info? 38).map (·.zero) = some (some (.int .i64 0)) := by kernel_rfl
theorem Qgk {w0 w : World} {s : PHeap} {H : List Res} {a : (Option Int)} {r : Int} (hm : QaX a = some r) (hS : St w0 s (H) w) :
  Calls Tryz.prog 16 #[Qam 38 (a)] w fun e w' => ∃ v, e = .returned v ∧ ((fun (f : Int) => ∃ (b : PHeap) , PHeap.le s b ∧ St w0 b (H) w' ∧ v = O f) r) := by
 unfold QaX at hm
 refine Ql Tryz.func16 Z Z (G ?_)
 refine Y1 (T := 38) Tryz.underlying31 Z Z Z (G ?_)
 rcases Qv hm with ⟨c, hm⟩ | ⟨c, hm⟩
 ·cases hm
  refine G ?_
  exact fr
 refine G ?_
 refine Qe2 Tryz.underlying38 Qlv Z Z (G ?_)
 rcases Qv hm with ⟨d, hm⟩ | ⟨d, hm⟩
 ·cases hm
  refine G ?_
  exact fr
 cases hm
 refine G ?_
 exact fr
theorem Qcp {w0 w : World} {s : PHeap} {H : List Res} {a : (Option Int)} {b : Int} {r : Bool} (hm : QbF a b = some r) (hS : St w0 s (H) w) :
  Calls Tryz.prog 9 #[Qam 38 (a), O b] w fun e w' => ∃ v, e = .returned v ∧ ((fun (j : Bool) => ∃ (c : PHeap) , PHeap.le s c ∧ St w0 c (H) w' ∧ v = Value.bool (j)) r) := by
 unfold QbF at hm
 refine Ql Tryz.func9 Z Z (Zc (Zd (g ?_)))
 refine Zc (Qs (M := fun f' w' => ∃ (d : PHeap) , PHeap.le s d ∧ St w0 d (H) w' ∧ Fx f' [(4, Vb ((a.isSome && decide ((YJ a) = b))))]) ?_ ?_)
 ·refine G ?_
  refine KD (T := 38) Tryz.underlying31 Z Z Z (G ?_)
  rcases tf (a.isSome) with i | i
  ·refine G ?_
   refine Tc Z Z Z Z (Qgk (Qd7 a) hS).r ?_
   rintro _ u ⟨q, o, m, rfl⟩
   refine G ?_
   exact fq
  refine G ?_
  exact fq
 intro k x h
 obtain ⟨t, p, n, ⟨l, rfl⟩⟩ := h
 cases hm
 refine G ?_
 exact fr
theorem QbX {w0 w : World} {s : PHeap} {H : List Res} {fu : Nat} {g1 : Ground} {group12 : (List Int)} {v2 : Value} {v4 : Value} {v6 : Value} {v8 : Value} {v10 : Value} {v13 : Value} {r : Bool} (hm : JW fu g1 group12 = some r) (hS : St w0 s (H) w) (a3 : SliceRep encAtom s v2 g1.Atoms) (a5 : SliceRep encGFluent s v4 g1.Fluents) (a7 : SliceRep (Qc .i64) s v6 g1.Init) (a9 : SliceRep encCond s v8 g1.Goal) (a11 : SliceRep encGOp s v10 g1.Ops) (a14 : SliceRep (Qc .i64) s v13 group12) :
  Calls Tryz.prog 4 #[Value.agg #[v2, v4, v6, v8, v10], v13] w fun e w' => ∃ v, e = .returned v ∧ ((fun (y16 : Bool) => ∃ (al : PHeap) , PHeap.le s al ∧ St w0 al (H) w' ∧ v = Value.bool (y16)) r) := by
 unfold JW at hm
 refine Ql Tryz.func4 Z Z (G ?_)
 refine JH Z Z ?_
 intro i cD aA
 obtain ⟨y, a, hm⟩ := Zg hm
 refine g ?_
 refine Zc (Zc (Qs (M := fun f' w' => (fun (y : Bool) => ∃ (am : PHeap) , PHeap.le s am ∧ St w0 am (Res.box i 44 [v2, v4, v6, v8, v10] :: H) w' ∧ Fx f' [(1, v13), (2, Vq i), (20, Vb y)]) y) ?_ ?_))
 ·obtain ⟨da, aY, a⟩ := Zg a
  refine G ?_
  refine Tc Z Z Z Z (Qew aY aA a3 a5 a7 a9 a11).r ?_
  rintro _ cE ⟨cq, bJ, aB, rfl⟩
  refine G ?_
  rcases Qv a with ⟨aL, a⟩ | ⟨aL, a⟩
  ·cases a
   refine G ?_
   exact fq
  refine G ?_
  rcases Qv a with ⟨aM, a⟩ | ⟨aM, a⟩
  ·cases a
   refine G ?_
   exact fq
  obtain ⟨db, aZ, a⟩ := Zg a
  refine G ?_
  refine Tc Z Z Z Qx (Qcb aZ aB).r ?_
  rintro _ cF ⟨cr, bK, b8, rfl⟩
  cases a
  refine G ?_
  exact fq
 intro bv cG a1
 obtain ⟨ct, bL, ac, ⟨bw, rfl⟩⟩ := a1
 refine G ?_
 rcases Qv hm with ⟨aN, hm⟩ | ⟨aN, hm⟩
 ·obtain ⟨dc, ba, hm⟩ := Zg hm
  refine G ?_
  refine Tc Z Z Z Qx (Qcb ba ac).r ?_
  rintro _ cH ⟨cu, bM, b9, rfl⟩
  cases hm
  refine G ?_
  exact fr
 refine G ?_
 refine Exec.buildSlice (Te := 22) (cs := [v13]) ac Z (Qd (c := [v13]) (Qf Z (Qj (rq).one)) Qg) (fun _ => by kernel_rfl) ?_
 intro bq cI aC
 have aD := St.boxArr (E := (Qp (Qc .i64))) (xs := [group12]) aC ⟨[v13], [], rfl, ⟨_, rfl, rq⟩, rfl⟩ (by simp [maxLen])
 obtain ⟨cv, bN, aE, bj⟩ := aD.freezeArr
 obtain ⟨bn, bb, hm⟩ := Zg hm
 obtain ⟨k, dd⟩ := bn
 replace hm := Q3 hm
 refine G ?_
 refine Tc Z Z Z Z (Qaj bb aE rq rq rq rq rq bj).r ?_
 rintro _ cJ ⟨bk, c4, c5, c6, c7, c8, c9, cA, bO, aF, rfl, cc, cd, ce, cf, cg, ch, ci⟩
 refine G ?_
 refine Exec.alloc (cs := [Vn, Vn, Vn, Vn, Vn, Vn, Vn]) aF Z29 Z Z ?_
 intro br cK bA
 refine G ?_
 refine Xst Z Z Z ?_
 intro cL aG
 obtain ⟨z, j, hm⟩ := Zg hm
 refine g ?_
 refine Zc (Zc (Qs (M := fun f' w' => (fun (z : Bool) => ∃ (an : PHeap) , PHeap.le bk an ∧ St w0 an (Res.box i 44 [v2, v4, v6, v8, v10] :: H) w' ∧ Fx f' [(2, Vq i), (6, Qam 38 (k)), (37, Vb z)]) z) ?_ ?_))
 ·obtain ⟨de, bc, j⟩ := Zg j
  refine G ?_
  refine Tc Z Z Z Z (Kh bc aG rq rq rq rq rq).r ?_
  rintro _ cM ⟨cw, bP, aH, rfl⟩
  refine G ?_
  rcases Qv j with ⟨aO, j⟩ | ⟨aO, j⟩
  ·cases j
   refine G ?_
   exact fq
  obtain ⟨df, bd, j⟩ := Zg j
  refine G ?_
  refine Tc Z Z Z Z (Qdo bd aH rq rq rq rq rq rq).r ?_
  rintro _ cN ⟨cx, bQ, bB, rfl⟩
  cases j
  refine G ?_
  exact fq
 intro bx cO a2
 obtain ⟨cy, bR, ad, ⟨bz, rfl⟩⟩ := a2
 refine G ?_
 rcases Qv hm with ⟨aP, hm⟩ | ⟨aP, hm⟩
 ·refine G ?_
  refine Tc Z Z Z Z (Qcp (Qbp k 2) ad).r ?_
  rintro _ cP ⟨cz, bS, bC, rfl⟩
  cases hm
  refine G ?_
  exact fr
 obtain ⟨bo, be, hm⟩ := Zg hm
 obtain ⟨bp, aw⟩ := bo
 replace hm := Q3 hm
 refine G ?_
 refine Tc Z Z Z Z (Qaj be ad rq rq rq rq rq (SliceRep.nil _ _)).r ?_
 rintro _ cQ ⟨ao, n, o, p, q, t, u, x, bT, aI, rfl, cj, ck, cl, cm, cn, co, cp⟩
 refine G ?_
 refine Exec.alloc (cs := [Vn, Vn, Vn, Vn, Vn, Vn, Vn]) aI Z29 Z Z ?_
 intro l cR bD
 refine G ?_
 refine Xst Z Z Z ?_
 intro cS ae
 refine G ?_
 refine KD (T := 38) Tryz.underlying31 Z Z Z (G ?_)
 rcases Qv hm with ⟨ag, hm⟩ | ⟨ag, hm⟩
 ·refine G ?_
  refine Tc Z Z Z Z (Qcp (Qbp bp 5) ae).r ?_
  rintro _ cT ⟨c0, bU, bE, rfl⟩
  cases hm
  refine G ?_
  exact fr
 obtain ⟨ab, az, aX, aV, aK⟩ := Qu hm
 refine W_c Z ag (Qbk (JG (Ze (Zc (Zc (Zd (g ?_)))))))
 refine Qs (M := fun f' w' => ∃ s', (ab = .next s' ∨ ab = .brk s') ∧ (fun (ak : Int) => ∃ (ap : PHeap) , PHeap.le ao ap ∧ St w0 ap (Res.box i 44 [v2, v4, v6, v8, v10] :: Res.box l 29 [n, o, p, q, t, u, x] :: H) w' ∧ Fx f' [(2, Vq i), (6, Qam 38 (k)), (7, Vq l), (9, O ak)]) s') ?_ ?_
 ·refine G ?_
  refine Ym (fun s' f' w' => (fun (m : Int) => ∃ (aq : PHeap) , PHeap.le ao aq ∧ St w0 aq (Res.box i 44 [v2, v4, v6, v8, v10] :: Res.box l 29 [n, o, p, q, t, u, x] :: H) w' ∧ Fx f' [(2, Vq i), (6, Qam 38 (k)), (7, Vq l), (9, O m)]) s') az ?_ ?_
  ·have bF := ae.f1
   exact fq
  intro m bu b0 cU a0 d aj
  obtain ⟨bl, bV, af, ⟨b1, rfl⟩⟩ := a0
  refine G ?_
  rcases Qv d with ⟨ah, d⟩ | ⟨ah, d⟩
  ·obtain ⟨aa, b, d⟩ := Zg d
   refine W_c Z ah (Qhf (JG (Ze (Zc (YF (Zc (Qs (M := fun f' w' => (fun (aa : Bool) => ∃ (ar : PHeap) , PHeap.le bl ar ∧ St w0 ar (Res.box i 44 [v2, v4, v6, v8, v10] :: Res.box l 29 [n, o, p, q, t, u, x] :: H) w' ∧ Fx f' [(2, Vq i), (6, Qam 38 (k)), (7, Vq l), (9, O m), (80, Vb aa)]) aa) ?_ ?_)))))))
   ·obtain ⟨av, bf, b⟩ := Zg b
    refine G ?_
    refine QI Z Z Z bf ?_
    intro bs ca ax
    refine G ?_
    refine Zw (E := encFact) af A51.h Z Z Z ax ?_
    intro cB bg
    obtain rfl := Ju.1 bg
    refine G ?_
    refine Exec.build Z (Qd (c := [O m]) (Qf Z Z) (Qd (c := [O 1]) (Qf Z Z) Qg)) (v := Value.agg #[O m, O 1]) (fun _ => by kernel_rfl) (G ?_)
    refine QcW (xs := [av.Var, av.Val]) (ys := [m, 1]) Qk0 Z Z Z Z Z Z Z (G ?_)
    rcases Qv b with ⟨aQ, b⟩ | ⟨aQ, b⟩
    ·cases b
     refine G ?_
     exact fq
    refine G ?_
    rcases Qv b with ⟨aR, b⟩ | ⟨aR, b⟩
    ·cases b
     refine G ?_
     exact fq
    obtain ⟨cZ, bh, b⟩ := Zg b
    refine G ?_
    refine QI Z Z Z bh ?_
    intro bt cb ay
    refine G ?_
    refine Zw (E := (Qc .i64)) af A3.h Z Z Z ay ?_
    intro cC bi
    obtain rfl := Qm.1 bi
    cases b
    refine G ?_
    exact fq
   intro b2 cV a4
   obtain ⟨c1, bW, bG, ⟨b3, rfl⟩⟩ := a4
   refine G ?_
   rcases Qv d with ⟨aS, d⟩ | ⟨aS, d⟩
   ·cases d
    have aW := aX _ (aj (by intro _ h; cases h))
    cases aW
    refine G ?_
    exact fr
   cases d
   refine G ?_
   exact ⟨_, Z, fq⟩
  cases d
  refine G ?_
  exact ⟨_, .inr (aj (by intro _ h; cases h)), fq⟩
 rintro b4 cW ⟨ak, ai, a6⟩
 have hm := ai.elim (aV _) (aK _)
 clear ai
 obtain ⟨bm, bX, aJ, ⟨b5, rfl⟩⟩ := a6
 refine g ?_
 refine Zc (Qs (M := fun f' w' => ∃ (au : PHeap) , PHeap.le bm au ∧ St w0 au (H) w' ∧ Fx f' [(4, Vb (((decide ((aw.Atoms.length : Int) = (g1.Atoms.length : Int))) && (k.isNone || (YM k 5)))))]) ?_ ?_)
 ·refine G ?_
  rcases tf (decide ((aw.Atoms.length : Int) = (g1.Atoms.length : Int))) with aT | aT
  ·refine G ?_
   refine Y1 (T := 38) Tryz.underlying31 Z Z Z (G ?_)
   rcases tf (k.isNone) with aU | aU
   ·refine G ?_
    exact fq
   refine G ?_
   refine Tc Z Z Z Z (Qcp (Qbp k 5) aJ).r ?_
   rintro _ cX ⟨c2, bY, bH, rfl⟩
   refine G ?_
   exact fq
  refine G ?_
  exact fq
 intro b6 cY a8
 obtain ⟨c3, bZ, bI, ⟨b7, rfl⟩⟩ := a8
 cases hm
 refine G ?_
 exact fr
end Go.Pw
