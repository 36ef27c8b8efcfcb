/- -/
import Derived.Test.YteiainhbhaodoaaGreatL29
import Derived.Test.YteiainhbhaodoaaGreatL61
import Derived.Test.YteiainhbhaodoaaGreatEg2
import Derived.Test.YteiainhbhaodoaaGreatEgSo
set_option maxRecDepth 100000
set_option maxHeartbeats 4000000
set_option linter.unusedVariables false
namespace Go.Pw
open Go.Proofs
attribute [local irreducible] Exec WL W andThen YR DL Jh
theorem Qbt {w0 w : World} {s : PHeap} {H : List Res} {g : Q0} {i : Nat} {r : (List Int)} (hm : JK g = some r) (hS : St w0 s (Res.bmap Tryz.prog 3 4 i g :: H) w) :
  Calls Tryz.prog 73 #[Value.map (some i)] w fun e w' => ∃ v, e = .returned v ∧ ((fun (an : (List Int)) => ∃ (k : PHeap) (t : Value), PHeap.le s k ∧ St w0 k (Res.bmap Tryz.prog 3 4 i g :: H) w' ∧ v = t ∧ SliceRep (Qc .i64) k t an) r) := by
 unfold JK at hm
 refine Ql Tryz.func73 Z Z (G ?_)
 refine Qcc hS ⟨Tryz.underlying100, Tryz.underlying3, Tryz.underlying4⟩ Z Z ?_
 intro p a6 x
 refine G ?_
 refine Qg9 (fun d' s' f' w' => (fun (o : (List Int)) => ∃ (q : PHeap) (l : Value), PHeap.le s q ∧ St w0 q (Res.brange Tryz.prog 3 4 i p g d' :: Res.arr (Qc .i64) 3 l o :: H) w' ∧ Fx f' [(3, l), (6, Vq p)]) s') hm ?_ ?_
 ·have au := x.nilArr (Qc .i64) 3
  exact fq
 intro ap o aq a7 u af ah
 obtain ⟨al, l, ai, y, ⟨ar, rfl⟩⟩ := u
 refine G ?_
 refine QbM y ⟨Tryz.underlying100, Tryz.underlying3, Tryz.underlying4⟩ Z Z ?_ ?_
 ·intro ae z
  have j := af ae
  obtain ⟨ax, aj, j⟩ := Zg j
  refine G ?_
  refine Tc Z Z Z Z (Qgg aj z.f1).r ?_
  rintro _ a8 ⟨a2, ay, aa, rfl⟩
  cases j
  refine G ?_
  refine ⟨_, Qa5 Z, ?_⟩
  obtain ⟨a3, az, av, a1⟩ := aa.freezeArr
  exact fq
 intro a a5 a9 m n ab ag
 obtain ⟨a4, b, aw⟩ := ah a m n
 have hm49638k := b
 refine G ?_
 refine Exec.entry Z Z ag (G ?_)
 refine Exec.buildSlice (Te := 3) (cs := [O a]) ab Z (Qd (c := [O a]) (Qf Z Z) Qg) (fun _ => by kernel_rfl) ?_
 intro ao aA ac
 obtain ⟨a0, ak, b⟩ := Zg b
 refine G ?_
 refine Qh (E := (Qc .i64)) (ys := [a]) ac.f2 S22.h Z3 Z (by decide) Z Z Z Z ⟨[O a], [], Z, Z, Z⟩ Z ak ?_
 intro am aB ad
 cases b
 refine G ?_
 exact ⟨a, _, m, n, hm49638k, ⟨al, am, ai, ad.f1, (Fx.mk)⟩⟩
theorem Yo {w0 w : World} {s : PHeap} {H : List Res} {fu : Nat} {g : (List GTest)} {n : (List Int)} {m : Value} {d : Value} {r : (List Int)} (hm : QE fu g n = some r) (hS : St w0 s (H) w) (av : SliceRep encGTest s m g) (aw : SliceRep (Qc .i64) s d n) :
  Calls Tryz.prog 49 #[m, d] w fun e w' => ∃ v, e = .returned v ∧ ((fun (au : (List Int)) => ∃ (l : PHeap) (u : Value), PHeap.le s l ∧ St w0 l (H) w' ∧ v = u ∧ SliceRep (Qc .i64) l u au) r) := by
 unfold QE at hm
 refine Ql Tryz.func49 Z Z (G ?_)
 refine Kl (k := 3) (e := 4) hS Z ?_
 intro c bj a8
 obtain ⟨i, z, hm⟩ := Zg hm
 refine G ?_
 refine QS (fun k' s' f' w' => (fun (i : Q0) => ∃ (q : PHeap) , PHeap.le s q ∧ St w0 q (Res.bmap Tryz.prog 3 4 c i :: H) w' ∧ Fx f' [(13, O (k' : Int)), (1, d), (5, Value.map (some c)), (11, m), (12, O ((g.length : Int)))]) s') z ?_ ?_ ?_
 ·exact fq
 ·intro aG i aW a0 bk aE ab a
  obtain ⟨aX, aI, o, ⟨a1, rfl⟩⟩ := ab
  obtain ⟨bu, ai, a⟩ := Zg a
  refine G ?_
  refine QI Z Z Z ai ?_
  intro ax aS x
  refine G ?_
  refine Zw (E := encGTest) o A128.h Z Z Z x ?_
  intro bg aj
  obtain ⟨be, bf, rfl, aq, aU⟩ := YY.1 aj
  refine G ?_
  refine Exec.alloc (cs := [Value.string (⟨#[]⟩), Value.string (⟨#[]⟩), O 0, Vn, Value.string (⟨#[]⟩), O 0, Vn]) o Qj7 Z Z ?_
  intro ay bl a9
  refine G ?_
  refine Xst Z Z Z ?_
  intro bm af
  obtain ⟨aJ, ak, a⟩ := Zg a
  refine G ?_
  refine Tc Z Z Z Z (JX ak af.f1 aq).r ?_
  rintro _ bn ⟨aY, aK, ag, rfl⟩
  obtain ⟨aL, al, a⟩ := Zg a
  refine G ?_
  refine Tc Z Z Z Z (JX al ag rq).r ?_
  rintro _ bo ⟨aZ, aM, aA, rfl⟩
  cases a
  refine G ?_
  exact fq
 intro a2 bp ac
 obtain ⟨ar, aN, aB, ⟨a3, rfl⟩⟩ := ac
 obtain ⟨j, aa, hm⟩ := Zg hm
 refine G ?_
 refine QS (fun k' s' f' w' => (fun (j : Q0) => ∃ (t : PHeap) , PHeap.le ar t ∧ St w0 t (Res.bmap Tryz.prog 3 4 c j :: H) w' ∧ Fx f' [(28, O (k' : Int)), (5, Value.map (some c)), (26, d), (27, O ((n.length : Int)))]) s') aa ?_ ?_ ?_
 ·exact fq
 ·intro aH j ba a4 bq aF ad b
  obtain ⟨bb, aO, p, ⟨a5, rfl⟩⟩ := ad
  obtain ⟨bv, am, b⟩ := Zg b
  refine G ?_
  refine QI Z Z Z am ?_
  intro az aT y
  refine G ?_
  refine Zw (E := (Qc .i64)) p A3.h Z Z Z y ?_
  intro bh an
  obtain rfl := Qm.1 an
  obtain ⟨aR, ao, b⟩ := Zg b
  refine G ?_
  refine Qf5 p ⟨Tryz.underlying100, Tryz.underlying3, Tryz.underlying4⟩ Z Z Z ao ?_
  intro br aC
  cases b
  refine G ?_
  exact fq
 intro a6 bs ae
 obtain ⟨bc, aP, ah, ⟨a7, rfl⟩⟩ := ae
 obtain ⟨bw, ap, hm⟩ := Zg hm
 refine G ?_
 refine Tc Z Z Z Z (Qbt ap ah).r ?_
 rintro bi bt ⟨bd, _, aQ, aD, rfl, aV⟩
 cases hm
 refine G ?_
 exact fr
theorem KE {w0 w : World} {s : PHeap} {H : List Res} {a : encode_encoder} {u : (List Int)} {l : Nat} {n : Value} {o : Value} {p : Value} {q : Value} {t : Value} {c : Value} {d : Value} {i : Value} {j : Value} {z : Value} {r : Int} (hm : Jv a u = some r) (hS : St w0 s (Res.box l 67 [n, o, p, q, t, c, d, i, j] :: Res.arr (Qc .i64) 3 c a.vars :: Res.arr encFact 51 d a.atoms :: Res.arr encBool 4 i a.grouped :: Res.arr (Qc .i64) 3 j a.fluents :: H) w) (ax : SliceRep encAtom s n a.g.Atoms) (aa : SliceRep encGFluent s o a.g.Fluents) (ay : SliceRep (Qc .i64) s p a.g.Init) (az : SliceRep encCond s q a.g.Goal) (a0 : SliceRep encGOp s t a.g.Ops) (af : SliceRep (Qc .i64) s z u) :
  Calls Tryz.prog 48 #[Value.pointer (some ⟨l, 0, none⟩), z] w fun e w' => ∃ v, e = .returned v ∧ ((fun (aw : Int) => ∃ (ac : PHeap) , PHeap.le s ac ∧ St w0 ac (Res.box l 67 [n, o, p, q, t, c, d, i, j] :: Res.arr (Qc .i64) 3 c a.vars :: Res.arr encFact 51 d a.atoms :: Res.arr encBool 4 i a.grouped :: Res.arr (Qc .i64) 3 j a.fluents :: H) w' ∧ v = O aw) r) := by
 unfold Jv at hm
 refine Ql Tryz.func48 Z Z ?_
 obtain ⟨y, aj, hm⟩ := Zg hm
 refine G ?_
 refine QS (fun k' s' f' w' => (fun (y : Int) => ∃ (ad : PHeap) , PHeap.le s ad ∧ St w0 ad (Res.box l 67 [n, o, p, q, t, c, d, i, j] :: Res.arr (Qc .i64) 3 c a.vars :: Res.arr encFact 51 d a.atoms :: Res.arr encBool 4 i a.grouped :: Res.arr (Qc .i64) 3 j a.fluents :: H) w' ∧ Fx f' [(10, O (k' : Int)), (0, Vq l), (5, O y), (8, z), (9, O ((u.length : Int)))]) s') aj ?_ ?_ ?_
 ·have aA := hS.f4
  exact fq
 ·intro aC y aH a6 aK am ak m
  obtain ⟨ar, x, b, ⟨a7, rfl⟩⟩ := ak
  obtain ⟨aM, an, m⟩ := Zg m
  refine G ?_
  refine QI Z Z Z an ?_
  intro a1 aE ag
  refine G ?_
  refine Zw (E := (Qc .i64)) b A3.h Z Z Z ag ?_
  intro aJ ao
  obtain rfl := Qm.1 ao
  refine G ?_
  refine KM (n0 := 23) (qs 0 23 .done) KL (by kernel_rfl) (by kernel_rfl) (G ?_)
  refine Zn (b.drew) A40.h Z Z Z ⟨Z, ?_⟩
  obtain ⟨ae, ab, m⟩ := Zg m
  refine G ?_
  refine Q1 S40.h Z Z Z (aa.mono x) ab ?_
  intro a2 aF ah a4
  refine ⟨Z, ?_⟩
  refine G ?_
  refine Zw (E := (Qc .i64)) b.drew A3.h Z Z Z (ah.sub (Sub.iso (QD (QD (Sub.fst (Sub.refl _)) Z) Z)) Z) ?_
  intro au ap
  obtain rfl : au = O (ae.Hi) := Qm.1 ap
  refine ⟨Z, ?_⟩
  refine G ?_
  refine Zn (b.drew) A40.h Z Z Z ⟨Z, ?_⟩
  refine G ?_
  refine Q1 S40.h Z Z Z (aa.mono x) ab ?_
  intro a3 aG ai a5
  refine ⟨Z, ?_⟩
  refine G ?_
  refine Zw (E := (Qc .i64)) b.drew A3.h Z Z Z (ai.sub (Sub.iso (QD (Sub.fst (Sub.refl _)) Z)) Z) ?_
  intro av aq
  obtain rfl : av = O (ae.Lo) := Qm.1 aq
  refine ⟨Z, ?_⟩
  refine G ?_
  refine Qc7 Z Z Z ⟨Z, ?_⟩
  cases m
  refine G ?_
  exact ⟨ar, x, (((((b.drew).f4).f4).f4).f4).f4, (Fx.mk (FxL.cons (J5 am (SliceRep.le af)) fxl))⟩
 intro a8 aL al
 obtain ⟨aI, aD, aB, ⟨a9, rfl⟩⟩ := al
 cases hm
 refine G ?_
 exact fr
theorem QbI {w0 w : World} {s : PHeap} {H : List Res} {fu : Nat} {a : GOp} {n : Value} {o : Value} {g : Value} {p : Value} {i : Value} {r : (List Int)} (hm : J8 fu a = some r) (hS : St w0 s (H) w) (a3 : SliceRep (Qc .i64) s n a.Pre.Pos) (a4 : SliceRep (Qc .i64) s o a.Pre.Neg) (a5 : SliceRep encGTest s g a.Pre.Tests) (a6 : SliceRep encGChange s p a.Changes) (a7 : SliceRep encGAssign s i a.Assigns) :
  Calls Tryz.prog 50 #[Value.agg #[Value.string (a.Name), O (a.Cost), n, o, g, p, i]] w fun e w' => ∃ v, e = .returned v ∧ ((fun (a2 : (List Int)) => ∃ (m : PHeap) (z : Value), PHeap.le s m ∧ St w0 m (H) w' ∧ v = z ∧ SliceRep (Qc .i64) m z a2) r) := by
 unfold J8 at hm
 refine Ql Tryz.func50 Z Z (G ?_)
 refine JH Z Z ?_
 intro q b0 ai
 refine G ?_
 refine Kl (k := 3) (e := 4) ai Z ?_
 intro d b1 aj
 obtain ⟨j, ac, hm⟩ := Zg hm
 refine G ?_
 refine QS (fun k' s' f' w' => (fun (j : Q0) => ∃ (x : PHeap) , PHeap.le s x ∧ St w0 x (Res.box q 92 [Value.string (a.Name), O (a.Cost), n, o, g, p, i] :: Res.bmap Tryz.prog 3 4 d j :: H) w' ∧ Fx f' [(13, O (k' : Int)), (1, Vq q), (3, Value.map (some d)), (11, g), (12, O ((a.Pre.Tests.length : Int)))]) s') ac ?_ ?_ ?_
 ·have aK := aj.f1
  exact fq
 ·intro aT j bk aC b2 aR ae b
  obtain ⟨bl, aV, t, ⟨aD, rfl⟩⟩ := ae
  obtain ⟨bE, ap, b⟩ := Zg b
  refine G ?_
  refine QI Z Z Z ap ?_
  intro a8 bg aa
  refine G ?_
  refine Zw (E := encGTest) t A128.h Z Z Z aa ?_
  intro bw aq
  obtain ⟨bt, bu, rfl, az, bi⟩ := YY.1 aq
  refine G ?_
  refine Exec.alloc (cs := [Value.string (⟨#[]⟩), Value.string (⟨#[]⟩), O 0, Vn, Value.string (⟨#[]⟩), O 0, Vn]) t Qj7 Z Z ?_
  intro a9 b3 aL
  refine G ?_
  refine Xst Z Z Z ?_
  intro b4 ak
  obtain ⟨aW, ar, b⟩ := Zg b
  refine G ?_
  refine Tc Z Z Z Z (JX ar ak.f2 az).r ?_
  rintro _ b5 ⟨bm, aX, al, rfl⟩
  obtain ⟨aY, au, b⟩ := Zg b
  refine G ?_
  refine Tc Z Z Z Z (JX au al rq).r ?_
  rintro _ b6 ⟨bn, aZ, aM, rfl⟩
  cases b
  refine G ?_
  exact fq
 intro aE b7 af
 obtain ⟨a1, ba, am, ⟨aF, rfl⟩⟩ := af
 obtain ⟨l, ad, hm⟩ := Zg hm
 refine G ?_
 refine QS (fun k' s' f' w' => (fun (l : Q0) => ∃ (y : PHeap) , PHeap.le a1 y ∧ St w0 y (Res.bmap Tryz.prog 3 4 d l :: H) w' ∧ Fx f' [(29, O (k' : Int)), (3, Value.map (some d)), (27, i), (28, O ((a.Assigns.length : Int)))]) s') ad ?_ ?_ ?_
 ·have aN := am.drop
  exact fq
 ·intro aU l bo aG b8 aS ag c
  obtain ⟨bp, bb, u, ⟨aH, rfl⟩⟩ := ag
  obtain ⟨bF, av, c⟩ := Zg c
  refine G ?_
  refine QI Z Z Z av ?_
  intro aA bh ab
  refine G ?_
  refine Zw (E := encGAssign) u A108.h Z Z Z ab ?_
  intro bx aw
  obtain ⟨bv, rfl, a0⟩ := Qae.1 aw
  refine G ?_
  refine Exec.alloc (cs := [O 0, Value.string (⟨#[]⟩), O 0, Vn]) u Qj8 Z Z ?_
  intro aB b9 aO
  refine G ?_
  refine Xst Z Z Z ?_
  intro bA an
  obtain ⟨bc, ax, c⟩ := Zg c
  refine G ?_
  refine Tc Z Z Z Z (JX ax an.f1 a0).r ?_
  rintro _ bB ⟨bq, bd, aP, rfl⟩
  cases c
  refine G ?_
  exact fq
 intro aI bC ah
 obtain ⟨br, be, ao, ⟨aJ, rfl⟩⟩ := ah
 obtain ⟨bG, ay, hm⟩ := Zg hm
 refine G ?_
 refine Tc Z Z Z Z (Qbt ay ao).r ?_
 rintro bz bD ⟨bs, _, bf, aQ, rfl, bj⟩
 cases hm
 refine G ?_
 exact fr
theorem Qb4 {w0 w : World} {s : PHeap} {H : List Res} {fu : Nat} {a : encode_encoder} {j : Nat} {q : Value} {t : Value} {u : Value} {p : Value} {m : Value} {b : Value} {c : Value} {d : Value} {i : Value} {r : Bool} (hm : Jo fu a = some r) (hS : St w0 s (Res.box j 67 [q, t, u, p, m, b, c, d, i] :: Res.arr (Qc .i64) 3 b a.vars :: Res.arr encFact 51 c a.atoms :: Res.arr encBool 4 d a.grouped :: Res.arr (Qc .i64) 3 i a.fluents :: H) w) (b2 : SliceRep encAtom s q a.g.Atoms) (b3 : SliceRep encGFluent s t a.g.Fluents) (b4 : SliceRep (Qc .i64) s u a.g.Init) (b5 : SliceRep encCond s p a.g.Goal) (b6 : SliceRep encGOp s m a.g.Ops) :
  Calls Tryz.prog 23 #[Value.pointer (some ⟨j, 0, none⟩)] w fun e w' => ∃ v, e = .returned v ∧ ((fun (b1 : Bool) => ∃ (ak : PHeap) , PHeap.le s ak ∧ St w0 ak (Res.box j 67 [q, t, u, p, m, b, c, d, i] :: Res.arr (Qc .i64) 3 b a.vars :: Res.arr encFact 51 c a.atoms :: Res.arr encBool 4 d a.grouped :: Res.arr (Qc .i64) 3 i a.fluents :: H) w' ∧ v = Value.bool (b1)) r) := by
 unfold Jo at hm
 refine Ql Tryz.func23 Z Z ?_
 obtain ⟨x, a1, aX, aQ, aL⟩ := Qu hm
 refine Zc (Zd (g ?_))
 refine Zc (Zc (Zd (g ?_)))
 refine Qs (M := fun f' w' => ∃ s', (x = .next s' ∨ x = .brk s') ∧ (fun (_ : Unit) => ∃ (al : PHeap) , PHeap.le s al ∧ St w0 al (Res.box j 67 [q, t, u, p, m, b, c, d, i] :: Res.arr (Qc .i64) 3 b a.vars :: Res.arr encFact 51 c a.atoms :: Res.arr encBool 4 d a.grouped :: Res.arr (Qc .i64) 3 i a.fluents :: H) w' ∧ Fx f' [(0, Vq j), (14, p), (15, O ((a.g.Goal.length : Int)))]) s') ?_ ?_
 ·refine G ?_
  refine QC (fun k' s' f' w' => (fun (_ : Unit) => ∃ (am : PHeap) , PHeap.le s am ∧ St w0 am (Res.box j 67 [q, t, u, p, m, b, c, d, i] :: Res.arr (Qc .i64) 3 b a.vars :: Res.arr encFact 51 c a.atoms :: Res.arr encBool 4 d a.grouped :: Res.arr (Qc .i64) 3 i a.fluents :: H) w' ∧ Fx f' [(16, O (k' : Int)), (0, Vq j), (14, p), (15, O ((a.g.Goal.length : Int)))]) s') a1 ?_ ?_ ?_
  ·have bY := hS.f4
   exact fq
  ·intro co cQ bD bG dp cl a4 n aZ
   obtain ⟨cD, cq, aa, ⟨bH, rfl⟩⟩ := a4
   obtain ⟨dA, be, n⟩ := Zg n
   refine G ?_
   refine QI Z Z Z be ?_
   intro b7 c6 ay
   refine G ?_
   refine Zw (E := encCond) aa A85.h Z Z Z ay ?_
   intro dj bf
   obtain ⟨cZ, da, db, rfl, c9, cA, bq⟩ := KJ.1 bf
   refine G ?_
   refine Exec.alloc (cs := [Vn, Vn, Vn]) aa Z85 Z Z ?_
   intro b8 dq bZ
   refine G ?_
   refine Xst Z Z Z ?_
   intro dr aD
   obtain ⟨dC, bg, n⟩ := Zg n
   refine G ?_
   refine Tc Z Z Z Z (Yo bg aD bq (SliceRep.nil _ _)).r ?_
   rintro dk ds ⟨cE, _, cr, aE, rfl, br⟩
   obtain ⟨dD, bh, n⟩ := Zg n
   refine G ?_
   refine Tc Z Z Z (Zi Z (Zi Z Qx)) (KE bh ((((aE.f5).f5).f5).f5).f5 rq rq rq rq rq br).r ?_
   rintro _ dt ⟨cF, ct, ca, rfl⟩
   refine G ?_
   rcases Qv n with ⟨aO, n⟩ | ⟨aO, n⟩
   ·cases n
    have aT := aX _ (aZ (by intro _ h; cases h))
    cases aT
    refine G ?_
    exact fr
   cases n
   refine G ?_
   exact ⟨_, Z, fq⟩
  intro cR bI du a5 ba
  obtain ⟨cG, cu, cb, ⟨bJ, rfl⟩⟩ := a5
  refine G ?_
  exact ⟨_, .inl ba, fq⟩
 rintro bK dv ⟨cS, ad, aA⟩
 have hm := ad.elim (aQ _) (aL _)
 clear ad
 obtain ⟨an, cv, aF, ⟨bL, rfl⟩⟩ := aA
 obtain ⟨y, a2, ah, aR, aM⟩ := Qu hm
 refine g ?_
 refine Zc (Zc (Zd (g ?_)))
 refine Qs (M := fun f' w' => ∃ s', (y = .next s' ∨ y = .brk s') ∧ (fun (_ : Unit) => ∃ (ao : PHeap) , PHeap.le an ao ∧ St w0 ao (Res.box j 67 [q, t, u, p, m, b, c, d, i] :: Res.arr (Qc .i64) 3 b a.vars :: Res.arr encFact 51 c a.atoms :: Res.arr encBool 4 d a.grouped :: Res.arr (Qc .i64) 3 i a.fluents :: H) w' ∧ Fx f' [(0, Vq j), (31, m), (32, O ((a.g.Ops.length : Int)))]) s') ?_ ?_
 ·refine G ?_
  refine QC (fun k' s' f' w' => (fun (_ : Unit) => ∃ (ap : PHeap) , PHeap.le an ap ∧ St w0 ap (Res.box j 67 [q, t, u, p, m, b, c, d, i] :: Res.arr (Qc .i64) 3 b a.vars :: Res.arr encFact 51 c a.atoms :: Res.arr encBool 4 d a.grouped :: Res.arr (Qc .i64) 3 i a.fluents :: H) w' ∧ Fx f' [(33, O (k' : Int)), (0, Vq j), (31, m), (32, O ((a.g.Ops.length : Int)))]) s') a2 ?_ ?_ ?_
  ·have cc := aF.f4
   exact fq
  ·intro aj cT bE bM dw cm a6 l ai
   obtain ⟨cH, cw, ab, ⟨bN, rfl⟩⟩ := a6
   obtain ⟨ax, bi, l⟩ := Zg l
   refine G ?_
   refine QI Z Z Z bi ?_
   intro b9 c7 az
   refine G ?_
   refine Zw (E := encGOp) ab A92.h Z Z Z az ?_
   intro dl bj
   obtain ⟨dc, dd, de, av, df, rfl, bs, bt, bu, bv, bw⟩ := Ys.1 bj
   refine G ?_
   refine Exec.alloc (cs := [Value.string (⟨#[]⟩), O 0, Vn, Vn, Vn, Vn, Vn]) ab Z92 Z Z ?_
   intro bA dx cd
   refine G ?_
   refine Xst Z Z Z ?_
   intro dy aG
   obtain ⟨dE, bk, l⟩ := Zg l
   refine G ?_
   refine Tc Z Z Z Z (QbI bk aG bs bt bu bv bw).r ?_
   rintro aw dz ⟨cI, _, cx, aH, rfl, bx⟩
   obtain ⟨dF, bl, l⟩ := Zg l
   refine G ?_
   refine Tc Z Z Z (Zi Z (Zi Z Qx)) (KE bl ((((aH.f5).f5).f5).f5).f5 rq rq rq rq rq bx).r ?_
   rintro _ d0 ⟨aq, cy, aI, rfl⟩
   refine G ?_
   rcases Qv l with ⟨ae, l⟩ | ⟨ae, l⟩
   ·cases l
    have aU := ah _ (ai (by intro _ h; cases h))
    cases aU
    refine G ?_
    exact fr
   obtain ⟨z, a3, aY, aS, aN⟩ := Qu l
   refine W_c Z ae (Qbk (JG (Ze (Zc (Zd (g ?_))))))
   refine Qs (M := fun f' w' => ∃ s', (z = .next s' ∨ z = .brk s') ∧ (fun (_ : Unit) => ∃ (ar : PHeap) , PHeap.le aq ar ∧ St w0 ar (Res.box j 67 [q, t, u, p, m, b, c, d, i] :: Res.arr (Qc .i64) 3 b a.vars :: Res.arr encFact 51 c a.atoms :: Res.arr encBool 4 d a.grouped :: Res.arr (Qc .i64) 3 i a.fluents :: H) w' ∧ Fx f' [(0, Vq j), (7, aw), (31, m), (32, O ((a.g.Ops.length : Int))), (33, O ((aj : Int))), (44, av), (45, O ((ax.Changes.length : Int)))]) s') ?_ ?_
   ·refine G ?_
    refine QC (fun k' s' f' w' => (fun (_ : Unit) => ∃ (au : PHeap) , PHeap.le aq au ∧ St w0 au (Res.box j 67 [q, t, u, p, m, b, c, d, i] :: Res.arr (Qc .i64) 3 b a.vars :: Res.arr encFact 51 c a.atoms :: Res.arr encBool 4 d a.grouped :: Res.arr (Qc .i64) 3 i a.fluents :: H) w' ∧ Fx f' [(46, O (k' : Int)), (0, Vq j), (7, aw), (31, m), (32, O ((a.g.Ops.length : Int))), (33, O ((aj : Int))), (44, av), (45, O ((ax.Changes.length : Int)))]) s') a3 ?_ ?_ ?_
    ·have ce := (aI.f5).drop
     exact fq
    ·intro cp cU bF bO d1 cn a7 o bb
     obtain ⟨cJ, cz, ac, ⟨bP, rfl⟩⟩ := a7
     obtain ⟨dB, bm, o⟩ := Zg o
     refine G ?_
     refine QI Z Z Z bm ?_
     intro bB c8 a0
     refine G ?_
     refine Zw (E := encGChange) ac A97.h Z Z Z a0 ?_
     intro dm bn
     obtain ⟨dg, dh, di, rfl, cB, cC, bz⟩ := Ji.1 bn
     refine G ?_
     refine Exec.alloc (cs := [Vn, Vn, Vn, O 0, Vb false]) ac Z97 Z Z ?_
     intro bC d2 cf
     refine G ?_
     refine Xst Z Z Z ?_
     intro d3 aJ
     obtain ⟨dG, bo, o⟩ := Zg o
     refine G ?_
     refine Tc Z Z Z Z (Yo bo aJ bz rq).r ?_
     rintro dn d4 ⟨cK, _, c0, aK, rfl, b0⟩
     obtain ⟨dH, bp, o⟩ := Zg o
     refine G ?_
     refine Tc Z Z Z (Zi Z (Zi Z Qx)) (KE bp ((((aK.f5).f5).f5).f5).f5 rq rq rq rq rq b0).r ?_
     rintro _ d5 ⟨cL, c1, cg, rfl⟩
     refine G ?_
     rcases Qv o with ⟨aP, o⟩ | ⟨aP, o⟩
     ·cases o
      have aV := aY _ (bb (by intro _ h; cases h))
      cases aV
      have aW := ah _ (ai (by intro _ h; cases h))
      cases aW
      refine G ?_
      exact fr
     cases o
     refine G ?_
     exact ⟨_, Z, fq⟩
    intro cV bQ d6 a8 bc
    obtain ⟨cM, c2, ch, ⟨bR, rfl⟩⟩ := a8
    refine G ?_
    exact ⟨_, .inl bc, fq⟩
   rintro bS d7 ⟨cW, af, aB⟩
   have l := af.elim (aS _) (aN _)
   clear af
   obtain ⟨cN, c3, ci, ⟨bT, rfl⟩⟩ := aB
   cases l
   refine G ?_
   exact ⟨_, Z, fq⟩
  intro cX bU d8 a9 bd
  obtain ⟨cO, c4, cj, ⟨bV, rfl⟩⟩ := a9
  refine G ?_
  exact ⟨_, .inl bd, fq⟩
 rintro bW d9 ⟨cY, ag, aC⟩
 have hm := ag.elim (aR _) (aM _)
 clear ag
 obtain ⟨cP, c5, ck, ⟨bX, rfl⟩⟩ := aC
 cases hm
 refine G ?_
 exact fr
theorem Qak {w0 w : World} {s : PHeap} {H : List Res} {b : (List Int)} {c : Value} {r : (List Int)} (hm : K0 b = some r) (hS : St w0 s (Res.arr (Qc .i64) 3 c b :: H) w) :
  Calls Tryz.prog 24 #[c] w fun e w' => ∃ v, e = .returned v ∧ ((fun (p : (List Int)) => ∃ (f : PHeap) (g : Value), PHeap.le s f ∧ St w0 f (Res.arr (Qc .i64) 3 c b :: Res.arr (Qc .i64) 3 g p :: H) w' ∧ v = g) r) := by
 unfold K0 at hm
 refine Ql Tryz.func24 Z Z ?_
 obtain ⟨i, y, t, j, m⟩ := hS.nilShape
 refine G ?_
 refine Kp Tryz.underlying22 Z j Z (G ?_)
 rcases tf (i.isNone) with a | a
 ·have n := m a
  replace hm := (show (some []) = ((app 8 [] b).bind fun d => some d) from by simp [n, app]).trans hm
  refine YT ((Zx a)) ?_
  cases hm
  refine G ?_
  refine ⟨_, Qa5 Z, ?_⟩
  have u := hS.nilArr (Qc .i64) 3
  exact fq
 refine KQ ((Zx a)) (G ?_)
 refine Exec.buildSlice (Te := 3) (cs := []) hS Z Qg (fun _ => by kernel_rfl) ?_
 intro q aa k
 refine G ?_
 have l := St.boxArr (E := (Qc .i64)) (xs := []) k rfl (by simp [maxLen])
 obtain ⟨d, o, hm⟩ := Zg hm
 refine G ?_
 refine Qcd (E := (Qc .i64)) (l.f1).f1 S22.h Z3 Z (by decide) Z Z Z o ?_
 intro z ab x
 cases hm
 refine G ?_
 exact fr
instance F29_0 : FTy Tryz.prog 29 0 0 := ⟨by kernel_rfl⟩
instance F27_0 : FTy Tryz.prog 27 0 0 := ⟨by kernel_rfl⟩
instance F27_1 : FTy Tryz.prog 27 1 1 := ⟨by kernel_rfl⟩
instance F51_0 : FTy Tryz.prog 51 0 0 := ⟨by kernel_rfl⟩
instance F51_1 : FTy Tryz.prog 51 1 1 := ⟨by kernel_rfl⟩
theorem Qcv {w0 w : World} {s : PHeap} {H : List Res} {b : (List Int)} {g : Value} {r : (List Int)} (hm : KV b = some r) (hS : St w0 s (H) w) (c : SliceRep (Qc .i64) s g b) :
  Calls Tryz.prog 24 #[g] w fun e w' => ∃ v, e = .returned v ∧ ((fun (q : (List Int)) => ∃ (f : PHeap) (i : Value), PHeap.le s f ∧ St w0 f (Res.arr (Qc .i64) 3 i q :: H) w' ∧ v = i) r) := by
 unfold KV at hm
 refine Ql Tryz.func24 Z Z ?_
 obtain ⟨j, z, u, k, n⟩ := c.nilShape
 refine G ?_
 refine Kp Tryz.underlying22 Z k Z (G ?_)
 rcases tf (j.isNone) with a | a
 ·have o := n a
  replace hm := (show (some []) = ((app 8 [] b).bind fun d => some d) from by simp [o, app]).trans hm
  refine YT ((Zx a)) ?_
  cases hm
  refine G ?_
  refine ⟨_, Qa5 Z, ?_⟩
  have x := hS.nilArr (Qc .i64) 3
  exact fq
 refine KQ ((Zx a)) (G ?_)
 refine Exec.buildSlice (Te := 3) (cs := []) hS Z Qg (fun _ => by kernel_rfl) ?_
 intro t ab l
 refine G ?_
 have m := St.boxArr (E := (Qc .i64)) (xs := []) l rfl (by simp [maxLen])
 obtain ⟨d, p, hm⟩ := Zg hm
 refine G ?_
 refine QY (E := (Qc .i64)) (ys := b) m S22.h Z3 Z (by decide) Z Z Z c p ?_
 intro aa ac y
 cases hm
 refine G ?_
 exact fr
theorem Z22 : JF Tryz.prog 22 = some (Value.slice none 0 0) := by kernel_rfl
theorem JS {w0 w : World} {s : PHeap} {H : List Res} {a : encode_encoder} {z : (List Int)} {ai : (List Int)} {m : Nat} {q : Value} {t : Value} {u : Value} {x : Value} {y : Value} {d : Value} {i : Value} {j : Value} {l : Value} {aa : Value} {ac : Value} {r : (List (List Int))} (hm : QN a z ai = some r) (hS : St w0 s (Res.box m 67 [q, t, u, x, y, d, i, j, l] :: Res.arr (Qc .i64) 3 d a.vars :: Res.arr encFact 51 i a.atoms :: Res.arr encBool 4 j a.grouped :: Res.arr (Qc .i64) 3 l a.fluents :: H) w) (bs : SliceRep encAtom s q a.g.Atoms) (bt : SliceRep encGFluent s t a.g.Fluents) (bu : SliceRep (Qc .i64) s u a.g.Init) (bv : SliceRep encCond s x a.g.Goal) (bw : SliceRep encGOp s y a.g.Ops) (bx : SliceRep (Qc .i64) s aa z) (aq : SliceRep (Qc .i64) s ac ai) :
  Calls Tryz.prog 51 #[Value.pointer (some ⟨m, 0, none⟩), aa, ac] w fun e w' => ∃ v, e = .returned v ∧ ((fun (br : (List (List Int))) => ∃ (am : PHeap) (aB : Value), PHeap.le s am ∧ St w0 am (Res.box m 67 [q, t, u, x, y, d, i, j, l] :: Res.arr (Qc .i64) 3 d a.vars :: Res.arr encFact 51 i a.atoms :: Res.arr encBool 4 j a.grouped :: Res.arr (Qc .i64) 3 l a.fluents :: H) w' ∧ v = aB ∧ SliceRep (Qp (Qc .i64)) am aB br) r) := by
 unfold QN at hm
 refine Ql Tryz.func51 Z Z (G ?_)
 refine Exec.buildSlice (Te := 22) (cs := [ac]) hS Z (Qd (c := [ac]) (Qf Z (Qj aq.one)) Qg) (fun _ => by kernel_rfl) ?_
 intro bz ct aQ
 obtain ⟨p, aH, hm⟩ := Zg hm
 refine G ?_
 refine QS (fun k' s' f' w' => (fun (p : (List (List Int))) => ∃ (a6 : PHeap) (n : Value), PHeap.le s a6 ∧ St w0 a6 (Res.box m 67 [q, t, u, x, y, d, i, j, l] :: Res.arr (Qc .i64) 3 d a.vars :: Res.arr encFact 51 i a.atoms :: Res.arr encBool 4 j a.grouped :: Res.arr (Qc .i64) 3 l a.fluents :: Res.arr (Qp (Qc .i64)) 22 n p :: H) w' ∧ Fx f' [(19, O (k' : Int)), (0, Vq m), (7, n), (17, aa), (18, O ((z.length : Int)))]) s') aH ?_ ?_ ?_
 ·have bL := St.boxArr (E := (Qp (Qc .i64))) (xs := [ai]) aQ ⟨[ac], [], rfl, ⟨_, rfl, aq⟩, rfl⟩ (by simp [maxLen])
  exact fq
 ·intro aj p ci b7 cu bR aK ab
  obtain ⟨bk, n, bT, ad, ⟨b8, rfl⟩⟩ := aK
  obtain ⟨ap, bc, ab⟩ := Zg ab
  refine G ?_
  refine QI Z Z Z bc ?_
  intro b0 cd aE
  refine G ?_
  refine Zw (E := (Qc .i64)) ad A3.h Z Z Z aE ?_
  intro cq bd
  obtain rfl := Qm.1 bd
  refine G ?_
  refine Q2 (ad.f5) S48.h Z Z ?_
  obtain ⟨ak, aI, ab⟩ := Zg ab
  refine G ?_
  refine QS (fun k' s' f' w' => (fun (ak : (List (List Int))) => ∃ (a7 : PHeap) (ag : Value), PHeap.le bk a7 ∧ St w0 a7 (Res.box m 67 [q, t, u, x, y, d, i, j, l] :: Res.arr (Qc .i64) 3 d a.vars :: Res.arr encFact 51 i a.atoms :: Res.arr encBool 4 j a.grouped :: Res.arr (Qc .i64) 3 l a.fluents :: Res.arr (Qp (Qc .i64)) 22 ag ak :: Res.arr (Qp (Qc .i64)) 22 n p :: H) w' ∧ Fx f' [(25, O (k' : Int)), (0, Vq m), (9, O ap), (10, ag), (17, aa), (18, O ((z.length : Int))), (19, O ((aj : Int))), (23, n), (24, O ((p.length : Int)))]) s') aI ?_ ?_ ?_
  ·have bM := ad.nilArr (Qp (Qc .i64)) 22
   exact fq
  ·intro az ak cj b9 cv aY aL o
   obtain ⟨a8, ag, bU, ae, ⟨bA, rfl⟩⟩ := aL
   obtain ⟨bq, af, o⟩ := Zg o
   obtain ⟨bJ, b4, au⟩ := (ae.f6).arr_at af
   refine G ?_
   refine Qn S48.h Z au Z (Qr af).1 (Qr af).2.1 (G ?_)
   refine Qz (F := (Qp (Qc .i64))) (ae.f6) au A22.h Z Z Z af (Sub.refl _) ?_
   intro aC be
   have cg : SliceRep _ _ _ (bq) := QG.1 be
   obtain ⟨aD, a4, o⟩ := Zg o
   refine G ?_
   refine QI Z Z Z a4 ?_
   intro b1 ce aF
   refine G ?_
   refine Zw (E := (Qc .i64)) ae A3.h Z Z Z (aF.sub (Sub.iso (QD (Sub.fst (Sub.refl _)) Z)) Z) ?_
   intro bo bf
   obtain rfl : bo = O (aD.Lo) := Qm.1 bf
   obtain ⟨ar, aJ, bS, aZ, aW⟩ := Qu o
   refine g ?_
   refine Qs (M := fun f' w' => ∃ s', (ar = .next s' ∨ ar = .brk s') ∧ (QO fun (a2 : Int) (a0 : (List (List Int))) => ∃ (a9 : PHeap) (ah : Value), PHeap.le a8 a9 ∧ St w0 a9 (Res.box m 67 [q, t, u, x, y, d, i, j, l] :: Res.arr (Qc .i64) 3 d a.vars :: Res.arr encFact 51 i a.atoms :: Res.arr encBool 4 j a.grouped :: Res.arr (Qc .i64) 3 l a.fluents :: Res.arr (Qp (Qc .i64)) 22 ah a0 :: Res.arr (Qp (Qc .i64)) 22 n p :: H) w' ∧ Fx f' [(0, Vq m), (9, O ap), (10, ah), (12, aC), (13, O a2), (17, aa), (18, O ((z.length : Int))), (19, O ((aj : Int))), (23, n), (24, O ((p.length : Int))), (25, O ((az : Int)))]) s') ?_ ?_
   ·refine G ?_
    refine Ym (fun s' f' w' => (QO fun (a3 : Int) (a1 : (List (List Int))) => ∃ (aA : PHeap) (an : Value), PHeap.le a8 aA ∧ St w0 aA (Res.box m 67 [q, t, u, x, y, d, i, j, l] :: Res.arr (Qc .i64) 3 d a.vars :: Res.arr encFact 51 i a.atoms :: Res.arr encBool 4 j a.grouped :: Res.arr (Qc .i64) 3 l a.fluents :: Res.arr (Qp (Qc .i64)) 22 an a1 :: Res.arr (Qp (Qc .i64)) 22 n p :: H) w' ∧ Fx f' [(0, Vq m), (9, O ap), (10, an), (12, aC), (13, O a3), (17, aa), (18, O ((z.length : Int))), (19, O ((aj : Int))), (23, n), (24, O ((p.length : Int))), (25, O ((az : Int)))]) s') aJ ?_ ?_
    ·have bN := ae.f6
     exact fq
    intro bm b5 bB cw aM b ba
    obtain ⟨a3, a1⟩ := bm
    replace b := Q3 b
    obtain ⟨ck, an, bV, aw, ⟨bC, rfl⟩⟩ := aM
    refine G ?_
    refine QI Z Z Z a4 ?_
    intro b2 cf aG
    refine G ?_
    refine Zw (E := (Qc .i64)) aw A3.h Z Z Z (aG.sub (Sub.iso (QD (QD (Sub.fst (Sub.refl _)) Z) Z)) Z) ?_
    intro bp bg
    obtain rfl : bp = O (aD.Hi) := Qm.1 bg
    refine G ?_
    rcases Qv b with ⟨aX, b⟩ | ⟨aX, b⟩
    ·obtain ⟨c5, bh, b⟩ := Zg b
     refine G ?_
     refine Tc Z Z Z Z (Qcv bh aw rq).r ?_
     rintro ao cx ⟨cl, _, bW, ax, rfl⟩
     obtain ⟨c4, al, b⟩ := Zg b
     obtain ⟨bK, b6, av⟩ := ax.arr_at al
     refine G ?_
     refine Qn S22.h Z av Z (Qr al).1 (Qr al).2.1 ?_
     obtain ⟨bb, bi, b⟩ := Zg b
     refine G ?_
     refine Js ax av A3.h Z Z Z Z (Qm.2 Z) bi ?_
     intro cy aR
     refine G ?_
     obtain ⟨cm, bX, aS, a5⟩ := aR.freezeArr
     refine G ?_
     refine Exec.buildSlice (Te := 22) (cs := [ao]) aS Z (Qd (c := [ao]) (Qf Z (Qj a5.one)) Qg) (fun _ => by kernel_rfl) ?_
     intro b3 cz aT
     obtain ⟨bY, bj, b⟩ := Zg b
     refine G ?_
     refine Qh (E := (Qp (Qc .i64))) (ys := [bb]) aT.f6 S48.h Z22 Z (by decide) Z Z Z Z ⟨[ao], [], Z, ⟨_, Z, a5⟩, Z⟩ Z bj ?_
     intro cr c0 bO
     cases b
     refine G ?_
     exact ⟨_, Z, fq⟩
    cases b
    refine G ?_
    exact ⟨_, .inr (ba (by intro _ h; cases h)), fq⟩
   rintro bD c1 ⟨bn, ay, aP⟩
   have o := ay.elim (aZ _) (aW _)
   clear ay
   obtain ⟨a2, a0⟩ := bn
   replace o := Q3 o
   obtain ⟨bl, ah, bZ, aU, ⟨bE, rfl⟩⟩ := aP
   cases o
   refine G ?_
   exact ⟨bl, ah, lq, ((((((aU.f6).f6).f6).f6).f6).f6).f6, (Fx.mk (FxL.cons (J5 aY (ad.f5).arr_le) fxl))⟩
  intro bF c2 aN
  obtain ⟨cn, ag, ca, bP, ⟨bG, rfl⟩⟩ := aN
  cases ab
  refine G ?_
  exact fq
 intro bH c3 aO
 obtain ⟨co, n, cb, aV, ⟨bI, rfl⟩⟩ := aO
 cases hm
 refine G ?_
 refine ⟨_, Qa5 Z, ?_⟩
 obtain ⟨cp, cc, bQ, ch⟩ := aV.f5.freezeArr
 exact fq
instance A58 : ATy Tryz.prog 58 true 2 := ⟨by kernel_rfl⟩
instance F58_1 : FTy Tryz.prog 58 1 1 := ⟨by kernel_rfl⟩
theorem Qbr {w0 w : World} {s : PHeap} {H : List Res} {i : Ground} {j : GState} {l : Value} {m : Value} {n : Value} {o : Value} {p : Value} {u : Value} {q : Value} {r : Bool} (hm : JZ i j = some r) (hS : St w0 s (H) w) (aI : SliceRep encAtom s l i.Atoms) (aJ : SliceRep encGFluent s m i.Fluents) (aK : SliceRep (Qc .i64) s n i.Init) (aL : SliceRep encCond s o i.Goal) (aM : SliceRep encGOp s p i.Ops) (al : SliceRep (Qc .i64) s u j.True) (aN : SliceRep (Qc .i64) s q j.Values) :
  Calls Tryz.prog 83 #[Value.agg #[l, m, n, o, p], Value.agg #[u, q]] w fun e w' => ∃ v, e = .returned v ∧ ((fun (aH : Bool) => ∃ (ae : PHeap) , PHeap.le s ae ∧ St w0 ae (H) w' ∧ v = Value.bool (aH)) r) := by
 unfold JZ at hm
 refine Ql Tryz.func83 Z Z (G ?_)
 refine JH Z Z ?_
 intro b b1 bc
 refine G ?_
 refine JH Z Z ?_
 intro z b2 ax
 obtain ⟨x, c, hm⟩ := Zg hm
 refine g ?_
 refine Zc (Zc (Qs (M := fun f' w' => (fun (x : Bool) => ∃ (af : PHeap) , PHeap.le s af ∧ St w0 af (Res.box b 44 [l, m, n, o, p] :: Res.box z 58 [u, q] :: H) w' ∧ Fx f' [(2, Vq b), (3, Vq z), (22, Vb x)]) x) ?_ ?_))
 ·refine G ?_
  rcases Qv c with ⟨a0, c⟩ | ⟨a0, c⟩
  ·cases c
   refine G ?_
   exact fq
  obtain ⟨bA, a9, c⟩ := Zg c
  refine G ?_
  refine Tc Z Z Z Z (KW a9 ax al).r ?_
  rintro _ b3 ⟨bs, bj, bd, rfl⟩
  cases c
  refine G ?_
  exact fq
 intro aS b4 au
 obtain ⟨ag, bk, ay, ⟨aT, rfl⟩⟩ := au
 refine G ?_
 rcases Qv hm with ⟨ab, hm⟩ | ⟨ab, hm⟩
 ·cases hm
  refine G ?_
  exact fr
 obtain ⟨aa, ap, a5, a3, az⟩ := Qu hm
 refine W_c Z ab (Qbk (JG (Ze (Zc (Zc (Zd (g ?_)))))))
 refine Qs (M := fun f' w' => ∃ s', (aa = .next s' ∨ aa = .brk s') ∧ (fun (_ : Unit) => ∃ (ah : PHeap) , PHeap.le ag ah ∧ St w0 ah (Res.box b 44 [l, m, n, o, p] :: H) w' ∧ Fx f' [(2, Vq b), (24, q), (25, O ((j.Values.length : Int)))]) s') ?_ ?_
 ·refine G ?_
  refine QC (fun k' s' f' w' => (fun (_ : Unit) => ∃ (ai : PHeap) , PHeap.le ag ai ∧ St w0 ai (Res.box b 44 [l, m, n, o, p] :: H) w' ∧ Fx f' [(26, O (k' : Int)), (2, Vq b), (24, q), (25, O ((j.Values.length : Int)))]) s') ap ?_ ?_ ?_
  ·have be := (ay.f1).drop
   exact fq
  ·intro a8 bw aR aU b5 bi aq a a6
   obtain ⟨aE, bl, t, ⟨aV, rfl⟩⟩ := aq
   obtain ⟨b9, aA, a⟩ := Zg a
   refine G ?_
   refine QI Z Z Z aA ?_
   intro aO bp am
   refine G ?_
   refine Zw (E := (Qc .i64)) t A3.h Z Z Z am ?_
   intro b0 aB
   obtain rfl := Qm.1 aB
   obtain ⟨y, d, a⟩ := Zg a
   refine g ?_
   refine Zc (Qs (M := fun f' w' => (fun (y : Bool) => ∃ (aj : PHeap) , PHeap.le aE aj ∧ St w0 aj (Res.box b 44 [l, m, n, o, p] :: H) w' ∧ Fx f' [(2, Vq b), (24, q), (25, O ((j.Values.length : Int))), (26, O ((a8 : Int))), (48, Vb y)]) y) ?_ ?_)
   ·obtain ⟨ak, ad, d⟩ := Zg d
    refine G ?_
    refine QI Z Z Z ad ?_
    intro aP bq an
    refine G ?_
    refine Zw (E := (Qc .i64)) t A3.h Z Z Z (an.sub (Sub.iso (QD (Sub.fst (Sub.refl _)) Z)) Z) ?_
    intro aF aC
    obtain rfl : aF = O (ak.Lo) := Qm.1 aC
    refine G ?_
    rcases Qv d with ⟨a1, d⟩ | ⟨a1, d⟩
    ·cases d
     refine G ?_
     exact fq
    refine G ?_
    refine QI Z Z Z ad ?_
    intro aQ br ao
    refine G ?_
    refine Zw (E := (Qc .i64)) t A3.h Z Z Z (ao.sub (Sub.iso (QD (QD (Sub.fst (Sub.refl _)) Z) Z)) Z) ?_
    intro aG aD
    obtain rfl : aG = O (ak.Hi) := Qm.1 aD
    cases d
    refine G ?_
    exact fq
   intro aW b6 av
   obtain ⟨bt, bm, bf, ⟨aX, rfl⟩⟩ := av
   refine G ?_
   rcases Qv a with ⟨a2, a⟩ | ⟨a2, a⟩
   ·cases a
    have a4 := a5 _ (a6 (by intro _ h; cases h))
    cases a4
    refine G ?_
    exact fr
   cases a
   refine G ?_
   exact ⟨_, Z, fq⟩
  intro bx aY b7 ar a7
  obtain ⟨bu, bn, bg, ⟨aZ, rfl⟩⟩ := ar
  refine G ?_
  exact ⟨_, .inl a7, fq⟩
 rintro ba b8 ⟨bz, ac, aw⟩
 have hm := ac.elim (a3 _) (az _)
 clear ac
 obtain ⟨bv, bo, bh, ⟨bb, rfl⟩⟩ := aw
 cases hm
 refine G ?_
 exact fr
theorem Qdp {w0 w : World} {s : PHeap} {H : List Res} {q : ByteArray} {b : Int} {c : Int} {r : Int × Bool} (hm : KC q b c = some r) (hS : St w0 s (H) w) :
  Calls Tryz.prog 127 #[Value.string (q), O b, O c] w fun e w' => ∃ v, e = .returned v ∧ ((QO fun (ak : Int) (al : Bool) => ∃ (t : PHeap) , PHeap.le s t ∧ St w0 t (H) w' ∧ v = Value.tuple #[O ak, Value.bool (al)]) r) := by
 unfold KC at hm
 refine Ql Tryz.func127 Z Z (G ?_)
 rcases Qv hm with ⟨o, hm⟩ | ⟨o, hm⟩
 ·obtain ⟨k, d, hm⟩ := Zg hm
  refine W_c Z o (Qhf (Zd (g ?_)))
  refine Zc (Qs (M := fun f' w' => (fun (k : Bool) => ∃ (u : PHeap) , PHeap.le s u ∧ St w0 u (H) w' ∧ Fx f' [(6, O (IntKind.i64.wrap (b + c))), (7, Vb k)]) k) ?_ ?_)
  ·refine G ?_
   rcases Qv d with ⟨ae, d⟩ | ⟨ae, d⟩
   ·cases d
    refine G ?_
    exact fq
   cases d
   refine G ?_
   exact fq
  intro am a8 aa
  obtain ⟨a4, a0, aw, ⟨an, rfl⟩⟩ := aa
  cases hm
  refine G ?_
  refine ⟨_, Qbv Z, ?_⟩
  exact fq
 refine G ?_
 rcases Qv hm with ⟨j, hm⟩ | ⟨j, hm⟩
 ·obtain ⟨l, h, hm⟩ := Zg hm
  refine W_c Z j (Qhf (Zd (g ?_)))
  refine Zc (Qs (M := fun f' w' => (fun (l : Bool) => ∃ (x : PHeap) , PHeap.le s x ∧ St w0 x (H) w' ∧ Fx f' [(6, O (IntKind.i64.wrap (b - c))), (7, Vb l)]) l) ?_ ?_)
  ·refine G ?_
   rcases Qv h with ⟨af, h⟩ | ⟨af, h⟩
   ·cases h
    refine G ?_
    exact fq
   cases h
   refine G ?_
   exact fq
  intro ao a9 ab
  obtain ⟨a5, a1, ax, ⟨ap, rfl⟩⟩ := ab
  cases hm
  refine G ?_
  refine ⟨_, Qbv Z, ?_⟩
  exact fq
 obtain ⟨m, a, hm⟩ := Zg hm
 refine W_c Z j (Qbk (Zc (Zc (Qs (M := fun f' w' => (fun (m : Bool) => ∃ (y : PHeap) , PHeap.le s y ∧ St w0 y (H) w' ∧ Fx f' [(1, O b), (2, O c), (23, Vb m)]) m) ?_ ?_))))
 ·refine G ?_
  rcases Qv a with ⟨ag, a⟩ | ⟨ag, a⟩
  ·refine G ?_
   refine Exec.neg Z Z (G ?_)
   refine QfK Z Z Z (G ?_)
   refine Exec.neg Z Z (G ?_)
   refine QfK Z Z Z ?_
   obtain ⟨a7, ai, a⟩ := Zg a
   refine G ?_
   refine Exec.quo Z Z Z (by simpa using QbC ai) ?_
   cases a
   refine G ?_
   exact fq
  cases a
  refine G ?_
  exact fq
 intro aq aA ac
 obtain ⟨aj, a2, ay, ⟨ar, rfl⟩⟩ := ac
 refine G ?_
 rcases Qv hm with ⟨p, hm⟩ | ⟨p, hm⟩
 ·cases hm
  refine G ?_
  refine ⟨_, Qbv Z, ?_⟩
  exact fq
 obtain ⟨n, i, hm⟩ := Zg hm
 refine W_c Z p (Qbk (JG (Ze (Zd (g ?_)))))
 refine Zc (Qs (M := fun f' w' => (fun (n : Bool) => ∃ (z : PHeap) , PHeap.le aj z ∧ St w0 z (H) w' ∧ Fx f' [(6, O (IntKind.i64.wrap (b * c))), (7, Vb n)]) n) ?_ ?_)
 ·refine G ?_
  rcases Qv i with ⟨ah, i⟩ | ⟨ah, i⟩
  ·cases i
   refine G ?_
   exact fq
  cases i
  refine G ?_
  exact fq
 intro au aB ad
 obtain ⟨a6, a3, az, ⟨av, rfl⟩⟩ := ad
 cases hm
 refine G ?_
 refine ⟨_, Qbv Z, ?_⟩
 exact fq
theorem QdC {fu : Nat} (ih : ∀ {w0 w : World} {s : PHeap} {H : List Res} {b : GState} {a : GExpr} {c : Value} {d : Value} {i : Value} {r : Int × Bool} (hm : Jr fu b a = some r) (hS : St w0 s (H) w) (n : SliceRep (Qc .i64) s c b.True) (o : SliceRep (Qc .i64) s d b.Values) (k : SliceRep encGExpr s i a.Kids), Calls Tryz.prog 105 #[Value.agg #[c, d], Value.agg #[Value.string (a.Op), O (a.N), i]] w fun e w' => ∃ v, e = .returned v ∧ ((QO fun (l : Int) (m : Bool) => ∃ (g : PHeap) , PHeap.le s g ∧ St w0 g (H) w' ∧ v = Value.tuple #[O l, Value.bool (m)]) r)) {w0 w : World} {s : PHeap} {H : List Res} {b : GState} {a : GExpr} {c : Value} {d : Value} {i : Value} {r : Int × Bool} (hm : Jr (fu + 1) b a = some r) (hS : St w0 s (H) w) (n : SliceRep (Qc .i64) s c b.True) (o : SliceRep (Qc .i64) s d b.Values) (k : SliceRep encGExpr s i a.Kids) :
  Calls Tryz.prog 105 #[Value.agg #[c, d], Value.agg #[Value.string (a.Op), O (a.N), i]] w fun e w' => ∃ v, e = .returned v ∧ ((QO fun (l : Int) (m : Bool) => ∃ (g : PHeap) , PHeap.le s g ∧ St w0 g (H) w' ∧ v = Value.tuple #[O l, Value.bool (m)]) r) := by
 rw [Jr] at hm
 refine Ql Tryz.func105 Z Z (G ?_)
 refine JH Z Z ?_
 intro aq aE az
 refine G ?_
 refine JH Z Z ?_
 intro ar aF f
 refine G ?_
 rcases Qv hm with ⟨x, hm⟩ | ⟨x, hm⟩
 ·cases hm
  refine G ?_
  refine ⟨_, Qbv Z, ?_⟩
  exact fq
 refine G ?_
 rcases Qv hm with ⟨y, hm⟩ | ⟨y, hm⟩
 ·obtain ⟨aJ, ac, hm⟩ := Zg hm
  refine G ?_
  refine QI Z Z Z ac ?_
  intro au a3 p
  refine G ?_
  refine Zw (E := (Qc .i64)) f A3.h Z Z Z p ?_
  intro aB ad
  obtain rfl := Qm.1 ad
  cases hm
  refine G ?_
  refine ⟨_, Qbv Z, ?_⟩
  exact fq
 refine G ?_
 refine KM (n0 := 10) (qs 0 5 (.e 5 [] (qs 6 4 .done))) KL (by kernel_rfl) (by kernel_rfl) (G ?_)
 refine Jy (ds := [c, d]) ((f.drew).f1) A58.h Z Z Z ⟨Z, ?_⟩
 refine G ?_
 refine Zn (f.drew) A104.h Z Z Z ⟨Z, ?_⟩
 obtain ⟨aK, ae, hm⟩ := Zg hm
 refine G ?_
 refine Q1 S104.h Z Z Z k ae ?_
 intro av a4 q ax
 refine ⟨Z, ?_⟩
 refine G ?_
 refine Zw (E := encGExpr) f.drew A106.h Z Z Z q ?_
 intro aC af
 obtain ⟨a9, rfl, al⟩ := Kc.1 af
 refine ⟨Z, ?_⟩
 obtain ⟨an, ag, hm⟩ := Zg hm
 obtain ⟨aM, aN⟩ := an
 replace hm := Q3 hm
 refine G ?_
 refine Tc Z Z Z Z (ih ag f.drew n o al).r ?_
 rintro _ aG ⟨a6, ab, j, rfl⟩
 refine ⟨agq, ?_⟩
 refine G ?_
 rcases Qv hm with ⟨z, hm⟩ | ⟨z, hm⟩
 ·cases hm
  refine G ?_
  refine ⟨_, Qbv Z, ?_⟩
  exact fq
 refine G ?_
 refine KM (n0 := 10) (qs 0 5 (.e 5 [] (qs 6 4 .done))) KL (by kernel_rfl) (by kernel_rfl) (G ?_)
 refine Jy (ds := [c, d]) ((j.drew).f1) A58.h Z Z Z ⟨Z, ?_⟩
 refine G ?_
 refine Zn (j.drew) A104.h Z Z Z ⟨Z, ?_⟩
 obtain ⟨aL, ah, hm⟩ := Zg hm
 refine G ?_
 refine Q1 S104.h Z Z Z (k.mono ab) ah ?_
 intro aw a5 t ay
 refine ⟨Z, ?_⟩
 refine G ?_
 refine Zw (E := encGExpr) j.drew A106.h Z Z Z t ?_
 intro aD ai
 obtain ⟨aA, rfl, am⟩ := Kc.1 ai
 refine ⟨Z, ?_⟩
 obtain ⟨ao, aj, hm⟩ := Zg hm
 obtain ⟨aO, aP⟩ := ao
 replace hm := Q3 hm
 refine G ?_
 refine Tc Z Z Z Z (ih aj j.drew rq rq am).r ?_
 rintro _ aH ⟨a7, a1, u, rfl⟩
 refine ⟨agq, ?_⟩
 refine G ?_
 rcases Qv hm with ⟨aa, hm⟩ | ⟨aa, hm⟩
 ·cases hm
  refine G ?_
  refine ⟨_, Qbv Z, ?_⟩
  exact fq
 obtain ⟨ap, ak, hm⟩ := Zg hm
 obtain ⟨aQ, aR⟩ := ap
 replace hm := Q3 hm
 refine G ?_
 refine Tc Z Z Z Z (Qdp ak u).r ?_
 rintro _ aI ⟨a8, a2, a0, rfl⟩
 cases hm
 refine G ?_
 refine ⟨_, Qbv Z, ?_⟩
 exact fq
theorem Qau {fu : Nat} : ∀ {w0 w : World} {s : PHeap} {H : List Res} {b : GState} {a : GExpr} {d : Value} {f : Value} {g : Value} {r : Int × Bool} (hm : Jr fu b a = some r) (hS : St w0 s (H) w) (j : SliceRep (Qc .i64) s d b.True) (k : SliceRep (Qc .i64) s f b.Values) (l : SliceRep encGExpr s g a.Kids), Calls Tryz.prog 105 #[Value.agg #[d, f], Value.agg #[Value.string (a.Op), O (a.N), g]] w fun e w' => ∃ v, e = .returned v ∧ ((QO fun (h : Int) (i : Bool) => ∃ (c : PHeap) , PHeap.le s c ∧ St w0 c (H) w' ∧ v = Value.tuple #[O h, Value.bool (i)]) r) := by
 induction fu with
 | zero => intros; rename_i hm _ _ _ _; rw [Jr] at hm; cases hm
 | succ fu ih => exact QdC ih
theorem QdV {w0 w : World} {s : PHeap} {H : List Res} {fu : Nat} {c : Ground} {d : GState} {b : GExpr} {p : Value} {q : Value} {t : Value} {u : Value} {x : Value} {h : Value} {i : Value} {j : Value} {r : Int × (Option Int)} (hm : Qab fu c d b = some r) (hS : St w0 s (H) w) (y : SliceRep encAtom s p c.Atoms) (z : SliceRep encGFluent s q c.Fluents) (aa : SliceRep (Qc .i64) s t c.Init) (ab : SliceRep encCond s u c.Goal) (ac : SliceRep encGOp s x c.Ops) (av : SliceRep (Qc .i64) s h d.True) (aw : SliceRep (Qc .i64) s i d.Values) (ax : SliceRep encGExpr s j b.Kids) :
  Calls Tryz.prog 90 #[Value.agg #[p, q, t, u, x], Value.agg #[h, i], Value.agg #[Value.string (b.Op), O (b.N), j]] w fun e w' => ∃ v, e = .returned v ∧ ((QO fun (ar : Int) (au : (Option Int)) => ∃ (n : PHeap) , PHeap.le s n ∧ St w0 n (H) w' ∧ v = Value.tuple #[O ar, Qam 38 (au)]) r) := by
 unfold Qab at hm
 refine Ql Tryz.func90 Z Z (G ?_)
 refine JH Z Z ?_
 intro ay aF a1
 refine G ?_
 refine JH Z Z ?_
 intro l aG a2
 refine G ?_
 refine JH Z Z ?_
 intro m aH ae
 obtain ⟨k, a, hm⟩ := Zg hm
 refine g ?_
 refine Zc (Zc (Qs (M := fun f' w' => (fun (k : Bool) => ∃ (o : PHeap) , PHeap.le s o ∧ St w0 o (Res.box l 58 [h, i] :: Res.box m 106 [Value.string (b.Op), O (b.N), j] :: H) w' ∧ Fx f' [(4, Vq l), (5, Vq m), (26, Vb k)]) k) ?_ ?_))
 ·obtain ⟨aN, am, a⟩ := Zg a
  refine G ?_
  refine Tc Z Z Z Z (Kh am ae y z aa ab ac).r ?_
  rintro _ aI ⟨aA, a5, af, rfl⟩
  refine G ?_
  rcases Qv a with ⟨ai, a⟩ | ⟨ai, a⟩
  ·cases a
   refine G ?_
   exact fq
  obtain ⟨aO, an, a⟩ := Zg a
  refine G ?_
  refine Tc Z Z Z Z (Qbr an af rq rq rq rq rq rq rq).r ?_
  rintro _ aJ ⟨aB, a6, ag, rfl⟩
  refine G ?_
  rcases Qv a with ⟨aj, a⟩ | ⟨aj, a⟩
  ·cases a
   refine G ?_
   exact fq
  obtain ⟨aP, ao, a⟩ := Zg a
  refine G ?_
  refine Tc Z Z Z Z (JD ao ag rq).r ?_
  rintro _ aK ⟨aC, a7, a3, rfl⟩
  cases a
  refine G ?_
  exact fq
 intro az aL ad
 obtain ⟨aD, a8, ah, ⟨a0, rfl⟩⟩ := ad
 refine G ?_
 rcases Qv hm with ⟨ak, hm⟩ | ⟨ak, hm⟩
 ·refine G ?_
  refine Exec.makeInterface C38 Z Z ?_
  cases hm
  refine G ?_
  refine ⟨_, Qbv Z, ?_⟩
  exact fq
 obtain ⟨aq, ap, hm⟩ := Zg hm
 obtain ⟨aQ, aR⟩ := aq
 replace hm := Q3 hm
 refine G ?_
 refine Tc Z Z Z Z (Qau ap ah rq rq rq).r ?_
 rintro _ aM ⟨aE, a9, a4, rfl⟩
 refine G ?_
 rcases Qv hm with ⟨al, hm⟩ | ⟨al, hm⟩
 ·refine G ?_
  refine Exec.makeInterface C38 Z Z ?_
  cases hm
  refine G ?_
  refine ⟨_, Qbv Z, ?_⟩
  exact fq
 cases hm
 refine G ?_
 refine ⟨_, Qbv Z, ?_⟩
 exact fq
theorem JU {w0 w : World} {s : PHeap} {H : List Res} {fu : Nat} {a : encode_encoder} {b : GExpr} {aa : (List Int)} {m : Nat} {o : Value} {d : Value} {p : Value} {q : Value} {t : Value} {f : Value} {i : Value} {j : Value} {k : Value} {u : Value} {l : Value} {r : Int × Bool} (hm : QA fu a b aa = some r) (hS : St w0 s (Res.box m 67 [o, d, p, q, t, f, i, j, k] :: Res.arr (Qc .i64) 3 f a.vars :: Res.arr encFact 51 i a.atoms :: Res.arr encBool 4 j a.grouped :: Res.arr (Qc .i64) 3 k a.fluents :: H) w) (aj : SliceRep encAtom s o a.g.Atoms) (x : SliceRep encGFluent s d a.g.Fluents) (ak : SliceRep (Qc .i64) s p a.g.Init) (al : SliceRep encCond s q a.g.Goal) (am : SliceRep encGOp s t a.g.Ops) (ab : SliceRep encGExpr s u b.Kids) (y : SliceRep (Qc .i64) s l aa) :
  Calls Tryz.prog 75 #[Value.pointer (some ⟨m, 0, none⟩), Value.agg #[Value.string (b.Op), O (b.N), u], l] w fun e w' => ∃ v, e = .returned v ∧ ((QO fun (ah : Int) (ai : Bool) => ∃ (z : PHeap) , PHeap.le s z ∧ St w0 z (Res.box m 67 [o, d, p, q, t, f, i, j, k] :: Res.arr (Qc .i64) 3 f a.vars :: Res.arr encFact 51 i a.atoms :: Res.arr encBool 4 j a.grouped :: Res.arr (Qc .i64) 3 k a.fluents :: H) w' ∧ v = Value.tuple #[O ah, Value.bool (ai)]) r) := by
 unfold QA at hm
 refine Ql Tryz.func75 Z Z (G ?_)
 refine JH Z Z ?_
 intro an ao n
 refine G ?_
 refine KM (n0 := 14) (qs 0 9 (.e 9 [] (qs 10 4 .done))) KL (by kernel_rfl) (by kernel_rfl) (G ?_)
 refine Zn ((n.drew).f1) A40.h Z Z Z ⟨Z, ?_⟩
 refine G ?_
 refine Exec.build Z (Qd (c := [d]) (Qf Z (Qj x.one)) Qg) (v := Value.agg #[Vn, d, Vn, Vn, Vn]) (fun _ => by kernel_rfl) ⟨Z, ?_⟩
 refine G ?_
 refine Exec.build Z (Qd (c := [l]) (Qf Z (Qj y.one)) Qg) (v := Value.agg #[Vn, l]) (fun _ => by kernel_rfl) ⟨Z, ?_⟩
 refine G ?_
 refine Jy (ds := [Value.string (b.Op), O (b.N), u]) (n.drew) A106.h Z Z Z ⟨Z, ?_⟩
 obtain ⟨ag, ae, hm⟩ := Zg hm
 obtain ⟨aq, ar⟩ := ag
 replace hm := Q3 hm
 refine G ?_
 refine Tc Z Z Z Z (QdV ae n.drew (SliceRep.nil _ _) x (SliceRep.nil _ _) (SliceRep.nil _ _) (SliceRep.nil _ _) (SliceRep.nil _ _) y ab).r ?_
 rintro _ ap ⟨af, ad, ac, rfl⟩
 refine ⟨agq, ?_⟩
 refine G ?_
 refine KM (n0 := 4) (qs 0 4 .done) KL (by kernel_rfl) (by kernel_rfl) (G ?_)
 refine Y1 (T := 38) Tryz.underlying31 Z Z Z ⟨Z, ?_⟩
 cases hm
 refine G ?_
 refine ⟨_, Qbv Z, ?_⟩
 exact ⟨af, ad, ((((((ac.drew).drop).f4).f4).f4).f4).f4, (QfM Z Z)⟩
theorem KF {w0 w : World} {s : PHeap} {H : List Res} {fu : Nat} {a : encode_encoder} {ak : (List GTest)} {aF : (List Int)} {y : Nat} {ad : Value} {ae : Value} {af : Value} {ag : Value} {ah : Value} {o : Value} {p : Value} {q : Value} {t : Value} {al : Value} {am : Value} {r : Bool} (hm : Jw fu a ak aF = some r) (hS : St w0 s (Res.box y 67 [ad, ae, af, ag, ah, o, p, q, t] :: Res.arr (Qc .i64) 3 o a.vars :: Res.arr encFact 51 p a.atoms :: Res.arr encBool 4 q a.grouped :: Res.arr (Qc .i64) 3 t a.fluents :: H) w) (au : SliceRep encAtom s ad a.g.Atoms) (av : SliceRep encGFluent s ae a.g.Fluents) (aw : SliceRep (Qc .i64) s af a.g.Init) (ax : SliceRep encCond s ag a.g.Goal) (ay : SliceRep encGOp s ah a.g.Ops) (az : SliceRep encGTest s al ak) (a0 : SliceRep (Qc .i64) s am aF) :
  Calls Tryz.prog 74 #[Value.pointer (some ⟨y, 0, none⟩), al, am] w fun e w' => ∃ v, e = .returned v ∧ ((fun (bi : Bool) => ∃ (a8 : PHeap) , PHeap.le s a8 ∧ St w0 a8 (Res.box y 67 [ad, ae, af, ag, ah, o, p, q, t] :: Res.arr (Qc .i64) 3 o a.vars :: Res.arr encFact 51 p a.atoms :: Res.arr encBool 4 q a.grouped :: Res.arr (Qc .i64) 3 t a.fluents :: H) w' ∧ v = Value.bool (bi)) r) := by
 unfold Jw at hm
 refine Ql Tryz.func74 Z Z ?_
 obtain ⟨a1, aJ, aW, aU, aS⟩ := Qu hm
 refine Zc (Zd (g ?_))
 refine Zc (Zc (Zd (g ?_)))
 refine Qs (M := fun f' w' => ∃ s', (a1 = .next s' ∨ a1 = .brk s') ∧ (fun (_ : Unit) => ∃ (a9 : PHeap) , PHeap.le s a9 ∧ St w0 a9 (Res.box y 67 [ad, ae, af, ag, ah, o, p, q, t] :: Res.arr (Qc .i64) 3 o a.vars :: Res.arr encFact 51 p a.atoms :: Res.arr encBool 4 q a.grouped :: Res.arr (Qc .i64) 3 t a.fluents :: H) w' ∧ Fx f' [(0, Vq y), (2, am), (13, al), (14, O ((ak.length : Int)))]) s') ?_ ?_
 ·refine G ?_
  refine QC (fun k' s' f' w' => (fun (_ : Unit) => ∃ (aA : PHeap) , PHeap.le s aA ∧ St w0 aA (Res.box y 67 [ad, ae, af, ag, ah, o, p, q, t] :: Res.arr (Qc .i64) 3 o a.vars :: Res.arr encFact 51 p a.atoms :: Res.arr encBool 4 q a.grouped :: Res.arr (Qc .i64) 3 t a.fluents :: H) w' ∧ Fx f' [(15, O (k' : Int)), (0, Vq y), (2, am), (13, al), (14, O ((ak.length : Int)))]) s') aJ ?_ ?_ ?_
  ·have aO := hS.f4
   exact ⟨s, (Zv _), (((aO.f4).f4).f4).f4, (Fx.mk)⟩
  ·intro aZ b6 a2 bo bA aT aK d aX
   obtain ⟨b2, j, a3, ⟨bp, rfl⟩⟩ := aK
   obtain ⟨b, bc, d⟩ := Zg d
   refine G ?_
   refine QJ S83.h Z Z Z (az.mono j) bc ?_
   intro bj b1 aI
   refine G ?_
   refine Zw (E := encGTest) a3 A128.h Z Z Z aI ?_
   intro b9 bd
   obtain ⟨aD, aE, rfl, a6, a7⟩ := YY.1 bd
   refine G ?_
   refine Exec.alloc (cs := [Value.string (⟨#[]⟩), Value.string (⟨#[]⟩), O 0, Vn, Value.string (⟨#[]⟩), O 0, Vn]) a3 Qj7 Z Z ?_
   intro bk bB aP
   refine G ?_
   refine Qe (ds := [Value.string (b.Op), Value.string (b.A.Op), O (b.A.N), aD, Value.string (b.B.Op), O (b.B.N), aE]) (es := [Value.string (b.Op), Value.string (b.A.Op), O (b.A.N), aD, Value.string (b.B.Op), O (b.B.N), aE]) aP A128.h Z Z Z Z (Zj Z (Zj Z (Zj Z (Zj a6.one (Zj Z (Zj Z (Zj a7.one Qk))))))) (Nat.le_of_ble_eq_true Z) Z ?_
   intro bC aQ
   obtain ⟨bg, be, d⟩ := Zg d
   obtain ⟨u, aG⟩ := bg
   replace d := Q3 d
   refine G ?_
   refine Tc Z Z Z (Zi Z (Zi Z (Zi Z Qx))) (JU be ((((aQ.f5).f5).f5).f5).f5 (au.mono j) (av.mono j) (aw.mono j) (ax.mono j) (ay.mono j) a6 (a0.mono j)).r ?_
   rintro _ bD ⟨b3, aa, aR, rfl⟩
   obtain ⟨bh, bf, d⟩ := Zg d
   obtain ⟨x, aH⟩ := bh
   replace d := Q3 d
   refine G ?_
   refine Tc Z Z Z (Zi Z (Zi Z (Zi Z Qx))) (JU bf ((((aR.f4).f4).f4).f4).f4 (au.mono (Zt j aa)) (av.mono (Zt j aa)) (aw.mono (Zt j aa)) (ax.mono (Zt j aa)) (ay.mono (Zt j aa)) (a7.mono aa) (a0.mono (Zt j aa))).r ?_
   rintro _ bE ⟨l, ba, m, rfl⟩
   refine g ?_
   refine Zc (Qs (M := fun f' w' => ∃ (aB : PHeap) , PHeap.le l aB ∧ St w0 aB (Res.box y 67 [ad, ae, af, ag, ah, o, p, q, t] :: Res.arr (Qc .i64) 3 o a.vars :: Res.arr encFact 51 p a.atoms :: Res.arr encBool 4 q a.grouped :: Res.arr (Qc .i64) 3 t a.fluents :: H) w' ∧ Fx f' [(0, Vq y), (2, am), (13, al), (14, O ((ak.length : Int))), (15, O ((aZ : Int))), (70, Vb (((!aG) || ((!aH) || (bif (decide (b.Op = (⟨#[60]⟩))) then ((decide (x ≤ u)) || (bif (decide (b.Op = (⟨#[60, 61]⟩))) then ((decide (x < u)) || ((decide (b.Op = (⟨#[61]⟩))) && !decide (u = x))) else ((decide (b.Op = (⟨#[61]⟩))) && !decide (u = x)))) else (bif (decide (b.Op = (⟨#[60, 61]⟩))) then ((decide (x < u)) || ((decide (b.Op = (⟨#[61]⟩))) && !decide (u = x))) else ((decide (b.Op = (⟨#[61]⟩))) && !decide (u = x))))))))]) ?_ ?_)
   ·refine G ?_
    by_cases c : (!aG) = true
    ·refine G ?_
     exact ⟨l, (Zv _), ((((((m.f5).drop).f4).f4).f4).f4).f4, (Fx.mk (FxL.cons Z (FxL.cons Z (FxL.cons Z (FxL.cons Z (FxL.cons Z (FxL.cons (Zx (QfN c)).symm fxl)))))))⟩
    replace c := Zk c
    refine G ?_
    by_cases i : (!aH) = true
    ·refine G ?_
     exact ⟨l, (Zv _), ((((((m.f5).drop).f4).f4).f4).f4).f4, (Fx.mk (FxL.cons Z (FxL.cons Z (FxL.cons Z (FxL.cons Z (FxL.cons Z (FxL.cons (Zx (Eq.trans (K7 c) (QfN i))).symm fxl)))))))⟩
    replace i := Zk i
    refine G ?_
    by_cases n : (decide (b.Op = (⟨#[60]⟩))) = true
    ·refine G ?_
     by_cases z : (decide (x ≤ u)) = true
     ·refine G ?_
      exact ⟨l, (Zv _), ((((((m.f5).drop).f4).f4).f4).f4).f4, (Fx.mk (FxL.cons Z (FxL.cons Z (FxL.cons Z (FxL.cons Z (FxL.cons Z (FxL.cons (Zx (Eq.trans (K7 c) (Eq.trans (K7 i) (Eq.trans (KH n) (QfN z))))).symm fxl)))))))⟩
     replace z := Zk z
     refine G ?_
     by_cases ab : (decide (b.Op = (⟨#[60, 61]⟩))) = true
     ·refine G ?_
      by_cases ai : (decide (x < u)) = true
      ·refine G ?_
       exact ⟨l, (Zv _), ((((((m.f5).drop).f4).f4).f4).f4).f4, (Fx.mk (FxL.cons Z (FxL.cons Z (FxL.cons Z (FxL.cons Z (FxL.cons Z (FxL.cons (Zx (Eq.trans (K7 c) (Eq.trans (K7 i) (Eq.trans (KH n) (Eq.trans (K7 z) (Eq.trans (KH ab) (QfN ai))))))).symm fxl)))))))⟩
      replace ai := Zk ai
      refine G ?_
      by_cases an : (decide (b.Op = (⟨#[61]⟩))) = true
      ·refine G ?_
       exact ⟨l, (Zv _), ((((((m.f5).drop).f4).f4).f4).f4).f4, (Fx.mk (FxL.cons Z (FxL.cons Z (FxL.cons Z (FxL.cons Z (FxL.cons Z (FxL.cons (Zx (Eq.trans (K7 c) (Eq.trans (K7 i) (Eq.trans (KH n) (Eq.trans (K7 z) (Eq.trans (KH ab) (Eq.trans (K7 ai) (Kj an)))))))).symm fxl)))))))⟩
      replace an := Zk an
      refine G ?_
      exact ⟨l, (Zv _), ((((((m.f5).drop).f4).f4).f4).f4).f4, (Fx.mk (FxL.cons Z (FxL.cons Z (FxL.cons Z (FxL.cons Z (FxL.cons Z (FxL.cons (Zx (Eq.trans (K7 c) (Eq.trans (K7 i) (Eq.trans (KH n) (Eq.trans (K7 z) (Eq.trans (KH ab) (Eq.trans (K7 ai) (QcJ an)))))))).symm fxl)))))))⟩
     replace ab := Zk ab
     refine G ?_
     by_cases ao : (decide (b.Op = (⟨#[61]⟩))) = true
     ·refine G ?_
      exact ⟨l, (Zv _), ((((((m.f5).drop).f4).f4).f4).f4).f4, (Fx.mk (FxL.cons Z (FxL.cons Z (FxL.cons Z (FxL.cons Z (FxL.cons Z (FxL.cons (Zx (Eq.trans (K7 c) (Eq.trans (K7 i) (Eq.trans (KH n) (Eq.trans (K7 z) (Eq.trans (YS ab) (Kj ao))))))).symm fxl)))))))⟩
     replace ao := Zk ao
     refine G ?_
     exact ⟨l, (Zv _), ((((((m.f5).drop).f4).f4).f4).f4).f4, (Fx.mk (FxL.cons Z (FxL.cons Z (FxL.cons Z (FxL.cons Z (FxL.cons Z (FxL.cons (Zx (Eq.trans (K7 c) (Eq.trans (K7 i) (Eq.trans (KH n) (Eq.trans (K7 z) (Eq.trans (YS ab) (QcJ ao))))))).symm fxl)))))))⟩
    replace n := Zk n
    refine G ?_
    by_cases ac : (decide (b.Op = (⟨#[60, 61]⟩))) = true
    ·refine G ?_
     by_cases aj : (decide (x < u)) = true
     ·refine G ?_
      exact ⟨l, (Zv _), ((((((m.f5).drop).f4).f4).f4).f4).f4, (Fx.mk (FxL.cons Z (FxL.cons Z (FxL.cons Z (FxL.cons Z (FxL.cons Z (FxL.cons (Zx (Eq.trans (K7 c) (Eq.trans (K7 i) (Eq.trans (YS n) (Eq.trans (KH ac) (QfN aj)))))).symm fxl)))))))⟩
     replace aj := Zk aj
     refine G ?_
     by_cases ap : (decide (b.Op = (⟨#[61]⟩))) = true
     ·refine G ?_
      exact ⟨l, (Zv _), ((((((m.f5).drop).f4).f4).f4).f4).f4, (Fx.mk (FxL.cons Z (FxL.cons Z (FxL.cons Z (FxL.cons Z (FxL.cons Z (FxL.cons (Zx (Eq.trans (K7 c) (Eq.trans (K7 i) (Eq.trans (YS n) (Eq.trans (KH ac) (Eq.trans (K7 aj) (Kj ap))))))).symm fxl)))))))⟩
     replace ap := Zk ap
     refine G ?_
     exact ⟨l, (Zv _), ((((((m.f5).drop).f4).f4).f4).f4).f4, (Fx.mk (FxL.cons Z (FxL.cons Z (FxL.cons Z (FxL.cons Z (FxL.cons Z (FxL.cons (Zx (Eq.trans (K7 c) (Eq.trans (K7 i) (Eq.trans (YS n) (Eq.trans (KH ac) (Eq.trans (K7 aj) (QcJ ap))))))).symm fxl)))))))⟩
    replace ac := Zk ac
    refine G ?_
    by_cases aq : (decide (b.Op = (⟨#[61]⟩))) = true
    ·refine G ?_
     exact ⟨l, (Zv _), ((((((m.f5).drop).f4).f4).f4).f4).f4, (Fx.mk (FxL.cons Z (FxL.cons Z (FxL.cons Z (FxL.cons Z (FxL.cons Z (FxL.cons (Zx (Eq.trans (K7 c) (Eq.trans (K7 i) (Eq.trans (YS n) (Eq.trans (YS ac) (Kj aq)))))).symm fxl)))))))⟩
    replace aq := Zk aq
    refine G ?_
    exact ⟨l, (Zv _), ((((((m.f5).drop).f4).f4).f4).f4).f4, (Fx.mk (FxL.cons Z (FxL.cons Z (FxL.cons Z (FxL.cons Z (FxL.cons Z (FxL.cons (Zx (Eq.trans (K7 c) (Eq.trans (K7 i) (Eq.trans (YS n) (Eq.trans (YS ac) (QcJ aq)))))).symm fxl)))))))⟩
   intro bq bF aM
   obtain ⟨aC, bb, a4, ⟨br, rfl⟩⟩ := aM
   refine G ?_
   rcases JV d with ⟨ar, d⟩ | ⟨ar, d⟩
   ·have bl := Zu d
    subst a2
    have aV := aW _ (aX (by intro _ h; cases h))
    have bm := Zu aV
    subst r
    refine G ?_
    refine ⟨_, Qa5 Z, ?_⟩
    exact ⟨aC, (Zt (Zt (Zt j aa) ba) bb), ((((a4.f4).f4).f4).f4).f4, Z⟩
   replace ar := Zk ar
   have bn := Zu d
   subst a2
   refine G ?_
   refine ⟨_, Z, ?_⟩; exact ⟨aC, lq, ((((a4.f4).f4).f4).f4).f4, (Fx.mk (FxL.cons (J5 aT (SliceRep.le az)) fxl))⟩
  intro b7 bs bG aL aY
  obtain ⟨b4, bz, bw, ⟨bt, rfl⟩⟩ := aL
  refine G ?_
  exact ⟨_, .inl aY, fq⟩
 rintro bu bH ⟨b8, a5, aN⟩
 have hm := a5.elim (aU _) (aS _)
 clear a5
 obtain ⟨b5, b0, bx, ⟨bv, rfl⟩⟩ := aN
 cases hm
 refine G ?_
 exact fr
theorem QaM {w0 w : World} {s : PHeap} {H : List Res} {fu : Nat} {a : encode_encoder} {d : GOp} {av : (List Int)} {n : Nat} {o : Value} {p : Value} {q : Value} {t : Value} {u : Value} {i : Value} {j : Value} {l : Value} {m : Value} {ap : Value} {aq : Value} {ar : Value} {au : Value} {x : Value} {y : Value} {r : Bool} (hm : J3 fu a d av = some r) (hS : St w0 s (Res.box n 67 [o, p, q, t, u, i, j, l, m] :: Res.arr (Qc .i64) 3 i a.vars :: Res.arr encFact 51 j a.atoms :: Res.arr encBool 4 l a.grouped :: Res.arr (Qc .i64) 3 m a.fluents :: H) w) (ax : SliceRep encAtom s o a.g.Atoms) (z : SliceRep encGFluent s p a.g.Fluents) (ay : SliceRep (Qc .i64) s q a.g.Init) (az : SliceRep encCond s t a.g.Goal) (a0 : SliceRep encGOp s u a.g.Ops) (bb : SliceRep (Qc .i64) s ap d.Pre.Pos) (bc : SliceRep (Qc .i64) s aq d.Pre.Neg) (a1 : SliceRep encGTest s ar d.Pre.Tests) (bd : SliceRep encGChange s au d.Changes) (be : SliceRep encGAssign s x d.Assigns) (a2 : SliceRep (Qc .i64) s y av) :
  Calls Tryz.prog 52 #[Value.pointer (some ⟨n, 0, none⟩), Value.agg #[Value.string (d.Name), O (d.Cost), ap, aq, ar, au, x], y] w fun e w' => ∃ v, e = .returned v ∧ ((fun (ba : Bool) => ∃ (ak : PHeap) , PHeap.le s ak ∧ St w0 ak (Res.box n 67 [o, p, q, t, u, i, j, l, m] :: Res.arr (Qc .i64) 3 i a.vars :: Res.arr encFact 51 j a.atoms :: Res.arr encBool 4 l a.grouped :: Res.arr (Qc .i64) 3 m a.fluents :: H) w' ∧ v = Value.bool (ba)) r) := by
 unfold J3 at hm
 refine Ql Tryz.func52 Z Z (G ?_)
 refine JH Z Z ?_
 intro bf bH aB
 obtain ⟨bR, aP, hm⟩ := Zg hm
 refine G ?_
 refine Tc Z Z Z (Zi Z (Zi Z (Zi Z Qx))) (KF aP ((((aB.f5).f5).f5).f5).f5 ax z ay az a0 a1 a2).r ?_
 rintro _ bI ⟨al, ag, aC, rfl⟩
 refine G ?_
 rcases Qv hm with ⟨ae, hm⟩ | ⟨ae, hm⟩
 ·cases hm
  refine G ?_
  exact fr
 obtain ⟨ab, a6, aL, aJ, aF⟩ := Qu hm
 refine W_c Z ae (Qbk (JG (Ze (Zc (Zc (Zd (g ?_)))))))
 refine Qs (M := fun f' w' => ∃ s', (ab = .next s' ∨ ab = .brk s') ∧ (fun (_ : Unit) => ∃ (am : PHeap) , PHeap.le al am ∧ St w0 am (Res.box n 67 [o, p, q, t, u, i, j, l, m] :: Res.arr (Qc .i64) 3 i a.vars :: Res.arr encFact 51 j a.atoms :: Res.arr encBool 4 l a.grouped :: Res.arr (Qc .i64) 3 m a.fluents :: H) w' ∧ Fx f' [(0, Vq n), (2, y), (19, x), (20, O ((d.Assigns.length : Int)))]) s') ?_ ?_
 ·refine G ?_
  refine QC (fun k' s' f' w' => (fun (_ : Unit) => ∃ (an : PHeap) , PHeap.le al an ∧ St w0 an (Res.box n 67 [o, p, q, t, u, i, j, l, m] :: Res.arr (Qc .i64) 3 i a.vars :: Res.arr encFact 51 j a.atoms :: Res.arr encBool 4 l a.grouped :: Res.arr (Qc .i64) 3 m a.fluents :: H) w' ∧ Fx f' [(21, O (k' : Int)), (0, Vq n), (2, y), (19, x), (20, O ((d.Assigns.length : Int)))]) s') a6 ?_ ?_ ?_
  ·have bv := (aC.f5).drop
   exact fq
  ·intro aO bC bk bn bJ b1 a7 b aM
   obtain ⟨b8, ah, ac, ⟨bo, rfl⟩⟩ := a7
   obtain ⟨bQ, aQ, b⟩ := Zg b
   refine G ?_
   refine QI Z Z Z aQ ?_
   intro bg b5 a3
   refine G ?_
   refine Zw (E := encGAssign) ac A108.h Z Z Z a3 ?_
   intro bG aR
   obtain ⟨bF, rfl, aV⟩ := Qae.1 aR
   refine G ?_
   refine Exec.alloc (cs := [O 0, Value.string (⟨#[]⟩), O 0, Vn]) ac Qj8 Z Z ?_
   intro bh bK bw
   refine G ?_
   refine Xst Z Z Z ?_
   intro bL aD
   obtain ⟨aX, aS, b⟩ := Zg b
   obtain ⟨bS, bT⟩ := aX
   replace b := Q3 b
   refine G ?_
   refine Tc Z Z Z (Zi Z (Zi Z (Zi Z Qx))) (JU aS ((((aD.f5).f5).f5).f5).f5 rq rq rq rq rq aV rq).r ?_
   rintro _ bM ⟨aW, ai, aE, rfl⟩
   obtain ⟨aa, c, b⟩ := Zg b
   refine g ?_
   refine Zc (Qs (M := fun f' w' => (fun (aa : Bool) => ∃ (ao : PHeap) , PHeap.le aW ao ∧ St w0 ao (Res.box n 67 [o, p, q, t, u, i, j, l, m] :: Res.arr (Qc .i64) 3 i a.vars :: Res.arr encFact 51 j a.atoms :: Res.arr encBool 4 l a.grouped :: Res.arr (Qc .i64) 3 m a.fluents :: H) w' ∧ Fx f' [(0, Vq n), (2, y), (19, x), (20, O ((d.Assigns.length : Int))), (21, O ((aO : Int))), (62, Vb aa)]) aa) ?_ ?_)
   ·refine KM (n0 := 30) (qs 0 30 .done) KL (by kernel_rfl) (by kernel_rfl) ?_
    have ad := aE.drew
    refine G ?_
    rcases Qv c with ⟨aG, c⟩ | ⟨aG, c⟩
    ·cases c
     refine G ?_
     exact fq
    obtain ⟨aw, aj, c⟩ := Zg c
    refine G ?_
    refine Q1 S40.h Z Z Z (z.mono (Zt (Zt ag ah) ai)) aj ?_
    intro bi b6 a4 bl
    refine ⟨Z, ?_⟩
    refine G ?_
    refine Zw (E := (Qc .i64)) ad A3.h Z Z Z (a4.sub (Sub.iso (QD (Sub.fst (Sub.refl _)) Z)) Z) ?_
    intro aY aT
    obtain rfl : aY = O (aw.Lo) := Qm.1 aT
    refine ⟨Z, ?_⟩
    refine G ?_
    rcases Qv c with ⟨aH, c⟩ | ⟨aH, c⟩
    ·cases c
     refine G ?_
     exact fq
    refine G ?_
    refine Q1 S40.h Z Z Z (z.mono (Zt (Zt ag ah) ai)) aj ?_
    intro bj b7 a5 bm
    refine ⟨Z, ?_⟩
    refine G ?_
    refine Zw (E := (Qc .i64)) ad A3.h Z Z Z (a5.sub (Sub.iso (QD (QD (Sub.fst (Sub.refl _)) Z) Z)) Z) ?_
    intro aZ aU
    obtain rfl : aZ = O (aw.Hi) := Qm.1 aU
    refine ⟨Z, ?_⟩
    cases c
    refine G ?_
    exact fq
   intro bp bN a9
   obtain ⟨b9, b2, bx, ⟨bq, rfl⟩⟩ := a9
   refine G ?_
   rcases Qv b with ⟨aI, b⟩ | ⟨aI, b⟩
   ·cases b
    have aK := aL _ (aM (by intro _ h; cases h))
    cases aK
    refine G ?_
    exact fr
   cases b
   refine G ?_
   exact ⟨_, Z, fq⟩
  intro bD br bO a8 aN
  obtain ⟨bA, b3, bz, ⟨bs, rfl⟩⟩ := a8
  refine G ?_
  exact ⟨_, .inl aN, fq⟩
 rintro bt bP ⟨bE, af, aA⟩
 have hm := af.elim (aJ _) (aF _)
 clear af
 obtain ⟨bB, b4, b0, ⟨bu, rfl⟩⟩ := aA
 cases hm
 refine G ?_
 exact fr
theorem Qb2 {w0 w : World} {s : PHeap} {H : List Res} {b : (List Fact)} {g : Value} {r : (List Fact)} (hm : Kd b = some r) (hS : St w0 s (H) w) (c : SliceRep encFact s g b) :
  Calls Tryz.prog 76 #[g] w fun e w' => ∃ v, e = .returned v ∧ ((fun (q : (List Fact)) => ∃ (f : PHeap) (i : Value), PHeap.le s f ∧ St w0 f (Res.arr encFact 51 i q :: H) w' ∧ v = i) r) := by
 unfold Kd at hm
 refine Ql Tryz.func76 Z Z ?_
 obtain ⟨j, z, u, k, n⟩ := c.nilShape
 refine G ?_
 refine Kp Tryz.underlying24 Z k Z (G ?_)
 rcases tf (j.isNone) with a | a
 ·have o := n a
  replace hm := (show (some []) = ((app 16 [] b).bind fun d => some d) from by simp [o, app]).trans hm
  refine YT ((Zx a)) ?_
  cases hm
  refine G ?_
  refine ⟨_, Qa5 Z, ?_⟩
  have x := hS.nilArr encFact 51
  exact fq
 refine KQ ((Zx a)) (G ?_)
 refine Exec.buildSlice (Te := 51) (cs := []) hS Z Qg (fun _ => by kernel_rfl) ?_
 intro t ab l
 refine G ?_
 have m := St.boxArr (E := encFact) (xs := []) l rfl (by simp [maxLen])
 obtain ⟨d, p, hm⟩ := Zg hm
 refine G ?_
 refine QY (E := encFact) (ys := b) m S24.h Z51 Z (by decide) Z Z Z c p ?_
 intro aa ac y
 cases hm
 refine G ?_
 exact fr
theorem QaN {w0 w : World} {s : PHeap} {H : List Res} {a : Fact} {b : Fact} {r : Int} (hm : JO a b = some r) (hS : St w0 s (H) w) :
  Calls Tryz.prog 78 #[Value.agg #[O (a.Var), O (a.Val)], Value.agg #[O (b.Var), O (b.Val)]] w fun e w' => ∃ v, e = .returned v ∧ ((fun (f : Int) => ∃ (c : PHeap) , PHeap.le s c ∧ St w0 c (H) w' ∧ v = O f) r) := by
 unfold JO at hm
 refine Ql Tryz.func78 Z Z (G ?_)
 refine JH Z Z ?_
 intro g k i
 refine G ?_
 refine JH Z Z ?_
 intro h l j
 refine G ?_
 rcases Qv hm with ⟨d, hm⟩ | ⟨d, hm⟩
 ·cases hm
  refine G ?_
  exact fr
 cases hm
 refine G ?_
 exact fr
end Go.Pw
