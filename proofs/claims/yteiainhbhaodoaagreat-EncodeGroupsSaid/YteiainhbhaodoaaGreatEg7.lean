/- -/
import Derived.Test.YteiainhbhaodoaaGreatL29
import Derived.Test.YteiainhbhaodoaaGreatL61
import Derived.Test.YteiainhbhaodoaaGreatEg6
set_option maxRecDepth 100000
set_option maxHeartbeats 4000000
set_option linter.unusedVariables false
namespace Go.Pw
open Go.Proofs
attribute [local irreducible] Exec WL W andThen YR DL Jh
theorem Qez {w0 w : World} {s : PHeap} {H : List Res} {fu : Nat} {y : GState} {a : GTest} {z : Value} {aa : Value} {ab : Value} {ac : Value} {r : Bool} (hm : Qbz fu y a = some r) (hS : St w0 s (H) w) (ah : SliceRep (Qc .i64) s z y.True) (ai : SliceRep (Qc .i64) s aa y.Values) (aj : SliceRep encGExpr s ab a.A.Kids) (av : SliceRep encGExpr s ac a.B.Kids) :
  Calls Tryz.prog 99 #[Value.agg #[z, aa], Value.agg #[Value.string (a.Op), Value.string (a.A.Op), O (a.A.N), ab, Value.string (a.B.Op), O (a.B.N), ac]] w fun e w' => ∃ v, e = .returned v ∧ ((fun (au : Bool) => ∃ (ad : PHeap) , PHeap.le s ad ∧ St w0 ad (H) w' ∧ v = Value.bool (au)) r) := by
 unfold Qbz at hm
 refine Ql Tryz.func99 Z Z (G ?_)
 refine Exec.box (cs := [z, aa]) hS Z Z Z ?_
 intro aw a7 al
 refine G ?_
 refine Exec.box (cs := [Value.string (a.Op), Value.string (a.A.Op), O (a.A.N), ab, Value.string (a.B.Op), O (a.B.N), ac]) al Z Z Z ?_
 intro ax a8 am
 obtain ⟨aq, ao, hm⟩ := Zg hm
 obtain ⟨j, af⟩ := aq
 replace hm := Q3 hm
 refine G ?_
 refine Tc Z Z Z (Zi Z (Zi Z Qx)) (Qau ao am ah ai aj).r ?_
 rintro _ a9 ⟨a5, a2, an, rfl⟩
 obtain ⟨ar, ap, hm⟩ := Zg hm
 obtain ⟨k, ag⟩ := ar
 replace hm := Q3 hm
 refine G ?_
 refine Tc Z Z Z (Zi Z (Zi Z Qx)) (Qau ap an rq rq rq).r ?_
 rintro _ aA ⟨d, a3, h, rfl⟩
 refine g ?_
 refine Zc (Qs (M := fun f' w' => ∃ (ae : PHeap) , PHeap.le d ae ∧ St w0 ae (H) w' ∧ Fx f' [(4, Vb ((af && (ag && (bif (decide (a.Op = (⟨#[60]⟩))) then ((decide (j < k)) || (bif (decide (a.Op = (⟨#[60, 61]⟩))) then ((decide (j ≤ k)) || ((decide (a.Op = (⟨#[61]⟩))) && decide (j = k))) else ((decide (a.Op = (⟨#[61]⟩))) && decide (j = k)))) else (bif (decide (a.Op = (⟨#[60, 61]⟩))) then ((decide (j ≤ k)) || ((decide (a.Op = (⟨#[61]⟩))) && decide (j = k))) else ((decide (a.Op = (⟨#[61]⟩))) && decide (j = k))))))))]) ?_ ?_)
 ·refine G ?_
  by_cases b : af = true
  ·refine G ?_
   by_cases c : ag = true
   ·refine G ?_
    by_cases i : (decide (a.Op = (⟨#[60]⟩))) = true
    ·refine G ?_
     by_cases l : (decide (j < k)) = true
     ·refine G ?_
      exact ⟨d, (Zv _), (h.drop).drop, (Fx.mk (FxL.cons (Zx (Eq.trans (Kj b) (Eq.trans (Kj c) (Eq.trans (KH i) (QfN l))))).symm fxl))⟩
     replace l := Zk l
     refine G ?_
     by_cases m : (decide (a.Op = (⟨#[60, 61]⟩))) = true
     ·refine G ?_
      by_cases o : (decide (j ≤ k)) = true
      ·refine G ?_
       exact ⟨d, (Zv _), (h.drop).drop, (Fx.mk (FxL.cons (Zx (Eq.trans (Kj b) (Eq.trans (Kj c) (Eq.trans (KH i) (Eq.trans (K7 l) (Eq.trans (KH m) (QfN o))))))).symm fxl))⟩
      replace o := Zk o
      refine G ?_
      by_cases q : (decide (a.Op = (⟨#[61]⟩))) = true
      ·refine G ?_
       exact ⟨d, (Zv _), (h.drop).drop, (Fx.mk (FxL.cons (Zx (Eq.trans (Kj b) (Eq.trans (Kj c) (Eq.trans (KH i) (Eq.trans (K7 l) (Eq.trans (KH m) (Eq.trans (K7 o) (Kj q)))))))).symm fxl))⟩
      replace q := Zk q
      refine G ?_
      exact ⟨d, (Zv _), (h.drop).drop, (Fx.mk (FxL.cons (Zx (Eq.trans (Kj b) (Eq.trans (Kj c) (Eq.trans (KH i) (Eq.trans (K7 l) (Eq.trans (KH m) (Eq.trans (K7 o) (QcJ q)))))))).symm fxl))⟩
     replace m := Zk m
     refine G ?_
     by_cases t : (decide (a.Op = (⟨#[61]⟩))) = true
     ·refine G ?_
      exact ⟨d, (Zv _), (h.drop).drop, (Fx.mk (FxL.cons (Zx (Eq.trans (Kj b) (Eq.trans (Kj c) (Eq.trans (KH i) (Eq.trans (K7 l) (Eq.trans (YS m) (Kj t))))))).symm fxl))⟩
     replace t := Zk t
     refine G ?_
     exact ⟨d, (Zv _), (h.drop).drop, (Fx.mk (FxL.cons (Zx (Eq.trans (Kj b) (Eq.trans (Kj c) (Eq.trans (KH i) (Eq.trans (K7 l) (Eq.trans (YS m) (QcJ t))))))).symm fxl))⟩
    replace i := Zk i
    refine G ?_
    by_cases n : (decide (a.Op = (⟨#[60, 61]⟩))) = true
    ·refine G ?_
     by_cases p : (decide (j ≤ k)) = true
     ·refine G ?_
      exact ⟨d, (Zv _), (h.drop).drop, (Fx.mk (FxL.cons (Zx (Eq.trans (Kj b) (Eq.trans (Kj c) (Eq.trans (YS i) (Eq.trans (KH n) (QfN p)))))).symm fxl))⟩
     replace p := Zk p
     refine G ?_
     by_cases u : (decide (a.Op = (⟨#[61]⟩))) = true
     ·refine G ?_
      exact ⟨d, (Zv _), (h.drop).drop, (Fx.mk (FxL.cons (Zx (Eq.trans (Kj b) (Eq.trans (Kj c) (Eq.trans (YS i) (Eq.trans (KH n) (Eq.trans (K7 p) (Kj u))))))).symm fxl))⟩
     replace u := Zk u
     refine G ?_
     exact ⟨d, (Zv _), (h.drop).drop, (Fx.mk (FxL.cons (Zx (Eq.trans (Kj b) (Eq.trans (Kj c) (Eq.trans (YS i) (Eq.trans (KH n) (Eq.trans (K7 p) (QcJ u))))))).symm fxl))⟩
    replace n := Zk n
    refine G ?_
    by_cases x : (decide (a.Op = (⟨#[61]⟩))) = true
    ·refine G ?_
     exact ⟨d, (Zv _), (h.drop).drop, (Fx.mk (FxL.cons (Zx (Eq.trans (Kj b) (Eq.trans (Kj c) (Eq.trans (YS i) (Eq.trans (YS n) (Kj x)))))).symm fxl))⟩
    replace x := Zk x
    refine G ?_
    exact ⟨d, (Zv _), (h.drop).drop, (Fx.mk (FxL.cons (Zx (Eq.trans (Kj b) (Eq.trans (Kj c) (Eq.trans (YS i) (Eq.trans (YS n) (QcJ x)))))).symm fxl))⟩
   replace c := Zk c
   refine G ?_
   exact ⟨d, (Zv _), (h.drop).drop, (Fx.mk (FxL.cons (Zx (Eq.trans (Kj b) (QcJ c))).symm fxl))⟩
  replace b := Zk b
  refine G ?_
  exact ⟨d, (Zv _), (h.drop).drop, (Fx.mk (FxL.cons (Zx (QcJ b)).symm fxl))⟩
 intro az aB ak
 obtain ⟨a6, a4, a1, ⟨a0, rfl⟩⟩ := ak
 have ay := Zu hm
 subst r
 refine G ?_
 refine ⟨_, Qa5 Z, ?_⟩
 exact fq
theorem N98 : (Tryz.f98.name == "runtime.NumGoroutine") = false := by kernel_rfl
theorem QcD {w0 w : World} {s : PHeap} {H : List Res} {fu : Nat} {a : GTest} {c : GState} {i : Value} {j : Value} {b f : Nat} {r : Bool} (hm : Qah fu a c = some r) (hS : St w0 s (H) w) (k : SliceRep encGExpr s i a.A.Kids) (l : SliceRep encGExpr s j a.B.Kids) (m : At s b f encGState c) :
  Calls Tryz.prog 98 #[Value.agg #[Value.string (a.Op), Value.string (a.A.Op), O (a.A.N), i, Value.string (a.B.Op), O (a.B.N), j], Value.pointer (some ⟨b, f, none⟩)] w fun e w' => ∃ v, e = .returned v ∧ ((fun (t : Bool) => ∃ (g : PHeap) , PHeap.le s g ∧ St w0 g (H) w' ∧ v = Value.bool (t)) r) := by
 unfold Qah at hm
 refine Ql Tryz.func98 Z Z (G ?_)
 refine JH Z Z ?_
 intro u ad d
 refine G ?_
 refine Zw (E := encGState) d A58.h Z Z Z m ?_
 intro ac n
 obtain ⟨aa, ab, rfl, p, q⟩ := Qfy.1 n
 obtain ⟨af, o, hm⟩ := Zg hm
 refine G ?_
 refine Tc Z Z Z (Zi Z (Zi Z Qx)) (Qez o d p q k l).r ?_
 rintro _ ae ⟨z, y, x, rfl⟩
 cases hm
 refine G ?_
 exact fr
theorem Yy {w0 w : World} {s : PHeap} {H : List Res} {fu : Nat} {d : (List GTest)} {j : GState} {i : Value} {b c : Nat} {r : Int} (hm : J4 fu d j = some r) (hS : St w0 s (H) w) (ap : SliceRep encGTest s i d) (t : At s b c encGState j) :
  Calls Tryz.prog 117 #[i, Value.func (.func 98) #[] #[Value.pointer (some ⟨b, c, none⟩)]] w fun e w' => ∃ v, e = .returned v ∧ ((fun (ao : Int) => ∃ (o : PHeap) , PHeap.le s o ∧ St w0 o (H) w' ∧ v = O ao) r) := by
 unfold J4 at hm
 refine Ql Tryz.func117 Z Z ?_
 obtain ⟨l, x, af, ad, ab⟩ := Qu hm
 refine Zc (Zd (g ?_))
 refine Zc (Zc (Zd (g ?_)))
 refine Qs (M := fun f' w' => ∃ s', (l = .next s' ∨ l = .brk s') ∧ (fun (_ : Unit) => ∃ (p : PHeap) , PHeap.le s p ∧ St w0 p (H) w' ∧ Fx f' [(0, i), (1, Value.func (.func 98) #[] #[Vp (some ⟨b, c, none⟩)]), (7, O ((d.length : Int)))]) s') ?_ ?_
 ·refine G ?_
  refine QC (fun k' s' f' w' => (fun (_ : Unit) => ∃ (q : PHeap) , PHeap.le s q ∧ St w0 q (H) w' ∧ Fx f' [(8, O (k' : Int)), (0, i), (1, Value.func (.func 98) #[] #[Vp (some ⟨b, c, none⟩)]), (7, O ((d.length : Int)))]) s') x ?_ ?_ ?_
  ·exact fq
  ·intro a4 aD ar au aJ a3 y a ag
   obtain ⟨a9, ai, m, ⟨av, rfl⟩⟩ := y
   obtain ⟨aN, aj, a⟩ := Zg a
   refine G ?_
   refine QI Z Z Z aj ?_
   intro aq a8 u
   refine G ?_
   refine Zw (E := encGTest) m A128.h Z Z Z u ?_
   intro aI ak
   obtain ⟨aG, aH, rfl, am, an⟩ := YY.1 ak
   obtain ⟨aO, al, a⟩ := Zg a
   refine G ?_
   refine KR Z Z Tryz.func98 Z N98 (Zi Z Qx) Z ((QcD al m am an (t.mono ai)).mono ?_)
   rintro _ aK ⟨_, rfl, ⟨aA, a5, a0, rfl⟩⟩
   refine ⟨_, Z, ?_⟩
   refine G ?_
   rcases Qv a with ⟨ac, a⟩ | ⟨ac, a⟩
   ·cases a
    have ae := af _ (ag (by intro _ h; cases h))
    cases ae
    refine G ?_
    exact fr
   cases a
   refine G ?_
   exact ⟨_, Z, fq⟩
  intro aE aw aL z ah
  obtain ⟨aB, a6, a1, ⟨ax, rfl⟩⟩ := z
  refine G ?_
  exact ⟨_, .inl ah, fq⟩
 rintro ay aM ⟨aF, n, aa⟩
 have hm := n.elim (ad _) (ab _)
 clear n
 obtain ⟨aC, a7, a2, ⟨az, rfl⟩⟩ := aa
 cases hm
 refine G ?_
 exact fr
theorem Yf {w0 w : World} {s : PHeap} {H : List Res} {fu : Nat} {f : (List GTest)} {b : GState} {g : Value} {a c : Nat} {r : Bool} (hm : Jz fu f b = some r) (hS : St w0 s (H) w) (h : SliceRep encGTest s g f) (i : At s a c encGState b) :
  Calls Tryz.prog 97 #[g, Value.func (.func 98) #[] #[Value.pointer (some ⟨a, c, none⟩)]] w fun e w' => ∃ v, e = .returned v ∧ ((fun (k : Bool) => ∃ (d : PHeap) , PHeap.le s d ∧ St w0 d (H) w' ∧ v = Value.bool (k)) r) := by
 unfold Jz at hm
 refine Ql Tryz.func97 Z Z ?_
 obtain ⟨p, j, hm⟩ := Zg hm
 refine G ?_
 refine Tc Z Z Z Z (Yy j hS h i).r ?_
 rintro _ o ⟨n, m, l, rfl⟩
 cases hm
 refine G ?_
 exact fr
theorem QdU {w0 w : World} {s : PHeap} {H : List Res} {fu : Nat} {c : GState} {b : Cond} {i : Value} {j : Value} {o : Value} {p : Value} {q : Value} {r : Bool} (hm : Qbc fu c b = some r) (hS : St w0 s (H) w) (t : SliceRep (Qc .i64) s i c.True) (u : SliceRep (Qc .i64) s j c.Values) (an : SliceRep (Qc .i64) s o b.Pos) (x : SliceRep (Qc .i64) s p b.Neg) (z : SliceRep encGTest s q b.Tests) :
  Calls Tryz.prog 84 #[Value.agg #[i, j], Value.agg #[o, p, q]] w fun e w' => ∃ v, e = .returned v ∧ ((fun (am : Bool) => ∃ (m : PHeap) , PHeap.le s m ∧ St w0 m (H) w' ∧ v = Value.bool (am)) r) := by
 unfold Qbc at hm
 refine Ql Tryz.func84 Z Z (G ?_)
 refine JH Z Z ?_
 intro ao a6 av
 refine G ?_
 refine JH Z Z ?_
 intro ap a7 ab
 refine G ?_
 obtain ⟨al, ah, ac, h⟩ := QbW (E := encGState) (y := c) ab.f1 ⟨[i], [j], rfl, ⟨_, rfl, t⟩, ⟨_, rfl, u⟩⟩
 refine G ?_
 refine Exec.makeFunc Z (Zi Z Qx) (G ?_)
 refine Exec.alloc (cs := [Value.nilFunc]) ac Qlw Z Z ?_
 intro aq a8 aw
 refine G ?_
 refine Xst Z Z Z ?_
 intro a9 ad
 obtain ⟨k, a, hm⟩ := Zg hm
 refine g ?_
 refine Zc (Qs (M := fun f' w' => (fun (k : Bool) => ∃ (n : PHeap) , PHeap.le al n ∧ St w0 n (H) w' ∧ Fx f' [(4, Vb k)]) k) ?_ ?_)
 ·refine G ?_
  refine Exec.makeFunc Z (Zi Z Qx) ?_
  obtain ⟨aE, ai, a⟩ := Zg a
  refine G ?_
  refine Tc Z Z Z Z (Y6 ai ad rq h).r ?_
  rintro _ aA ⟨a2, l, ae, rfl⟩
  refine G ?_
  rcases Qv a with ⟨ag, a⟩ | ⟨ag, a⟩
  ·obtain ⟨aF, aj, a⟩ := Zg a
   refine G ?_
   refine Tc Z Z Z Z (Y7 aj ae (x.mono (Zt ah l)) (h.mono l)).r ?_
   rintro _ aB ⟨a3, az, af, rfl⟩
   refine G ?_
   rcases JV a with ⟨d, a⟩ | ⟨d, a⟩
   ·refine G ?_
    refine Exec.makeFunc Z (Zi Z Qx) ?_
    obtain ⟨aG, ak, a⟩ := Zg a
    refine G ?_
    refine Tc Z Z Z Z (Yf ak af (z.mono lq) (h.mono lq)).r ?_
    rintro _ aC ⟨a4, a0, ax, rfl⟩
    cases a
    refine G ?_
    exact fq
   replace d := Zk d
   cases a
   refine G ?_
   exact fq
  cases a
  refine G ?_
  exact fq
 intro ar aD aa
 obtain ⟨a5, a1, ay, ⟨au, rfl⟩⟩ := aa
 cases hm
 refine G ?_
 exact fr
theorem QdW {w0 w : World} {s : PHeap} {H : List Res} {fu : Nat} {b : Ground} {d : GState} {c : Cond} {k : Value} {l : Value} {m : Value} {n : Value} {o : Value} {p : Value} {q : Value} {t : Value} {u : Value} {x : Value} {r : Bool} (hm : Qbd fu b d c = some r) (hS : St w0 s (H) w) (y : SliceRep encAtom s k b.Atoms) (z : SliceRep encGFluent s l b.Fluents) (aa : SliceRep (Qc .i64) s m b.Init) (ab : SliceRep encCond s n b.Goal) (ac : SliceRep encGOp s o b.Ops) (aq : SliceRep (Qc .i64) s p d.True) (ar : SliceRep (Qc .i64) s q d.Values) (au : SliceRep (Qc .i64) s t c.Pos) (av : SliceRep (Qc .i64) s u c.Neg) (aw : SliceRep encGTest s x c.Tests) :
  Calls Tryz.prog 68 #[Value.agg #[k, l, m, n, o], Value.agg #[p, q], Value.agg #[t, u, x]] w fun e w' => ∃ v, e = .returned v ∧ ((fun (ap : Bool) => ∃ (i : PHeap) , PHeap.le s i ∧ St w0 i (H) w' ∧ v = Value.bool (ap)) r) := by
 unfold Qbd at hm
 refine Ql Tryz.func68 Z Z (G ?_)
 refine JH Z Z ?_
 intro ax aG a2
 refine G ?_
 refine JH Z Z ?_
 intro ay aH a3
 refine G ?_
 refine JH Z Z ?_
 intro az aI ae
 obtain ⟨h, a, hm⟩ := Zg hm
 refine g ?_
 refine Zc (Qs (M := fun f' w' => (fun (h : Bool) => ∃ (j : PHeap) , PHeap.le s j ∧ St w0 j (H) w' ∧ Fx f' [(6, Vb h)]) h) ?_ ?_)
 ·obtain ⟨aO, al, a⟩ := Zg a
  refine G ?_
  refine Tc Z Z Z Z (Kh al ae y z aa ab ac).r ?_
  rintro _ aJ ⟨aB, a6, af, rfl⟩
  refine G ?_
  rcases Qv a with ⟨ai, a⟩ | ⟨ai, a⟩
  ·obtain ⟨aP, am, a⟩ := Zg a
   refine G ?_
   refine Tc Z Z Z Z (Qbr am af rq rq rq rq rq rq rq).r ?_
   rintro _ aK ⟨aC, a7, ag, rfl⟩
   refine G ?_
   rcases Qv a with ⟨aj, a⟩ | ⟨aj, a⟩
   ·obtain ⟨aQ, an, a⟩ := Zg a
    refine G ?_
    refine Tc Z Z Z Z (K1 an ag rq rq rq rq rq rq rq rq).r ?_
    rintro _ aL ⟨aD, a8, ah, rfl⟩
    refine G ?_
    rcases Qv a with ⟨ak, a⟩ | ⟨ak, a⟩
    ·obtain ⟨aR, ao, a⟩ := Zg a
     refine G ?_
     refine Tc Z Z Z Z (QdU ao ah rq rq rq rq rq).r ?_
     rintro _ aM ⟨aE, a9, a4, rfl⟩
     cases a
     refine G ?_
     exact fq
    cases a
    refine G ?_
    exact fq
   cases a
   refine G ?_
   exact fq
  cases a
  refine G ?_
  exact fq
 intro a0 aN ad
 obtain ⟨aF, aA, a5, ⟨a1, rfl⟩⟩ := ad
 cases hm
 refine G ?_
 exact fr
theorem QdF {w0 w : World} {s : PHeap} {H : List Res} {fu : Nat} {a : Ground} {b : GState} {d : Value} {f : Value} {g : Value} {h : Value} {i : Value} {j : Value} {k : Value} {r : Bool} (hm : Qa9 fu a b = some r) (hS : St w0 s (H) w) (l : SliceRep encAtom s d a.Atoms) (m : SliceRep encGFluent s f a.Fluents) (n : SliceRep (Qc .i64) s g a.Init) (o : SliceRep encCond s h a.Goal) (p : SliceRep encGOp s i a.Ops) (q : SliceRep (Qc .i64) s j b.True) (t : SliceRep (Qc .i64) s k b.Values) :
  Calls Tryz.prog 41 #[Value.agg #[d, f, g, h, i], Value.agg #[j, k]] w fun e w' => ∃ v, e = .returned v ∧ ((fun (y : Bool) => ∃ (c : PHeap) , PHeap.le s c ∧ St w0 c (H) w' ∧ v = Value.bool (y)) r) := by
 unfold Qa9 at hm
 refine Ql Tryz.func41 Z Z (G ?_)
 refine JH Z Z ?_
 intro z af ab
 refine G ?_
 refine JH Z Z ?_
 intro aa ag u
 refine G ?_
 refine Exec.build Z Qg (v := Value.agg #[Vn, Vn, Vn]) (fun _ => by kernel_rfl) ?_
 obtain ⟨ai, x, hm⟩ := Zg hm
 refine G ?_
 refine Tc Z Z Z Z (QdW x u l m n o p q t (SliceRep.nil _ _) (SliceRep.nil _ _) (SliceRep.nil _ _)).r ?_
 rintro _ ah ⟨ae, ad, ac, rfl⟩
 cases hm
 refine G ?_
 exact fr
theorem QbJ {w0 w : World} {s : PHeap} {H : List Res} {fu : Nat} {ab : Ground} {c : Encoding} {ak : GState} {p : Value} {q : Value} {t : Value} {u : Value} {x : Value} {ac : Value} {ad : Value} {ae : Value} {af : Value} {ag : Value} {y : Value} {ah : Value} {l : Value} {z : Value} {r : (List Int) × (Option Int)} (hm : Qac fu ab c ak = some r) (hS : St w0 s (H) w) (a7 : SliceRep encAtom s p ab.Atoms) (au : SliceRep encGFluent s q ab.Fluents) (a8 : SliceRep (Qc .i64) s t ab.Init) (a9 : SliceRep encCond s u ab.Goal) (aA : SliceRep encGOp s x ab.Ops) (aV : SliceRep (Qc .i64) s ac c.Task.Vars) (aW : SliceRep (Qc .i64) s ad c.Task.Init) (aX : SliceRep encFact s ae c.Task.Goal) (aY : SliceRep encOp s af c.Task.Ops) (aB : SliceRep encFact s ag c.Atoms) (av : SliceRep (Qc .i64) s y c.Fluents) (aZ : SliceRep (Qc .i64) s ah c.Ops) (aw : SliceRep (Qc .i64) s l ak.True) (aC : SliceRep (Qc .i64) s z ak.Values) :
  Calls Tryz.prog 15 #[Value.agg #[p, q, t, u, x], Value.agg #[ac, ad, ae, af, ag, y, ah], Value.agg #[l, z]] w fun e w' => ∃ v, e = .returned v ∧ ((QO fun (cd : (List Int)) (ce : (Option Int)) => ∃ (a6 : PHeap) (aU : Value), PHeap.le s a6 ∧ St w0 a6 (H) w' ∧ v = Value.tuple #[aU, Qam 38 (ce)] ∧ SliceRep (Qc .i64) a6 aU cd) r) := by
 unfold Qac at hm
 refine Ql Tryz.func15 Z Z (G ?_)
 refine Exec.box (cs := [p, q, t, u, x]) hS Z Z Z ?_
 intro m cX bn
 refine G ?_
 refine Exec.box (cs := [ac, ad, ae, af, ag, y, ah]) bn Z Z Z ?_
 intro aa cY bo
 refine G ?_
 refine Exec.box (cs := [l, z]) bo Z Z Z ?_
 intro n cZ bp
 obtain ⟨al, d, hm⟩ := Zg hm
 refine g ?_
 refine Zc (Zc (Qs (M := fun f' w' => (fun (al : Bool) => ∃ (aO : PHeap) , PHeap.le s aO ∧ St w0 aO (Res.box m 44 [p, q, t, u, x] :: Res.box aa 29 [ac, ad, ae, af, ag, y, ah] :: Res.box n 58 [l, z] :: H) w' ∧ Fx f' [(3, Vq m), (4, Vq aa), (5, Vq n), (24, Vb al)]) al) ?_ ?_))
 ·obtain ⟨dw, bC, d⟩ := Zg d
  refine G ?_
  refine Tc Z Z Z (Zi Z (Zi Z Qx)) (Qe0 bC bp a7 au a8 a9 aA aV aW aX aY aB av aZ).r ?_
  rintro _ da ⟨bT, i, aH, rfl⟩
  refine G ?_
  rcases JV d with ⟨ay, d⟩ | ⟨ay, d⟩
  ·have cn := Zu d
   subst al
   refine G ?_
   exact ⟨bT, i, (aH.f1).f2, (Fx.mk)⟩
  replace ay := Zk ay
  obtain ⟨dx, bD, d⟩ := Zg d
  refine G ?_
  refine Tc Z Z Z (Zi Z (Zi Z Qx)) (QdF bD aH (a7.mono i) (au.mono i) (a8.mono i) (a9.mono i) (aA.mono i) (aw.mono i) (aC.mono i)).r ?_
  rintro _ db ⟨bU, bA, bq, rfl⟩
  have co := Zu d
  subst al
  refine G ?_
  exact ⟨bU, (Zt i bA), (bq.f1).f2, (Fx.mk)⟩
 intro cx dc bl
 obtain ⟨aq, j, aI, ⟨cy, rfl⟩⟩ := bl
 refine G ?_
 rcases JV hm with ⟨az, hm⟩ | ⟨az, hm⟩
 ·refine G ?_
  refine Exec.makeInterface C38 Z Z ?_
  have cp := Zu hm
  subst r
  refine G ?_
  refine ⟨_, Qbv Z, ?_⟩
  exact ⟨aq, Vn, j, ((aI.drop).drop).drop, (QfM Z Z), (SliceRep.nil _ _)⟩
 replace az := Zk az
 obtain ⟨cE, bE, hm⟩ := Zg hm
 refine G ?_
 refine Yg (E := (Qc .i64)) aI S22.h Z3 Z Z Z Z bE ?_
 intro ai dd br
 refine G ?_
 refine Kl (k := 3) (e := 4) br Z ?_
 intro aj de bs
 obtain ⟨aD, bf, b7, b5, b2⟩ := Qu hm
 refine g ?_
 refine Zc (Zc (Zd (g ?_)))
 refine Qs (M := fun f' w' => ∃ s', (aD = .next s' ∨ aD = .brk s') ∧ (QO fun (aM : (List Int)) (aN : Q0) => ∃ (aP : PHeap) , PHeap.le aq aP ∧ St w0 aP (Res.box m 44 [p, q, t, u, x] :: Res.box aa 29 [ac, ad, ae, af, ag, y, ah] :: Res.box n 58 [l, z] :: Res.arr (Qc .i64) 3 ai aM :: Res.bmap Tryz.prog 3 4 aj aN :: H) w' ∧ Fx f' [(3, Vq m), (4, Vq aa), (5, Vq n), (8, ai), (9, Value.map (some aj)), (33, l), (34, O ((ak.True.length : Int)))]) s') ?_ ?_
 ·refine G ?_
  refine QC (fun k' s' f' w' => (QO fun (a1 : (List Int)) (a2 : Q0) => ∃ (aQ : PHeap) , PHeap.le aq aQ ∧ St w0 aQ (Res.box m 44 [p, q, t, u, x] :: Res.box aa 29 [ac, ad, ae, af, ag, y, ah] :: Res.box n 58 [l, z] :: Res.arr (Qc .i64) 3 ai a1 :: Res.bmap Tryz.prog 3 4 aj a2 :: H) w' ∧ Fx f' [(35, O (k' : Int)), (3, Vq m), (4, Vq aa), (5, Vq n), (8, ai), (9, Value.map (some aj)), (33, l), (34, O ((ak.True.length : Int)))]) s') bf ?_ ?_ ?_
  ·have bt := bs.f1
   exact ⟨aq, (Zv _), ((bt.f4).f4).f4, (Fx.mk)⟩
  ·intro cC bY aE cz df b3 bh a b8
   obtain ⟨a1, a2⟩ := bY
   replace a := Q3 a
   obtain ⟨aR, an, ax, ⟨c0, rfl⟩⟩ := bh
   obtain ⟨dq, bF, a⟩ := Zg a
   refine G ?_
   refine QJ S22.h Z Z Z (aw.mono (Zt j an)) bF ?_
   intro cf cK ba
   refine G ?_
   refine Zw (E := (Qc .i64)) ax A3.h Z Z Z ba ?_
   intro cT bG
   obtain rfl := Qm.1 bG
   obtain ⟨ar, bH, a⟩ := Zg a
   refine G ?_
   refine QJ S24.h Z Z Z (aB.mono (Zt j an)) bH ?_
   intro cg cL bb
   refine G ?_
   refine Zw (E := encFact) ax A51.h Z Z Z bb ?_
   intro cU bI
   obtain rfl := Ju.1 bI
   refine G ?_
   refine Exec.alloc (cs := [O 0, O 0]) ax Z51 Z Z ?_
   intro ch dg bu
   refine G ?_
   refine Qe (ds := [O (ar.Var), O (ar.Val)]) (es := [O (ar.Var), O (ar.Val)]) bu A51.h Z Z Z Z (Zj Z (Zj Z Qk)) (Nat.le_of_ble_eq_true Z) Z ?_
   intro dh o
   obtain ⟨cP, bJ, a⟩ := Zg a
   refine G ?_
   refine Exec.bmap_get (o.f5) ⟨Tryz.underlying100, Tryz.underlying3, Tryz.underlying4⟩ Z4 Z Z Z bJ (G ?_)
   rcases JV a with ⟨a0, a⟩ | ⟨a0, a⟩
   ·refine G ?_
    refine Exec.makeInterface C38 Z Z ?_
    have cq := Zu a
    subst aE
    have b6 := b7 _ (b8 (by intro _ h; cases h))
    have cr := Zu b6
    subst r
    refine G ?_
    refine ⟨_, Qbv Z, ?_⟩
    exact ⟨aR, Vn, (Zt j an), (((((o.drop).drop).drop).drop).drop).drop, (QfM Z Z), (SliceRep.nil _ _)⟩
   replace a0 := Zk a0
   refine G ?_
   refine KM (n0 := 10) (qs 0 9 (.e 9 [3, 4, 5] .done)) KL (by kernel_rfl) (by kernel_rfl) (G ?_)
   refine Zn (o.drew) A3.h Z Z Z ⟨Z, ?_⟩
   refine G ?_
   refine Zn (o.drew) A3.h Z Z Z ⟨Z, ?_⟩
   refine G ?_
   refine Zn (o.drew) A3.h Z Z Z ⟨Z, ?_⟩
   obtain ⟨dr, a4, a⟩ := Zg a
   obtain ⟨c9, cl, aF⟩ := ((o.drew).f4).arr_at a4
   refine G ?_
   refine Qn S22.h Z aF Z (Qr a4).1 (Qr a4).2.1 ⟨Z, ?_⟩
   obtain ⟨cF, bK, a⟩ := Zg a
   refine G ?_
   refine Js (o.drew).f4 aF A3.h Z Z Z Z (Qm.2 Z) bK ?_
   intro di aJ
   refine ⟨(Qa (U Z Z (Zm (v := Value.map (some aj)) Z Z ⟨Z, Z⟩)) (Qa (U Z Z (Zp F51_0.h Z Z Z ⟨Z, Z⟩)) (Qa (U Z Z (Zn (aJ.f1) A3.h Z Z Z ⟨Z, Z⟩)) Qi))), ?_⟩
   obtain ⟨cJ, bL, a⟩ := Zg a
   refine G ?_
   refine Kg aJ.f5 ⟨Tryz.underlying100, Tryz.underlying3, Tryz.underlying4⟩ Z Z Z Z bL ?_
   intro dj bv
   have ct := Zu a
   subst aE
   refine G ?_
   refine ⟨_, Z, ?_⟩; exact ⟨aR, an, (((((bv.f2).drop).f1).f4).f4).f4, (Fx.mk (FxL.cons (J5 b3 (SliceRep.le (aw.mono j))) fxl))⟩
  intro bZ c1 dk bi b9
  obtain ⟨a1, a2⟩ := bZ
  obtain ⟨bV, bB, bw, ⟨c2, rfl⟩⟩ := bi
  refine G ?_
  refine ⟨_, .inl b9, ?_⟩; exact ⟨bV, bB, ((((bw.f4).f4).f4).f4).f4, (Fx.mk)⟩
 rintro c3 dl ⟨ca, aL, bm⟩
 have hm := aL.elim (b5 _) (b2 _)
 clear aL
 obtain ⟨aM, aN⟩ := ca
 replace hm := Q3 hm
 obtain ⟨aS, ao, bx, ⟨c4, rfl⟩⟩ := bm
 obtain ⟨a3, bg, hm⟩ := Zg hm
 refine G ?_
 refine QS (fun k' s' f' w' => (fun (a3 : (List Int)) => ∃ (aT : PHeap) , PHeap.le aS aT ∧ St w0 aT (Res.box m 44 [p, q, t, u, x] :: Res.box n 58 [l, z] :: Res.arr (Qc .i64) 3 ai a3 :: H) w' ∧ Fx f' [(62, O (k' : Int)), (3, Vq m), (5, Vq n), (8, ai), (60, y), (61, O ((c.Fluents.length : Int)))]) s') bg ?_ ?_ ?_
 ·have bz := (bx.f1).drop
  exact ⟨aS, (Zv _), ((((bz.f3).drop).f2).f2).f2, (Fx.mk)⟩
 ·intro cD a3 bW c5 dm b4 bj b
  obtain ⟨bX, ap, aK, ⟨c6, rfl⟩⟩ := bj
  obtain ⟨dt, bM, b⟩ := Zg b
  refine G ?_
  refine QJ S22.h Z Z Z (av.mono (Zt (Zt j ao) ap)) bM ?_
  intro ci cM bc
  refine G ?_
  refine Zw (E := (Qc .i64)) aK A3.h Z Z Z bc ?_
  intro cV bN
  obtain rfl := Qm.1 bN
  refine G ?_
  refine KM (n0 := 14) (qs 0 14 .done) KL (by kernel_rfl) (by kernel_rfl) ?_
  have am := aK.drew
  obtain ⟨du, bO, b⟩ := Zg b
  refine G ?_
  refine Q1 S22.h Z Z Z (aC.mono (Zt (Zt j ao) ap)) bO ?_
  intro cj cN bd cu
  refine ⟨Z, ?_⟩
  refine G ?_
  refine Zw (E := (Qc .i64)) am A3.h Z Z Z bd ?_
  intro cW bP
  obtain rfl := Qm.1 bP
  refine ⟨Z, ?_⟩
  obtain ⟨cc, bQ, b⟩ := Zg b
  refine G ?_
  refine Q1 S40.h Z Z Z (au.mono (Zt (Zt j ao) ap)) bQ ?_
  intro ck cO be cv
  refine ⟨Z, ?_⟩
  refine G ?_
  refine Zw (E := (Qc .i64)) am A3.h Z Z Z (be.sub (Sub.iso (QD (Sub.fst (Sub.refl _)) Z)) Z) ?_
  intro cb bR
  obtain rfl : cb = O (cc.Lo) := Qm.1 bR
  refine ⟨Z, ?_⟩
  obtain ⟨dv, a5, b⟩ := Zg b
  obtain ⟨cA, cm, aG⟩ := (am.f2).arr_at a5
  refine G ?_
  refine Qn S22.h Z aG Z (Qr a5).1 (Qr a5).2.1 ?_
  obtain ⟨cG, bS, b⟩ := Zg b
  refine G ?_
  refine Js am.f2 aG A3.h Z Z Z Z (Qm.2 Z) bS ?_
  intro dn b0
  have cw := Zu b
  subst bW
  refine G ?_
  exact ⟨bX, ap, (b0.f2).f2, (Fx.mk (FxL.cons (J5 b4 (SliceRep.le (av.mono (Zt j ao)))) fxl))⟩
 intro c7 dp bk
 obtain ⟨cR, cH, b1, ⟨c8, rfl⟩⟩ := bk
 cases hm
 refine G ?_
 refine ⟨_, Qbv Z, ?_⟩
 obtain ⟨cS, cI, cB, cQ⟩ := b1.f2.freezeArr
 exact fq
theorem Qf0 {w0 w : World} {s : PHeap} {H : List Res} {b : (List Int)} {m : (List Int)} {i : Value} {j : Value} {r : Bool} (hm : Qcq b m = some r) (hS : St w0 s (H) w) (l : SliceRep (Qc .i64) s i b) (y : SliceRep (Qc .i64) s j m) :
  Calls Tryz.prog 8 #[i, j] w fun e w' => ∃ v, e = .returned v ∧ ((fun (au : Bool) => ∃ (q : PHeap) , PHeap.le s q ∧ St w0 q (H) w' ∧ v = Value.bool (au)) r) := by
 unfold Qcq at hm
 refine Ql Tryz.func8 Z Z (G ?_)
 rcases Qv hm with ⟨o, hm⟩ | ⟨o, hm⟩
 ·cases hm
  refine G ?_
  exact fr
 obtain ⟨n, ac, al, aj, ag⟩ := Qu hm
 refine W_c Z o (Qbk (JG (Ze (Zc (Zc (Zd (g ?_)))))))
 refine Qs (M := fun f' w' => ∃ s', (n = .next s' ∨ n = .brk s') ∧ (fun (_ : Unit) => ∃ (t : PHeap) , PHeap.le s t ∧ St w0 t (H) w' ∧ Fx f' [(0, i), (1, j), (12, O ((b.length : Int)))]) s') ?_ ?_
 ·refine G ?_
  refine QC (fun k' s' f' w' => (fun (_ : Unit) => ∃ (u : PHeap) , PHeap.le s u ∧ St w0 u (H) w' ∧ Fx f' [(13, O (k' : Int)), (0, i), (1, j), (12, O ((b.length : Int)))]) s') ac ?_ ?_ ?_
  ·exact fq
  ·intro a8 aF ab a0 aK ai ad a am
   obtain ⟨x, d, c, ⟨a1, rfl⟩⟩ := ad
   refine G ?_
   refine KM (n0 := 9) (qs 0 9 .done) KL (by kernel_rfl) (by kernel_rfl) ?_
   obtain ⟨aN, ao, a⟩ := Zg a
   refine G ?_
   refine Q1 S22.h Z Z Z (l.mono d) ao ?_
   intro av aB z ax
   refine ⟨Z, ?_⟩
   refine G ?_
   refine Zw (E := (Qc .i64)) c.drew A3.h Z Z Z z ?_
   intro aI ap
   obtain rfl := Qm.1 ap
   refine ⟨Z, ?_⟩
   obtain ⟨aO, aq, a⟩ := Zg a
   refine G ?_
   refine Q1 S22.h Z Z Z (y.mono d) aq ?_
   intro aw aC aa ay
   refine ⟨Z, ?_⟩
   refine G ?_
   refine Zw (E := (Qc .i64)) c.drew A3.h Z Z Z aa ?_
   intro aJ ar
   obtain rfl := Qm.1 ar
   refine ⟨Z, ?_⟩
   refine G ?_
   rcases Qv a with ⟨ah, a⟩ | ⟨ah, a⟩
   ·cases a
    have ak := al _ (am (by intro _ h; cases h))
    cases ak
    refine G ?_
    refine ⟨_, Qa5 Z, ?_⟩
    exact ⟨x, d, c.drew, Z⟩
   have az := Zu a
   subst ab
   refine G ?_
   refine ⟨_, Z, ?_⟩; exact ⟨x, d, c.drew, (Fx.mk (FxL.cons (J5 ai (SliceRep.le l)) fxl))⟩
  intro aG a2 aL ae an
  obtain ⟨aD, a9, a6, ⟨a3, rfl⟩⟩ := ae
  refine G ?_
  exact ⟨_, .inl an, fq⟩
 rintro a4 aM ⟨aH, p, af⟩
 have hm := p.elim (aj _) (ag _)
 clear p
 obtain ⟨aE, aA, a7, ⟨a5, rfl⟩⟩ := af
 cases hm
 refine G ?_
 exact fr
theorem Qcb {w0 w : World} {s : PHeap} {H : List Res} {fu : Nat} {r : Bool} (hm : K3 fu = some r) (hS : St w0 s (H) w) :
  Calls Tryz.prog 5 #[] w fun e w' => ∃ v, e = .returned v ∧ ((fun (bn : Bool) => ∃ (ah : PHeap) , PHeap.le s ah ∧ St w0 ah (H) w' ∧ v = Value.bool (bn)) r) := by
 unfold K3 at hm
 refine Ql Tryz.func5 Z Z (G ?_)
 refine Tc Z Z Z Qx (Qat Qas hS).r ?_
 rintro _ cI ⟨cl, cy, cz, c0, c1, c2, b7, ar, rfl, bP, bQ, bR, bS, bT⟩
 refine G ?_
 refine Exec.buildSlice (Te := 3) (cs := [O 0, O 1]) ar Z (Qd (c := [O 0]) (Qf Z Z) (Qd (c := [O 1]) (Qf Z Z) Qg)) (fun _ => by kernel_rfl) ?_
 intro t cJ au
 have av := St.boxArr (E := (Qc .i64)) (xs := [0, 1]) au ⟨[O 0], [O 1], rfl, rfl, ⟨[O 1], [], rfl, rfl, rfl⟩⟩ (by simp [maxLen])
 obtain ⟨cm, b8, aw, aV⟩ := av.freezeArr
 refine G ?_
 refine Exec.buildSlice (Te := 22) (cs := [Vs (some ⟨t, 0, none⟩) 2 2]) aw Z (Qd (c := [Vs (some ⟨t, 0, none⟩) 2 2]) (Qf Z Z) Qg) (fun _ => by kernel_rfl) ?_
 intro bq cK ax
 have ay := St.boxArr (E := (Qp (Qc .i64))) (xs := [[0, 1]]) ax ⟨[Vs (some ⟨t, 0, none⟩) 2 2], [], rfl, ⟨_, rfl, aV⟩, rfl⟩ (by simp [maxLen])
 obtain ⟨cn, b9, az, aW⟩ := ay.freezeArr
 obtain ⟨bh, aL, hm⟩ := Zg hm
 obtain ⟨da, db⟩ := bh
 replace hm := Q3 hm
 refine G ?_
 refine Tc Z Z Z Z (Qaj aL az rq rq rq rq rq aW).r ?_
 rintro _ cL ⟨be, j, k, l, m, n, o, p, bA, a0, rfl, bU, bV, bW, bX, bY, bZ, ca⟩
 refine G ?_
 refine Exec.alloc (cs := [Vn, Vn, Vn, Vn, Vn, Vn, Vn]) a0 Z29 Z Z ?_
 intro d cM b3
 refine G ?_
 refine Xst Z Z Z ?_
 intro cN ac
 obtain ⟨z, a, hm⟩ := Zg hm
 refine g ?_
 refine Zc (Zc (Qs (M := fun f' w' => (fun (z : Bool) => ∃ (ai : PHeap) , PHeap.le be ai ∧ St w0 ai (Res.box d 29 [j, k, l, m, n, o, p] :: H) w' ∧ Fx f' [(1, Vq d), (50, Vb z)]) z) ?_ ?_))
 ·refine G ?_
  refine KD (T := 38) Tryz.underlying31 Z Z Z (G ?_)
  rcases Qv a with ⟨aC, a⟩ | ⟨aC, a⟩
  ·cases a
   refine G ?_
   exact fq
  refine G ?_
  rcases Qv a with ⟨aD, a⟩ | ⟨aD, a⟩
  ·cases a
   refine G ?_
   exact fq
  obtain ⟨cZ, aM, a⟩ := Zg a
  refine G ?_
  refine QI Z Z Z aM ?_
  intro br bL ak
  refine G ?_
  refine Zw (E := (Qc .i64)) ac A3.h Z Z Z ak ?_
  intro c3 aN
  obtain rfl := Qm.1 aN
  refine G ?_
  rcases Qv a with ⟨aE, a⟩ | ⟨aE, a⟩
  ·cases a
   refine G ?_
   exact fq
  refine G ?_
  rcases Qv a with ⟨aF, a⟩ | ⟨aF, a⟩
  ·cases a
   refine G ?_
   exact fq
  obtain ⟨bk, aO, a⟩ := Zg a
  refine G ?_
  refine QI Z Z Z aO ?_
  intro bs bM al
  refine G ?_
  refine Zw (E := (Qp encEffect)) ac A53.h Z Z Z (al.sub (Sub.iso (QD (QD (QD (Sub.refl _) Z) Z) Z)) Z) ?_
  intro c4 aP
  have cb : SliceRep _ _ _ (bk.Effs) := QG.1 aP
  refine G ?_
  rcases Qv a with ⟨aG, a⟩ | ⟨aG, a⟩
  ·cases a
   refine G ?_
   exact fq
  cases a
  refine G ?_
  exact fq
 intro bw cO ao
 obtain ⟨bf, bB, u, ⟨bx, rfl⟩⟩ := ao
 refine G ?_
 rcases Qv hm with ⟨af, hm⟩ | ⟨af, hm⟩
 ·cases hm
  refine G ?_
  exact fr
 obtain ⟨bi, ag, hm⟩ := Zg hm
 obtain ⟨bo, bp⟩ := bi
 replace hm := Q3 hm
 refine W_c Z af (Qbk (JG (Ze (Zc (Qs (M := fun f' w' => ∃ (x : PHeap) (y : Value), PHeap.le bf x ∧ St w0 x (Res.box d 29 [j, k, l, m, n, o, p] :: H) w' ∧ Fx f' [(1, Vq d), (2, Qam 38 (bp)), (3, y)] ∧ SliceRep (Qc .i64) x y bo) ?_ ?_)))))
 ·refine KM (n0 := 9) (.q 1 (.alt (.e 0 [1] (.e 2 [1] (.q 3 (.e 4 [] (qs 5 4 .done))))) (.e 2 [1] (.q 3 (.e 0 [1, 3] (.e 4 [] (qs 5 4 .done))))))) KL (by kernel_rfl) (by kernel_rfl) (G ?_)
  refine Jy (ds := [j, k, l, m, n, o, p]) (u.drew) A29.h Z Z Z ⟨Z, ?_⟩
  refine QH ?_ ?_
  ·refine G ?_
   refine Tc Z Z Z Qx (Qat Qas u.drew).r ?_
   rintro _ cP ⟨co, c5, c6, c7, c8, c9, bC, a1, rfl, cc, cd, ce, cf, cg⟩
   refine ⟨agq, ?_⟩
   refine G ?_
   refine Exec.buildSlice (Te := 3) (cs := [O 1, O 2]) a1 Z (Qd (c := [O 1]) (Qf Z Z) (Qd (c := [O 2]) (Qf Z Z) Qg)) (fun _ => by kernel_rfl) ?_
   intro ab cQ a2
   have a3 := St.boxArr (E := (Qc .i64)) (xs := [1, 2]) a2 ⟨[O 1], [O 2], rfl, rfl, ⟨[O 2], [], rfl, rfl, rfl⟩⟩ (by simp [maxLen])
   obtain ⟨cp, bD, a4, aX⟩ := a3.freezeArr
   refine ⟨agq, ?_⟩
   refine G ?_
   refine Exec.build Z (Qd (c := [Vs (some ⟨ab, 0, none⟩) 2 2]) (Qf Z Z) Qg) (v := Value.agg #[Vs (some ⟨ab, 0, none⟩) 2 2, Vn]) (fun _ => by kernel_rfl) ⟨Z, ?_⟩
   refine G ?_
   refine Tc Z Z Z Z (QbJ ag a4 rq rq rq rq rq rq rq rq rq rq rq rq aX (SliceRep.nil _ _)).r ?_
   rintro _ cR ⟨cq, cA, bE, b4, rfl, ch⟩
   refine ⟨agq, ?_⟩
   refine G ?_
   exact fq
  refine G ?_
  refine Exec.buildSlice (Te := 3) (cs := [O 1, O 2]) u.drew Z (Qd (c := [O 1]) (Qf Z Z) (Qd (c := [O 2]) (Qf Z Z) Qg)) (fun _ => by kernel_rfl) ?_
  intro i cS a5
  have a6 := St.boxArr (E := (Qc .i64)) (xs := [1, 2]) a5 ⟨[O 1], [O 2], rfl, rfl, ⟨[O 2], [], rfl, rfl, rfl⟩⟩ (by simp [maxLen])
  obtain ⟨cr, bF, a7, ci⟩ := a6.freezeArr
  refine ⟨agq, ?_⟩
  refine G ?_
  refine Exec.build Z (Qd (c := [Vs (some ⟨i, 0, none⟩) 2 2]) (Qf Z Z) Qg) (v := Value.agg #[Vs (some ⟨i, 0, none⟩) 2 2, Vn]) (fun _ => by kernel_rfl) ⟨Z, ?_⟩
  refine G ?_
  refine Tc Z Z Z Qx (Qat Qas a7).r ?_
  rintro _ cT ⟨ct, cB, cC, cD, cE, cF, bG, ad, rfl, aY, aZ, ba, bb, bc⟩
  refine ⟨(Qa (U Z Z (Jy (ds := [j, k, l, m, n, o, p]) (ad) A29.h Z Z Z ⟨Z, Z⟩)) (Qa (U Z Z (Exec.build Z (Qd (c := [Vs (some ⟨i, 0, none⟩) 2 2]) (Qf Z Z) Qg) (v := Value.agg #[Vs (some ⟨i, 0, none⟩) 2 2, Vn]) (fun _ => by kernel_rfl) ⟨Z, Z⟩)) Qi)), ?_⟩
  refine G ?_
  refine Tc Z Z Z Z (QbJ ag ad aY aZ ba bb bc rq rq rq rq rq rq rq rq (SliceRep.nil _ _)).r ?_
  rintro _ cU ⟨cu, cG, bH, b5, rfl, cj⟩
  refine ⟨agq, ?_⟩
  refine G ?_
  exact fq
 intro bz cV ap
 obtain ⟨bg, y, bI, a8, ⟨b0, rfl⟩, aJ⟩ := ap
 obtain ⟨aa, b, hm⟩ := Zg hm
 refine g ?_
 refine Zc (Qs (M := fun f' w' => (fun (aa : Bool) => ∃ (aj : PHeap) , PHeap.le bg aj ∧ St w0 aj (H) w' ∧ Fx f' [(0, Vb aa)]) aa) ?_ ?_)
 ·refine G ?_
  refine Y1 (T := 38) Tryz.underlying31 Z Z Z (G ?_)
  rcases Qv b with ⟨aH, b⟩ | ⟨aH, b⟩
  ·refine G ?_
   refine Exec.buildSlice (Te := 3) (cs := [O 2, O 1]) a8 Z (Qd (c := [O 2]) (Qf Z Z) (Qd (c := [O 1]) (Qf Z Z) Qg)) (fun _ => by kernel_rfl) ?_
   intro bt cW a9
   have aA := St.boxArr (E := (Qc .i64)) (xs := [2, 1]) a9 ⟨[O 2], [O 1], rfl, rfl, ⟨[O 1], [], rfl, rfl, rfl⟩⟩ (by simp [maxLen])
   obtain ⟨cv, aK, aB, bd⟩ := aA.freezeArr
   obtain ⟨dc, aQ, b⟩ := Zg b
   refine G ?_
   refine Tc Z Z Z Z (Qf0 aQ aB (aJ.mono aK) bd).r ?_
   rintro _ cX ⟨cw, bJ, ae, rfl⟩
   refine G ?_
   rcases Qv b with ⟨aI, b⟩ | ⟨aI, b⟩
   ·obtain ⟨bl, aR, b⟩ := Zg b
    refine G ?_
    refine QI Z Z Z aR ?_
    intro bu bN am
    refine G ?_
    refine Zw (E := (Qp encEffect)) ae A53.h Z Z Z (am.sub (Sub.iso (QD (QD (QD (Sub.refl _) Z) Z) Z)) Z) ?_
    intro cH aS
    have ck : SliceRep _ _ _ (bl.Effs) := QG.1 aS
    obtain ⟨bm, aT, b⟩ := Zg b
    refine G ?_
    refine QI Z Z Z aT ?_
    intro bv bO an
    refine G ?_
    refine Zw (E := (Qc .i64)) ae A3.h Z Z Z (an.sub (Sub.iso (QD (QD (Sub.refl _) Z) Z)) Z) ?_
    intro bj aU
    obtain rfl : bj = O (bm.Val) := Qm.1 aU
    cases b
    refine G ?_
    exact fq
   cases b
   refine G ?_
   exact fq
  cases b
  refine G ?_
  exact fq
 intro b1 cY aq
 obtain ⟨cx, bK, b6, ⟨b2, rfl⟩⟩ := aq
 cases hm
 refine G ?_
 exact fr
theorem Qax {w0 w : World} {s : PHeap} {H : List Res} {b : (List Int)} {c : Int} {d : Value} {r : Bool} (hm : KI b c = some r) (hS : St w0 s (H) w) (ai : SliceRep (Qc .i64) s d b) :
  Calls Tryz.prog 38 #[d, O c] w fun e w' => ∃ v, e = .returned v ∧ ((fun (ah : Bool) => ∃ (l : PHeap) , PHeap.le s l ∧ St w0 l (H) w' ∧ v = Value.bool (ah)) r) := by
 unfold KI at hm
 refine Ql Tryz.func38 Z Z ?_
 obtain ⟨i, p, ac, aa, y⟩ := Qu hm
 refine Zc (Zd (g ?_))
 refine Zc (Zc (Zd (g ?_)))
 refine Qs (M := fun f' w' => ∃ s', (i = .next s' ∨ i = .brk s') ∧ (fun (_ : Unit) => ∃ (m : PHeap) , PHeap.le s m ∧ St w0 m (H) w' ∧ Fx f' [(0, d), (1, O c), (7, O ((b.length : Int)))]) s') ?_ ?_
 ·refine G ?_
  refine QC (fun k' s' f' w' => (fun (_ : Unit) => ∃ (n : PHeap) , PHeap.le s n ∧ St w0 n (H) w' ∧ Fx f' [(8, O (k' : Int)), (0, d), (1, O c), (7, O ((b.length : Int)))]) s') p ?_ ?_ ?_
  ·exact fq
  ·intro aw a4 ak al a8 av q a ad
   obtain ⟨a1, ax, x, ⟨am, rfl⟩⟩ := q
   obtain ⟨aB, af, a⟩ := Zg a
   refine G ?_
   refine QI Z Z Z af ?_
   intro aj a0 o
   refine G ?_
   refine Zw (E := (Qc .i64)) x A3.h Z Z Z o ?_
   intro a7 ag
   obtain rfl := Qm.1 ag
   refine G ?_
   rcases Qv a with ⟨z, a⟩ | ⟨z, a⟩
   ·cases a
    have ab := ac _ (ad (by intro _ h; cases h))
    cases ab
    refine G ?_
    exact fr
   cases a
   refine G ?_
   exact ⟨_, Z, fq⟩
  intro a5 an a9 t ae
  obtain ⟨a2, ay, ar, ⟨ao, rfl⟩⟩ := t
  refine G ?_
  exact ⟨_, .inl ae, fq⟩
 rintro ap aA ⟨a6, j, u⟩
 have hm := j.elim (aa _) (y _)
 clear j
 obtain ⟨a3, az, au, ⟨aq, rfl⟩⟩ := u
 cases hm
 refine G ?_
 exact fr
theorem Qeu {w0 w : World} {s : PHeap} {H : List Res} {b : (List Int)} {d : Int} {c : Value} {r : Bool} (hm : Qay b d = some r) (hS : St w0 s (Res.arr (Qc .i64) 3 c b :: H) w) :
  Calls Tryz.prog 38 #[c, O d] w fun e w' => ∃ v, e = .returned v ∧ ((fun (ak : Bool) => ∃ (o : PHeap) , PHeap.le s o ∧ St w0 o (Res.arr (Qc .i64) 3 c b :: H) w' ∧ v = Value.bool (ak)) r) := by
 unfold Qay at hm
 refine Ql Tryz.func38 Z Z (G ?_)
 refine Q2 (hS) S22.h Z Z ?_
 obtain ⟨l, t, ae, ac, z⟩ := Qu hm
 refine g ?_
 refine Qs (M := fun f' w' => ∃ s', (l = .next s' ∨ l = .brk s') ∧ (fun (_ : Unit) => ∃ (p : PHeap) , PHeap.le s p ∧ St w0 p (Res.arr (Qc .i64) 3 c b :: H) w' ∧ Fx f' [(0, c), (1, O d), (7, O ((b.length : Int)))]) s') ?_ ?_
 ·refine G ?_
  refine QC (fun k' s' f' w' => (fun (_ : Unit) => ∃ (q : PHeap) , PHeap.le s q ∧ St w0 q (Res.arr (Qc .i64) 3 c b :: H) w' ∧ Fx f' [(8, O (k' : Int)), (0, c), (1, O d), (7, O ((b.length : Int)))]) s') t ?_ ?_ ?_
  ·exact fq
  ·intro ay a3 al an a7 ab u a af
   obtain ⟨aj, ah, j, ⟨ao, rfl⟩⟩ := u
   obtain ⟨aA, i, a⟩ := Zg a
   obtain ⟨av, am, m⟩ := j.arr_at i
   refine G ?_
   refine Qn S22.h Z m Z (Qr i).1 (Qr i).2.1 (G ?_)
   refine Qz (F := (Qc .i64)) (j) m A3.h Z Z Z i (Sub.refl _) ?_
   intro a6 ai
   obtain rfl := Qm.1 ai
   refine G ?_
   rcases Qv a with ⟨aa, a⟩ | ⟨aa, a⟩
   ·cases a
    have ad := ae _ (af (by intro _ h; cases h))
    cases ad
    refine G ?_
    exact fr
   cases a
   refine G ?_
   refine ⟨_, Z, ?_⟩; exact ⟨aj, ah, j, (Fx.mk (FxL.cons (J5 ab hS.arr_le) fxl))⟩
  intro a4 ap a8 x ag
  obtain ⟨a1, az, aw, ⟨aq, rfl⟩⟩ := x
  refine G ?_
  exact ⟨_, .inl ag, fq⟩
 rintro ar a9 ⟨a5, n, y⟩
 have hm := n.elim (ac _) (z _)
 clear n
 obtain ⟨a2, a0, ax, ⟨au, rfl⟩⟩ := y
 cases hm
 refine G ?_
 exact fr
theorem QaE {w0 w : World} {s : PHeap} {H : List Res} {a : GOp} {ah : (List GChange)} {p : Int} {z : (List Int)} {aG : Value} {aH : Value} {aI : Value} {aJ : Value} {aK : Value} {x : Value} {t : Value} {r : (List Int) × (List Int) × Bool} (hm : J6 a ah p z = some r) (hS : St w0 s (H) w) (af : SliceRep (Qc .i64) s aG a.Pre.Pos) (ag : SliceRep (Qc .i64) s aH a.Pre.Neg) (cf : SliceRep encGTest s aI a.Pre.Tests) (cg : SliceRep encGChange s aJ a.Changes) (ch : SliceRep encGAssign s aK a.Assigns) (aw : SliceRep encGChange s x ah) (ci : SliceRep (Qc .i64) s t z) :
  Calls Tryz.prog 66 #[Value.agg #[Value.string (a.Name), O (a.Cost), aG, aH, aI, aJ, aK], x, O p, t] w fun e w' => ∃ v, e = .returned v ∧ ((un3 fun (cc : (List Int)) (cd : (List Int)) (ce : Bool) => ∃ (ac : PHeap) (aL : Value) (aM : Value), PHeap.le s ac ∧ St w0 ac (H) w' ∧ v = Value.tuple #[aL, aM, Value.bool (ce)] ∧ SliceRep (Qc .i64) ac aL cc ∧ SliceRep (Qc .i64) ac aM cd) r) := by
 unfold J6 at hm
 refine Ql Tryz.func66 Z Z (G ?_)
 refine JH Z Z ?_
 intro cj dH aa
 obtain ⟨bB, ao, hm⟩ := Zg hm
 obtain ⟨bC, ap, hm⟩ := Zg hm
 refine g ?_
 refine Zc (Qs (M := fun f' w' => ∃ (a8 : PHeap) (aq : Value) (ar : Value), PHeap.le s a8 ∧ St w0 a8 (Res.arr (Qc .i64) 3 aq bB :: Res.arr (Qc .i64) 3 ar bC :: H) w' ∧ Fx f' [(1, x), (2, O p), (3, t), (11, aq), (12, ar)]) ?_ ?_)
 ·refine KM (n0 := 11) (qs 1 3 (qs 6 3 (.alt (.e 0 [1, 2, 3, 6, 7, 8] (.alt (.e 4 [6, 7, 8] (.e 5 [6, 7, 8] (.e 9 [] (.q 10 .done)))) (.e 5 [1, 2, 3, 6, 7, 8] (.e 4 [6, 7, 8] (.e 9 [] (.q 10 .done)))))) (.e 5 [1, 2, 3, 6, 7, 8] (.e 0 [1, 2, 3, 6, 7, 8] (.e 4 [6, 7, 8] (.e 9 [] (.q 10 .done)))))))) KL (by kernel_rfl) (by kernel_rfl) (G ?_)
  refine Zn (aa.drew) A22.h Z Z Z ⟨Z, ?_⟩
  refine G ?_
  refine Zn (aa.drew) A22.h Z Z Z ⟨Z, ?_⟩
  refine QH ?_ ?_
  ·refine G ?_
   refine Exec.buildSlice (Te := 3) (cs := []) aa.drew Z Qg (fun _ => by kernel_rfl) ?_
   intro ck dI az
   refine ⟨agq, ?_⟩
   refine QH ?_ ?_
   ·have be := St.boxArr (E := (Qc .i64)) (xs := []) az rfl (by simp [maxLen])
    refine G ?_
    refine QY (E := (Qc .i64)) (ys := a.Pre.Pos) be S22.h Z3 Z (by decide) Z Z Z af ao ?_
    intro d4 dJ bf
    refine ⟨agq, ?_⟩
    refine G ?_
    refine Exec.buildSlice (Te := 3) (cs := []) bf Z Qg (fun _ => by kernel_rfl) ?_
    intro cl dK bg
    refine ⟨agq, ?_⟩
    have bh := St.boxArr (E := (Qc .i64)) (xs := []) bg rfl (by simp [maxLen])
    refine G ?_
    refine QY (E := (Qc .i64)) (ys := a.Pre.Neg) bh S22.h Z3 Z (by decide) Z Z Z ag ap ?_
    intro d5 dL cH
    refine ⟨agq, ?_⟩
    refine G ?_
    exact fq
   refine G ?_
   refine Exec.buildSlice (Te := 3) (cs := []) az Z Qg (fun _ => by kernel_rfl) ?_
   intro cm dM bi
   refine ⟨agq, ?_⟩
   have bj := St.boxArr (E := (Qc .i64)) (xs := []) bi.f1 rfl (by simp [maxLen])
   refine G ?_
   refine QY (E := (Qc .i64)) (ys := a.Pre.Pos) bj S22.h Z3 Z (by decide) Z Z Z af ao ?_
   intro d6 dN bk
   refine ⟨agq, ?_⟩
   have bl := St.boxArr (E := (Qc .i64)) (xs := []) bk.f1 rfl (by simp [maxLen])
   refine G ?_
   refine QY (E := (Qc .i64)) (ys := a.Pre.Neg) bl S22.h Z3 Z (by decide) Z Z Z ag ap ?_
   intro d7 dO cI
   refine ⟨agq, ?_⟩
   refine G ?_
   exact fq
  refine G ?_
  refine Exec.buildSlice (Te := 3) (cs := []) aa.drew Z Qg (fun _ => by kernel_rfl) ?_
  intro cn dP bm
  refine ⟨agq, ?_⟩
  refine G ?_
  refine Exec.buildSlice (Te := 3) (cs := []) bm Z Qg (fun _ => by kernel_rfl) ?_
  intro co dQ bn
  refine ⟨agq, ?_⟩
  have bo := St.boxArr (E := (Qc .i64)) (xs := []) bn rfl (by simp [maxLen])
  refine G ?_
  refine QY (E := (Qc .i64)) (ys := a.Pre.Pos) bo S22.h Z3 Z (by decide) Z Z Z af ao ?_
  intro d8 dR bp
  refine ⟨agq, ?_⟩
  have bq := St.boxArr (E := (Qc .i64)) (xs := []) bp.f1 rfl (by simp [maxLen])
  refine G ?_
  refine QY (E := (Qc .i64)) (ys := a.Pre.Neg) bq S22.h Z3 Z (by decide) Z Z Z ag ap ?_
  intro d9 dS cJ
  refine ⟨agq, ?_⟩
  refine G ?_
  exact fq
 intro cy dT bb
 obtain ⟨bS, aq, ar, a3, br, ⟨cz, rfl⟩⟩ := bb
 obtain ⟨bX, aS, hm⟩ := Zg hm
 refine G ?_
 refine QS (fun k' s' f' w' => (QO fun (am : (List Int)) (an : (List Int)) => ∃ (a9 : PHeap) (ad : Value) (y : Value), PHeap.le bS a9 ∧ St w0 a9 (Res.arr (Qc .i64) 3 ad am :: Res.arr (Qc .i64) 3 y an :: H) w' ∧ Fx f' [(29, O (k' : Int)), (1, x), (2, O p), (3, t), (11, ad), (12, y), (28, O ((ah.length : Int)))]) s') aS ?_ ?_ ?_
 ·have cK := br.f1
  exact fq
 ·intro b9 bY dr c0 dU cT aV b
  obtain ⟨am, an⟩ := bY
  replace b := Q3 b
  obtain ⟨ds, ad, y, a4, ai, ⟨c1, rfl⟩⟩ := aV
  refine G ?_
  refine KM (n0 := 17) (qs 0 7 (qs 8 7 (.e 7 [8, 9, 10, 11, 12, 13, 14] (.e 15 [] (.e 16 [] .done))))) KL (by kernel_rfl) (by kernel_rfl) ?_
  obtain ⟨ae, a7, b⟩ := Zg b
  refine G ?_
  refine Q1 S89.h Z Z Z (aw.mono (Zt a3 a4)) a7 ?_
  intro cp dl aN cx
  refine ⟨Z, ?_⟩
  refine G ?_
  refine Zw (E := (Qp (Qc .i64))) ai.drew A22.h Z Z Z ((aN.sub (Sub.iso (Sub.fst (Sub.refl _))) Z).sub (Sub.iso (Sub.fst (Sub.refl _))) Z) ?_
  intro dA bE
  have bO : SliceRep _ _ _ (ae.When.Pos) := QG.1 bE
  refine ⟨Z, ?_⟩
  refine G ?_
  refine Q1 S89.h Z Z Z (aw.mono (Zt a3 a4)) a7 ?_
  intro cq dm aO aQ
  refine ⟨Z, ?_⟩
  refine G ?_
  refine QcV (E := (Qp (Qc .i64))) ai.drew A22.h Z Z Z ((aO.sub (Sub.iso (Sub.fst (Sub.refl _))) Z).sub (Sub.iso (QD (Sub.fst (Sub.refl _)) Z)) Z) ?_
  intro dB bF aR
  have bP : SliceRep _ _ _ (ae.When.Neg) := QG.1 bF
  refine ⟨Z, ?_⟩
  obtain ⟨cW, bG, b⟩ := Zg b
  refine G ?_
  refine QY (E := (Qc .i64)) (ys := ae.When.Pos) ai.drew S22.h Z3 Z (by decide) Z Z Z bO bG ?_
  intro cb dV a0
  refine ⟨(Qa (U Z Z (Zm (v := y) Z Z ⟨Z, Z⟩)) (Qa (U Z Z (Zm (v := x) Z Z ⟨Z, Z⟩)) (Qa (U Z Z (Zm (v := O ((b9 : Int))) Z Z ⟨Z, Z⟩)) (Qa (U Z Z (Qct Z Z Z aQ ⟨Z, Z⟩)) (Qa (U Z Z (Zp F97_0.h Z Z Z ⟨Z, Z⟩)) (Qa (U Z Z (Zp F85_1.h Z Z Z ⟨Z, Z⟩)) (Qa (U Z Z (QcU Z Z (aR (Zv _) a0) ⟨Z, Z⟩)) Qi))))))), ?_⟩
  obtain ⟨cX, bH, b⟩ := Zg b
  refine G ?_
  refine QY (E := (Qc .i64)) (ys := ae.When.Neg) a0.f1 S22.h Z3 Z (by decide) Z Z Z bP bH ?_
  intro dC dW cL
  refine ⟨agq, ?_⟩
  refine G ?_
  refine Zo (v := cb) Z Z (⟨agq, ?_⟩)
  cases b
  refine G ?_
  exact fq
 intro c2 dX aW
 obtain ⟨am, an⟩ := bX
 replace hm := Q3 hm
 obtain ⟨bT, ad, y, cY, bs, ⟨c3, rfl⟩⟩ := aW
 obtain ⟨bZ, aT, hm⟩ := Zg hm
 refine G ?_
 refine QS (fun k' s' f' w' => (QO fun (o : (List Int)) (u : (List Int)) => ∃ (aA : PHeap) (l : Value) (m : Value), PHeap.le bT aA ∧ St w0 aA (Res.arr (Qc .i64) 3 l o :: Res.arr (Qc .i64) 3 m u :: H) w' ∧ Fx f' [(51, O (k' : Int)), (2, O p), (11, l), (12, m), (49, t), (50, O ((z.length : Int)))]) s') aT ?_ ?_ ?_
 ·have cM := bs.f1
  exact fq
 ·intro bA ca dt c4 dY cU aX d
  obtain ⟨o, u⟩ := ca
  replace d := Q3 d
  obtain ⟨bU, l, m, cZ, aj, ⟨c5, rfl⟩⟩ := aX
  obtain ⟨n, bI, d⟩ := Zg d
  refine G ?_
  refine QI Z Z Z bI ?_
  intro cr dn aP
  refine G ?_
  refine Zw (E := (Qc .i64)) aj A3.h Z Z Z aP ?_
  intro dD bJ
  obtain rfl := Qm.1 bJ
  obtain ⟨aF, j, d⟩ := Zg d
  refine g ?_
  refine Zc (Zd (g ?_))
  refine Qs (M := fun f' w' => (QO fun (a5 : (List Int)) (a6 : (List Int)) => ∃ (aB : PHeap) (au : Value) (av : Value), PHeap.le bU aB ∧ St w0 aB (Res.arr (Qc .i64) 3 au a5 :: Res.arr (Qc .i64) 3 av a6 :: H) w' ∧ Fx f' [(2, O p), (11, au), (12, av), (49, t), (50, O ((z.length : Int))), (51, O ((bA : Int)))]) aF) ?_ ?_
  ·rcases Qv j with ⟨b1, j⟩ | ⟨b1, j⟩
   ·refine G ?_
    refine Exec.buildSlice (Te := 3) (cs := [O n]) aj Z (Qd (c := [O n]) (Qf Z Z) Qg) (fun _ => by kernel_rfl) ?_
    intro ct dZ bt
    obtain ⟨da, bK, j⟩ := Zg j
    refine G ?_
    refine Qh (E := (Qc .i64)) (ys := [n]) bt.f1 S22.h Z3 Z (by decide) Z Z Z Z ⟨[O n], [], Z, Z, Z⟩ Z bK ?_
    intro dE ea cN
    cases j
    refine G ?_
    exact fq
   refine G ?_
   refine Exec.buildSlice (Te := 3) (cs := [O n]) aj Z (Qd (c := [O n]) (Qf Z Z) Qg) (fun _ => by kernel_rfl) ?_
   intro cu eb bu
   obtain ⟨db, bL, j⟩ := Zg j
   refine G ?_
   refine Qh (E := (Qc .i64)) (ys := [n]) bu.f2 S22.h Z3 Z (by decide) Z Z Z Z ⟨[O n], [], Z, Z, Z⟩ Z bL ?_
   intro dF ec cO
   cases j
   refine G ?_
   exact fq
  intro c6 ed bc
  obtain ⟨a5, a6⟩ := aF
  replace d := Q3 d
  obtain ⟨du, au, av, dc, cP, ⟨c7, rfl⟩⟩ := bc
  cases d
  refine G ?_
  exact fq
 intro c8 ee aY
 obtain ⟨o, u⟩ := bZ
 replace hm := Q3 hm
 obtain ⟨aC, l, m, dd, ak, ⟨c9, rfl⟩⟩ := aY
 refine G ?_
 refine Q2 (ak) S22.h Z Z ?_
 obtain ⟨ax, aU, b6, b4, b0⟩ := Qu hm
 refine g ?_
 refine Qs (M := fun f' w' => ∃ s', (ax = .next s' ∨ ax = .brk s') ∧ (fun (_ : Unit) => ∃ (aD : PHeap) , PHeap.le aC aD ∧ St w0 aD (Res.arr (Qc .i64) 3 l o :: Res.arr (Qc .i64) 3 m u :: H) w' ∧ Fx f' [(11, l), (12, m), (68, O ((o.length : Int)))]) s') ?_ ?_
 ·refine G ?_
  refine QC (fun k' s' f' w' => (fun (_ : Unit) => ∃ (aE : PHeap) , PHeap.le aC aE ∧ St w0 aE (Res.arr (Qc .i64) 3 l o :: Res.arr (Qc .i64) 3 m u :: H) w' ∧ Fx f' [(69, O (k' : Int)), (11, l), (12, m), (68, O ((o.length : Int)))]) s') aU ?_ ?_ ?_
  ·have cQ := ak.f1
   exact fq
  ·intro cV d1 cv cA ef b3 aZ i b7
   obtain ⟨dv, de, al, ⟨cB, rfl⟩⟩ := aZ
   obtain ⟨ej, ab, i⟩ := Zg i
   obtain ⟨cG, cw, ay⟩ := al.arr_at ab
   refine G ?_
   refine Qn S22.h Z ay Z (Qr ab).1 (Qr ab).2.1 (G ?_)
   refine Qz (F := (Qc .i64)) (al) ay A3.h Z Z Z ab (Sub.refl _) ?_
   intro dG bM
   obtain rfl := Qm.1 bM
   obtain ⟨ek, bN, i⟩ := Zg i
   refine G ?_
   refine Tc Z Z Z Z (Qeu bN al.f1).r ?_
   rintro _ eg ⟨bV, df, a1, rfl⟩
   refine G ?_
   rcases Qv i with ⟨b2, i⟩ | ⟨b2, i⟩
   ·cases i
    have b5 := b6 _ (b7 (by intro _ h; cases h))
    cases b5
    refine G ?_
    refine ⟨_, QkI Z, ?_⟩
    obtain ⟨dw, dg, bv, bQ⟩ := a1.f1.freezeArr
    obtain ⟨bW, bD, bw, bR⟩ := bv.freezeArr
    exact ⟨bW, l, m, lq, bw, (Qln Z Z Z), (bQ.mono bD), bR⟩
   cases i
   refine G ?_
   refine ⟨_, Z, ?_⟩; exact ⟨bV, lq, a1.f1, (Fx.mk (FxL.cons (J5 b3 ak.arr_le) fxl))⟩
  intro d2 cC eh ba b8
  obtain ⟨dx, dh, cR, ⟨cD, rfl⟩⟩ := ba
  refine G ?_
  exact ⟨_, .inl b8, fq⟩
 rintro cE ei ⟨d3, a2, bd⟩
 have hm := a2.elim (b4 _) (b0 _)
 clear a2
 obtain ⟨dy, di, bx, ⟨cF, rfl⟩⟩ := bd
 cases hm
 refine G ?_
 refine ⟨_, QkI Z, ?_⟩
 obtain ⟨dz, dj, bz, dp⟩ := bx.freezeArr
 obtain ⟨d0, dk, cS, dq⟩ := bz.freezeArr
 exact fq
theorem QbH {w0 w : World} {s : PHeap} {H : List Res} {b : (List Int)} {i : (List Int)} {c : Value} {d : Value} {r : Bool} (hm : K9 b i = some r) (hS : St w0 s (H) w) (ak : SliceRep (Qc .i64) s c b) (al : SliceRep (Qc .i64) s d i) :
  Calls Tryz.prog 82 #[c, d] w fun e w' => ∃ v, e = .returned v ∧ ((fun (aj : Bool) => ∃ (n : PHeap) , PHeap.le s n ∧ St w0 n (H) w' ∧ v = Value.bool (aj)) r) := by
 unfold K9 at hm
 refine Ql Tryz.func82 Z Z ?_
 obtain ⟨j, t, ad, ab, z⟩ := Qu hm
 refine Zc (Zd (g ?_))
 refine Zc (Zc (Zd (g ?_)))
 refine Qs (M := fun f' w' => ∃ s', (j = .next s' ∨ j = .brk s') ∧ (fun (_ : Unit) => ∃ (o : PHeap) , PHeap.le s o ∧ St w0 o (H) w' ∧ Fx f' [(0, c), (1, d), (7, O ((b.length : Int)))]) s') ?_ ?_
 ·refine G ?_
  refine QC (fun k' s' f' w' => (fun (_ : Unit) => ∃ (p : PHeap) , PHeap.le s p ∧ St w0 p (H) w' ∧ Fx f' [(8, O (k' : Int)), (0, c), (1, d), (7, O ((b.length : Int)))]) s') t ?_ ?_ ?_
  ·exact fq
  ·intro a0 aA an ao aE az u a ae
   obtain ⟨a6, a1, l, ⟨ap, rfl⟩⟩ := u
   obtain ⟨aI, ag, a⟩ := Zg a
   refine G ?_
   refine QI Z Z Z ag ?_
   intro am a5 q
   refine G ?_
   refine Zw (E := (Qc .i64)) l A3.h Z Z Z q ?_
   intro aD ah
   obtain rfl := Qm.1 ah
   obtain ⟨aJ, ai, a⟩ := Zg a
   refine G ?_
   refine Tc Z Z Z Z (Qax ai l rq).r ?_
   rintro _ aF ⟨a7, a2, aw, rfl⟩
   refine G ?_
   rcases Qv a with ⟨aa, a⟩ | ⟨aa, a⟩
   ·cases a
    have ac := ad _ (ae (by intro _ h; cases h))
    cases ac
    refine G ?_
    exact fr
   cases a
   refine G ?_
   exact ⟨_, Z, fq⟩
  intro aB aq aG x af
  obtain ⟨a8, a3, ax, ⟨ar, rfl⟩⟩ := x
  refine G ?_
  exact ⟨_, .inl af, fq⟩
 rintro au aH ⟨aC, m, y⟩
 have hm := m.elim (ab _) (z _)
 clear m
 obtain ⟨a9, a4, ay, ⟨av, rfl⟩⟩ := y
 cases hm
 refine G ?_
 exact fr
theorem QdB {w0 w : World} {s : PHeap} {H : List Res} {b : GOp} {l : Int} {t : (List Int)} {q : (List Int)} {aa : Value} {ab : Value} {ac : Value} {d : Value} {ad : Value} {i : Value} {j : Value} {r : Bool} (hm : Yb b l t q = some r) (hS : St w0 s (H) w) (a8 : SliceRep (Qc .i64) s aa b.Pre.Pos) (a9 : SliceRep (Qc .i64) s ab b.Pre.Neg) (aA : SliceRep encGTest s ac b.Pre.Tests) (aB : SliceRep encGChange s d b.Changes) (aC : SliceRep encGAssign s ad b.Assigns) (aD : SliceRep (Qc .i64) s i t) (aE : SliceRep (Qc .i64) s j q) :
  Calls Tryz.prog 67 #[Value.agg #[Value.string (b.Name), O (b.Cost), aa, ab, ac, d, ad], O l, i, j] w fun e w' => ∃ v, e = .returned v ∧ ((fun (a7 : Bool) => ∃ (u : PHeap) , PHeap.le s u ∧ St w0 u (H) w' ∧ v = Value.bool (a7)) r) := by
 unfold Yb at hm
 refine Ql Tryz.func67 Z Z (G ?_)
 refine JH Z Z ?_
 intro aF bt ak
 obtain ⟨n, af, ax, av, an⟩ := Qu hm
 refine g ?_
 refine Zc (Zc (Zd (g ?_)))
 refine Qs (M := fun f' w' => ∃ s', (n = .next s' ∨ n = .brk s') ∧ (fun (_ : Unit) => ∃ (x : PHeap) , PHeap.le s x ∧ St w0 x (H) w' ∧ Fx f' [(1, O l), (2, i), (3, j), (12, d), (13, O ((b.Changes.length : Int)))]) s') ?_ ?_
 ·refine G ?_
  refine QC (fun k' s' f' w' => (fun (_ : Unit) => ∃ (y : PHeap) , PHeap.le s y ∧ St w0 y (H) w' ∧ Fx f' [(14, O (k' : Int)), (1, O l), (2, i), (3, j), (12, d), (13, O ((b.Changes.length : Int)))]) s') af ?_ ?_ ?_
  ·have aR := ak.drop
   exact fq
  ·intro a0 bm aI aJ bu aX ag c ay
   obtain ⟨a6, aY, o, ⟨aK, rfl⟩⟩ := ag
   obtain ⟨b3, a1, c⟩ := Zg c
   refine G ?_
   refine QI Z Z Z a1 ?_
   intro aG be ae
   refine G ?_
   refine Zw (E := encGChange) o A97.h Z Z Z ae ?_
   intro bs a2
   obtain ⟨bp, bq, br, rfl, a5, bf, bg⟩ := Ji.1 a2
   refine G ?_
   refine Exec.alloc (cs := [Vn, Vn, Vn, O 0, Vb false]) o Z97 Z Z ?_
   intro aH bv aS
   refine G ?_
   refine Xst Z Z Z ?_
   intro bw al
   obtain ⟨m, a, c⟩ := Zg c
   refine g ?_
   refine Zc (Qs (M := fun f' w' => (fun (m : Bool) => ∃ (z : PHeap) , PHeap.le a6 z ∧ St w0 z (H) w' ∧ Fx f' [(1, O l), (2, i), (3, j), (12, d), (13, O ((b.Changes.length : Int))), (14, O ((a0 : Int))), (47, Vb m)]) m) ?_ ?_)
   ·refine G ?_
    rcases Qv a with ⟨ao, a⟩ | ⟨ao, a⟩
    ·refine G ?_
     rcases Qv a with ⟨ap, a⟩ | ⟨ap, a⟩
     ·refine G ?_
      rcases Qv a with ⟨aq, a⟩ | ⟨aq, a⟩
      ·obtain ⟨b4, a3, a⟩ := Zg a
       refine G ?_
       refine Tc Z Z Z Z (QbH a3 al a5 rq).r ?_
       rintro _ bx ⟨bh, aZ, am, rfl⟩
       refine G ?_
       rcases Qv a with ⟨ar, a⟩ | ⟨ar, a⟩
       ·obtain ⟨b5, a4, a⟩ := Zg a
        refine G ?_
        refine Tc Z Z Z Z (QbH a4 am rq rq).r ?_
        rintro _ bz ⟨bi, ba, aT, rfl⟩
        cases a
        refine G ?_
        exact fq
       cases a
       refine G ?_
       exact fq
      cases a
      refine G ?_
      exact fq
     cases a
     refine G ?_
     exact fq
    cases a
    refine G ?_
    exact fq
   intro aL b0 ai
   obtain ⟨bj, bb, aU, ⟨aM, rfl⟩⟩ := ai
   refine G ?_
   rcases Qv c with ⟨au, c⟩ | ⟨au, c⟩
   ·cases c
    have aw := ax _ (ay (by intro _ h; cases h))
    cases aw
    refine G ?_
    exact fr
   cases c
   refine G ?_
   exact ⟨_, Z, fq⟩
  intro bn aN b1 ah az
  obtain ⟨bk, bc, aV, ⟨aO, rfl⟩⟩ := ah
  refine G ?_
  exact ⟨_, .inl az, fq⟩
 rintro aP b2 ⟨bo, p, aj⟩
 have hm := p.elim (av _) (an _)
 clear p
 obtain ⟨bl, bd, aW, ⟨aQ, rfl⟩⟩ := aj
 cases hm
 refine G ?_
 exact fr
theorem Qdn {w0 w : World} {s : PHeap} {H : List Res} {a : GOp} {ak : (List Int)} {x : Value} {y : Value} {z : Value} {d : Value} {aa : Value} {q : Value} {r : Bool} (hm : KB a ak = some r) (hS : St w0 s (H) w) (cy : SliceRep (Qc .i64) s x a.Pre.Pos) (cz : SliceRep (Qc .i64) s y a.Pre.Neg) (c0 : SliceRep encGTest s z a.Pre.Tests) (c1 : SliceRep encGChange s d a.Changes) (c2 : SliceRep encGAssign s aa a.Assigns) (c3 : SliceRep (Qc .i64) s q ak) :
  Calls Tryz.prog 39 #[Value.agg #[Value.string (a.Name), O (a.Cost), x, y, z, d, aa], q] w fun e w' => ∃ v, e = .returned v ∧ ((fun (cx : Bool) => ∃ (aB : PHeap) , PHeap.le s aB ∧ St w0 aB (H) w' ∧ v = Value.bool (cx)) r) := by
 unfold KB at hm
 refine Ql Tryz.func39 Z Z (G ?_)
 refine JH Z Z ?_
 intro i eD dk
 obtain ⟨aw, aT, a9, bF, b2⟩ := Qu hm
 refine g ?_
 refine Zc (Zc (Zd (g ?_)))
 refine Qs (M := fun f' w' => ∃ s', (aw = .next s' ∨ aw = .brk s') ∧ (fun (_ : Unit) => ∃ (aC : PHeap) , PHeap.le s aC ∧ St w0 aC (Res.box i 92 [Value.string (a.Name), O (a.Cost), x, y, z, d, aa] :: H) w' ∧ Fx f' [(1, q), (2, Vq i), (20, d), (21, O ((a.Changes.length : Int)))]) s') ?_ ?_
 ·refine G ?_
  refine QC (fun k' s' f' w' => (fun (_ : Unit) => ∃ (aD : PHeap) , PHeap.le s aD ∧ St w0 aD (Res.box i 92 [Value.string (a.Name), O (a.Cost), x, y, z, d, aa] :: H) w' ∧ Fx f' [(22, O (k' : Int)), (1, q), (2, Vq i), (20, d), (21, O ((a.Changes.length : Int)))]) s') aT ?_ ?_ ?_
  ·exact fq
  ·intro af et cA cF eE d2 aX t aA
   obtain ⟨cq, d6, a1, ⟨cG, rfl⟩⟩ := aX
   obtain ⟨b, bZ, t⟩ := Zg t
   refine G ?_
   refine QI Z Z Z bZ ?_
   intro c4 dS aQ
   refine G ?_
   refine Zw (E := encGChange) a1 A97.h Z Z Z aQ ?_
   intro e5 ca
   obtain ⟨m, j, l, rfl, dV, dW, dX⟩ := Ji.1 ca
   refine G ?_
   refine Exec.alloc (cs := [Vn, Vn, Vn, O 0, Vb false]) a1 Z97 Z Z ?_
   intro o eF dl
   refine G ?_
   refine Xst Z Z Z ?_
   intro eG bm
   obtain ⟨ar, ah, t⟩ := Zg t
   refine g ?_
   refine Zc (Zc (Qs (M := fun f' w' => (fun (ar : Bool) => ∃ (aE : PHeap) , PHeap.le cq aE ∧ St w0 aE (Res.box i 92 [Value.string (a.Name), O (a.Cost), x, y, z, d, aa] :: Res.box o 97 [m, j, l, O (b.Atom), Vb (b.Add)] :: H) w' ∧ Fx f' [(1, q), (2, Vq i), (6, Vq o), (20, d), (21, O ((a.Changes.length : Int))), (22, O ((af : Int))), (35, Vb ar)]) ar) ?_ ?_))
   ·refine G ?_
    rcases Qv ah with ⟨b6, ah⟩ | ⟨b6, ah⟩
    ·cases ah
     refine G ?_
     exact fq
    obtain ⟨fi, cb, ah⟩ := Zg ah
    refine G ?_
    refine Tc Z Z Z Z (Qax cb bm rq).r ?_
    rintro _ eH ⟨ed, d7, dm, rfl⟩
    cases ah
    refine G ?_
    exact fq
   intro cH eI bf
   obtain ⟨aF, d8, bn, ⟨cI, rfl⟩⟩ := bf
   refine G ?_
   rcases Qv t with ⟨a4, t⟩ | ⟨a4, t⟩
   ·cases t
    refine G ?_
    exact ⟨_, Z, fq⟩
   obtain ⟨ax, aU, bO, bG, b3⟩ := Qu t
   refine W_c Z a4 (Qbk (JG (Ze (Zc (Zc (Zd (g ?_)))))))
   refine Qs (M := fun f' w' => ∃ s', (ax = .next s' ∨ ax = .brk s') ∧ (fun (_ : Unit) => ∃ (aG : PHeap) , PHeap.le aF aG ∧ St w0 aG (Res.box i 92 [Value.string (a.Name), O (a.Cost), x, y, z, d, aa] :: Res.box o 97 [m, j, l, O (b.Atom), Vb (b.Add)] :: H) w' ∧ Fx f' [(1, q), (2, Vq i), (6, Vq o), (20, d), (21, O ((a.Changes.length : Int))), (22, O ((af : Int))), (37, d), (38, O ((a.Changes.length : Int)))]) s') ?_ ?_
   ·refine G ?_
    refine QC (fun k' s' f' w' => (fun (_ : Unit) => ∃ (aH : PHeap) , PHeap.le aF aH ∧ St w0 aH (Res.box i 92 [Value.string (a.Name), O (a.Cost), x, y, z, d, aa] :: Res.box o 97 [m, j, l, O (b.Atom), Vb (b.Add)] :: H) w' ∧ Fx f' [(39, O (k' : Int)), (1, q), (2, Vq i), (6, Vq o), (20, d), (21, O ((a.Changes.length : Int))), (22, O ((af : Int))), (37, d), (38, O ((a.Changes.length : Int)))]) s') aU ?_ ?_ ?_
    ·have dn := bn.f1
     exact fq
    ·intro aq eu cB cJ eJ d3 aY u bR
     obtain ⟨cr, d9, a2, ⟨cK, rfl⟩⟩ := aY
     obtain ⟨n, cc, u⟩ := Zg u
     refine G ?_
     refine QI Z Z Z cc ?_
     intro c5 dT aR
     refine G ?_
     refine Zw (E := encGChange) a2 A97.h Z Z Z aR ?_
     intro e6 cd
     obtain ⟨ag, ad, ae, rfl, dY, dZ, ea⟩ := Ji.1 cd
     refine G ?_
     refine Exec.alloc (cs := [Vn, Vn, Vn, O 0, Vb false]) a2 Z97 Z Z ?_
     intro aj eK dp
     refine G ?_
     refine Xst Z Z Z ?_
     intro eL bo
     obtain ⟨au, ac, u⟩ := Zg u
     refine g ?_
     refine Zc (Zc (Qs (M := fun f' w' => (fun (au : Bool) => ∃ (aI : PHeap) , PHeap.le cr aI ∧ St w0 aI (Res.box i 92 [Value.string (a.Name), O (a.Cost), x, y, z, d, aa] :: Res.box o 97 [m, j, l, O (b.Atom), Vb (b.Add)] :: Res.box aj 97 [ag, ad, ae, O (n.Atom), Vb (n.Add)] :: H) w' ∧ Fx f' [(1, q), (2, Vq i), (6, Vq o), (8, Vq aj), (20, d), (21, O ((a.Changes.length : Int))), (22, O ((af : Int))), (37, d), (38, O ((a.Changes.length : Int))), (39, O ((aq : Int))), (59, Vb au)]) au) ?_ ?_))
     ·refine G ?_
      rcases Qv ac with ⟨b7, ac⟩ | ⟨b7, ac⟩
      ·cases ac
       refine G ?_
       exact fq
      obtain ⟨fj, ce, ac⟩ := Zg ac
      refine G ?_
      refine Tc Z Z Z Z (Qax ce bo rq).r ?_
      rintro _ eM ⟨ee, dA, dq, rfl⟩
      refine G ?_
      rcases Qv ac with ⟨b8, ac⟩ | ⟨b8, ac⟩
      ·cases ac
       refine G ?_
       exact fq
      cases ac
      refine G ?_
      exact fq
     intro cL eN bg
     obtain ⟨aJ, dB, bp, ⟨cM, rfl⟩⟩ := bg
     refine G ?_
     rcases Qv u with ⟨b9, u⟩ | ⟨b9, u⟩
     ·cases u
      refine G ?_
      exact ⟨_, Z, fq⟩
     refine G ?_
     refine Exec.buildSlice (Te := 3) (cs := [O ((-1))]) bp Z (Qd (c := [O ((-1))]) (Qf Z Z) Qg) (fun _ => by kernel_rfl) ?_
     intro c6 eO bq
     refine G ?_
     have br := St.boxArr (E := (Qc .i64)) (xs := [(-1)]) bq ⟨[O ((-1))], [], rfl, rfl, rfl⟩ (by simp [maxLen])
     obtain ⟨al, cf, u⟩ := Zg u
     refine G ?_
     refine QY (E := (Qc .i64)) (ys := ak) br S22.h Z3 Z (by decide) Z Z Z rq cf ?_
     intro an eP ao
     refine G ?_
     refine Q2 (ao) S22.h Z Z ?_
     obtain ⟨ay, aV, bP, bH, b4⟩ := Qu u
     refine g ?_
     refine Qs (M := fun f' w' => ∃ s', (ay = .next s' ∨ ay = .brk s') ∧ (fun (_ : Unit) => ∃ (aK : PHeap) , PHeap.le aJ aK ∧ St w0 aK (Res.box i 92 [Value.string (a.Name), O (a.Cost), x, y, z, d, aa] :: Res.box o 97 [m, j, l, O (b.Atom), Vb (b.Add)] :: Res.box aj 97 [ag, ad, ae, O (n.Atom), Vb (n.Add)] :: Res.arr (Qc .i64) 3 an al :: H) w' ∧ Fx f' [(1, q), (2, Vq i), (6, Vq o), (8, Vq aj), (20, d), (21, O ((a.Changes.length : Int))), (22, O ((af : Int))), (37, d), (38, O ((a.Changes.length : Int))), (39, O ((aq : Int))), (62, an), (63, O ((al.length : Int)))]) s') ?_ ?_
     ·refine G ?_
      refine QC (fun k' s' f' w' => (fun (_ : Unit) => ∃ (aL : PHeap) , PHeap.le aJ aL ∧ St w0 aL (Res.box i 92 [Value.string (a.Name), O (a.Cost), x, y, z, d, aa] :: Res.box o 97 [m, j, l, O (b.Atom), Vb (b.Add)] :: Res.box aj 97 [ag, ad, ae, O (n.Atom), Vb (n.Add)] :: Res.arr (Qc .i64) 3 an al :: H) w' ∧ Fx f' [(64, O (k' : Int)), (1, q), (2, Vq i), (6, Vq o), (8, Vq aj), (20, d), (21, O ((a.Changes.length : Int))), (22, O ((af : Int))), (37, d), (38, O ((a.Changes.length : Int))), (39, O ((aq : Int))), (62, an), (63, O ((al.length : Int)))]) s') aV ?_ ?_ ?_
      ·have dr := ao.f3
       exact fq
      ·intro d5 ev cC cN eQ bE aZ ab bS
       obtain ⟨ef, dC, ap, ⟨cO, rfl⟩⟩ := aZ
       obtain ⟨fg, am, ab⟩ := Zg ab
       obtain ⟨dj, cD, a0⟩ := (ap.f3).arr_at am
       refine G ?_
       refine Qn S22.h Z a0 Z (Qr am).1 (Qr am).2.1 (G ?_)
       refine Qz (F := (Qc .i64)) (ap.f3) a0 A3.h Z Z Z am (Sub.refl _) ?_
       intro e7 cg
       obtain rfl := Qm.1 cg
       refine G ?_
       refine Exec.buildSlice (Te := 97) (cs := [m, j, l, O (b.Atom), Vb (b.Add), ag, ad, ae, O (n.Atom), Vb (n.Add)]) ap Z (Qd (c := [m, j, l, O (b.Atom), Vb (b.Add)]) (Qf Z Z) (Qd (c := [ag, ad, ae, O (n.Atom), Vb (n.Add)]) (Qf Z Z) Qg)) (fun _ => by kernel_rfl) ?_
       intro c7 eR bs
       refine G ?_
       have bt := St.boxArr (E := encGChange) (xs := [b, n]) bs ⟨[m, j, l, O (b.Atom), Vb (b.Add)], [ag, ad, ae, O (n.Atom), Vb (n.Add)], rfl, ⟨[m, j, l], [O (b.Atom), Vb (b.Add)], rfl, ⟨[m], [j, l], rfl, ⟨_, rfl, rq⟩, ⟨[j], [l], rfl, ⟨_, rfl, rq⟩, ⟨_, rfl, rq⟩⟩⟩, ⟨[O (b.Atom)], [Vb (b.Add)], rfl, rfl, rfl⟩⟩, ⟨[ag, ad, ae, O (n.Atom), Vb (n.Add)], [], rfl, ⟨[ag, ad, ae], [O (n.Atom), Vb (n.Add)], rfl, ⟨[ag], [ad, ae], rfl, ⟨_, rfl, rq⟩, ⟨[ad], [ae], rfl, ⟨_, rfl, rq⟩, ⟨_, rfl, rq⟩⟩⟩, ⟨[O (n.Atom)], [Vb (n.Add)], rfl, rfl, rfl⟩⟩, rfl⟩⟩ (by simp [maxLen])
       obtain ⟨eg, dD, bu, cm⟩ := bt.freezeArr
       obtain ⟨cv, ch, ab⟩ := Zg ab
       obtain ⟨fk, fl, fm⟩ := cv
       replace ab := QbP ab
       refine G ?_
       refine Tc Z Z Z Z (QaE ch bu rq rq rq rq rq cm rq).r ?_
       rintro _ eS ⟨ct, e8, e9, dE, bv, rfl, eb, ec⟩
       refine G ?_
       rcases Qv ab with ⟨bA, ab⟩ | ⟨bA, ab⟩
       ·cases ab
        have bJ := bP _ (bS (by intro _ h; cases h))
        cases bJ
        have bK := bO _ (bR (by intro _ h; cases h))
        cases bK
        have bL := a9 _ (aA (by intro _ h; cases h))
        cases bL
        refine G ?_
        exact fr
       cases ab
       refine G ?_
       refine ⟨_, Z, ?_⟩; exact ⟨ct, lq, (((bv.f3).f3).f3).f3, (Fx.mk (FxL.cons (J5 bE ao.arr_le) fxl))⟩
      intro ew cP eT ba bT
      obtain ⟨eh, dF, ds, ⟨cQ, rfl⟩⟩ := ba
      refine G ?_
      exact ⟨_, .inl bT, fq⟩
     rintro cR eU ⟨ex, a5, bh⟩
     have u := a5.elim (bH _) (b4 _)
     clear a5
     obtain ⟨ei, dG, dt, ⟨cS, rfl⟩⟩ := bh
     cases u
     refine G ?_
     exact ⟨_, Z, fq⟩
    intro ey cT eV bb bU
    obtain ⟨ej, dH, du, ⟨cU, rfl⟩⟩ := bb
    refine G ?_
    exact ⟨_, .inl bU, fq⟩
   rintro cV eW ⟨ez, a6, bi⟩
   have t := a6.elim (bG _) (b3 _)
   clear a6
   obtain ⟨aM, dI, bw, ⟨cW, rfl⟩⟩ := bi
   obtain ⟨az, aW, bQ, bI, b5⟩ := Qu t
   refine g ?_
   refine Zc (Zd (g ?_))
   refine Qs (M := fun f' w' => ∃ s', (az = .next s' ∨ az = .brk s') ∧ (fun (_ : Unit) => ∃ (aN : PHeap) , PHeap.le aM aN ∧ St w0 aN (Res.box i 92 [Value.string (a.Name), O (a.Cost), x, y, z, d, aa] :: Res.box o 97 [m, j, l, O (b.Atom), Vb (b.Add)] :: H) w' ∧ Fx f' [(1, q), (2, Vq i), (6, Vq o), (20, d), (21, O ((a.Changes.length : Int))), (22, O ((af : Int))), (82, q), (83, O ((ak.length : Int)))]) s') ?_ ?_
   ·refine G ?_
    refine QC (fun k' s' f' w' => (fun (_ : Unit) => ∃ (aO : PHeap) , PHeap.le aM aO ∧ St w0 aO (Res.box i 92 [Value.string (a.Name), O (a.Cost), x, y, z, d, aa] :: Res.box o 97 [m, j, l, O (b.Atom), Vb (b.Add)] :: H) w' ∧ Fx f' [(84, O (k' : Int)), (1, q), (2, Vq i), (6, Vq o), (20, d), (21, O ((a.Changes.length : Int))), (22, O ((af : Int))), (82, q), (83, O ((ak.length : Int)))]) s') aW ?_ ?_ ?_
    ·have dv := bw.f1
     exact fq
    ·intro bY e0 cE cX eX d4 bc p bV
     obtain ⟨ek, dJ, a3, ⟨cY, rfl⟩⟩ := bc
     obtain ⟨fh, ci, p⟩ := Zg p
     refine G ?_
     refine QI Z Z Z ci ?_
     intro c8 dU aS
     refine G ?_
     refine Zw (E := (Qc .i64)) a3 A3.h Z Z Z aS ?_
     intro eA cj
     obtain rfl := Qm.1 cj
     refine G ?_
     rcases Qv p with ⟨bB, p⟩ | ⟨bB, p⟩
     ·cases p
      refine G ?_
      exact ⟨_, Z, fq⟩
     refine G ?_
     refine Exec.buildSlice (Te := 97) (cs := [m, j, l, O (b.Atom), Vb (b.Add)]) a3 Z (Qd (c := [m, j, l, O (b.Atom), Vb (b.Add)]) (Qf Z Z) Qg) (fun _ => by kernel_rfl) ?_
     intro c9 eY bx
     refine G ?_
     have bz := St.boxArr (E := encGChange) (xs := [b]) bx ⟨[m, j, l, O (b.Atom), Vb (b.Add)], [], rfl, ⟨[m, j, l], [O (b.Atom), Vb (b.Add)], rfl, ⟨[m], [j, l], rfl, ⟨_, rfl, rq⟩, ⟨[j], [l], rfl, ⟨_, rfl, rq⟩, ⟨_, rfl, rq⟩⟩⟩, ⟨[O (b.Atom)], [Vb (b.Add)], rfl, rfl, rfl⟩⟩, rfl⟩ (by simp [maxLen])
     obtain ⟨el, dK, b0, cn⟩ := bz.freezeArr
     obtain ⟨cw, ck, p⟩ := Zg p
     obtain ⟨fn, fo, fp⟩ := cw
     replace p := QbP p
     refine G ?_
     refine Tc Z Z Z Z (QaE ck b0 rq rq rq rq rq cn rq).r ?_
     rintro _ eZ ⟨cu, eB, eC, dL, b1, rfl, co, cp⟩
     obtain ⟨av, ai, p⟩ := Zg p
     refine g ?_
     refine Zc (Qs (M := fun f' w' => (fun (av : Bool) => ∃ (aP : PHeap) , PHeap.le cu aP ∧ St w0 aP (Res.box i 92 [Value.string (a.Name), O (a.Cost), x, y, z, d, aa] :: Res.box o 97 [m, j, l, O (b.Atom), Vb (b.Add)] :: H) w' ∧ Fx f' [(1, q), (2, Vq i), (6, Vq o), (20, d), (21, O ((a.Changes.length : Int))), (22, O ((af : Int))), (82, q), (83, O ((ak.length : Int))), (84, O ((bY : Int))), (110, Vb av)]) av) ?_ ?_)
     ·refine G ?_
      rcases Qv ai with ⟨bC, ai⟩ | ⟨bC, ai⟩
      ·obtain ⟨fs, cl, ai⟩ := Zg ai
       refine G ?_
       refine Tc Z Z Z Z (QdB cl b1 rq rq rq rq rq co cp).r ?_
       rintro _ fa ⟨em, dM, dw, rfl⟩
       cases ai
       refine G ?_
       exact fq
      cases ai
      refine G ?_
      exact fq
     intro cZ fb bj
     obtain ⟨en, dN, dx, ⟨da, rfl⟩⟩ := bj
     refine G ?_
     rcases Qv p with ⟨bD, p⟩ | ⟨bD, p⟩
     ·cases p
      have bM := bQ _ (bV (by intro _ h; cases h))
      cases bM
      have bN := a9 _ (aA (by intro _ h; cases h))
      cases bN
      refine G ?_
      exact fr
     cases p
     refine G ?_
     exact ⟨_, Z, fq⟩
    intro e1 db fc bd bW
    obtain ⟨eo, dO, dy, ⟨dc, rfl⟩⟩ := bd
    refine G ?_
    exact ⟨_, .inl bW, fq⟩
   rintro dd fd ⟨e2, a7, bk⟩
   have t := a7.elim (bI _) (b5 _)
   clear a7
   obtain ⟨ep, dP, dz, ⟨de, rfl⟩⟩ := bk
   cases t
   refine G ?_
   exact ⟨_, Z, fq⟩
  intro e3 df fe be bX
  obtain ⟨er, dQ, d0, ⟨dg, rfl⟩⟩ := be
  refine G ?_
  exact ⟨_, .inl bX, fq⟩
 rintro dh ff ⟨e4, a8, bl⟩
 have hm := a8.elim (bF _) (b2 _)
 clear a8
 obtain ⟨es, dR, d1, ⟨di, rfl⟩⟩ := bl
 cases hm
 refine G ?_
 exact fr
end Go.Pw
