/- -/
import Derived.Test.YteiainhbhaodoaaGreatL61
import Derived.Test.YteiainhbhaodoaaGreatEg0
set_option maxRecDepth 100000
set_option maxHeartbeats 4000000
set_option linter.unusedVariables false
namespace Go.Pw
open Go.Proofs
attribute [local irreducible] Exec WL W andThen YR DL Jh
theorem Y5 {w0 w : World} {s : PHeap} {H : List Res} {fu : Nat} {d : (List GOp)} {j : Ground} {i : Value} {b c : Nat} {r : Int} (hm : Jp fu d j = some r) (hS : St w0 s (H) w) (au : SliceRep encGOp s i d) (t : At s b c encGround j) :
  Calls Tryz.prog 64 #[i, Value.func (.func 36) #[] #[Value.pointer (some ⟨b, c, none⟩)]] w fun e w' => ∃ v, e = .returned v ∧ ((fun (ar : Int) => ∃ (o : PHeap) , PHeap.le s o ∧ St w0 o (H) w' ∧ v = O ar) r) := by
 unfold Jp at hm
 refine Ql Tryz.func64 Z Z ?_
 obtain ⟨l, x, af, ad, ab⟩ := Qu hm
 refine Zc (Zd (g ?_))
 refine Zc (Zc (Zd (g ?_)))
 refine Qs (M := fun f' w' => ∃ s', (l = .next s' ∨ l = .brk s') ∧ (fun (_ : Unit) => ∃ (p : PHeap) , PHeap.le s p ∧ St w0 p (H) w' ∧ Fx f' [(0, i), (1, Value.func (.func 36) #[] #[Vp (some ⟨b, c, none⟩)]), (7, O ((d.length : Int)))]) s') ?_ ?_
 ·refine G ?_
  refine QC (fun k' s' f' w' => (fun (_ : Unit) => ∃ (q : PHeap) , PHeap.le s q ∧ St w0 q (H) w' ∧ Fx f' [(8, O (k' : Int)), (0, i), (1, Value.func (.func 36) #[] #[Vp (some ⟨b, c, none⟩)]), (7, O ((d.length : Int)))]) s') x ?_ ?_ ?_
  ·exact fq
  ·intro a7 aG aw ax aP a6 y a ag
   obtain ⟨aC, ai, m, ⟨ay, rfl⟩⟩ := y
   obtain ⟨aT, aj, a⟩ := Zg a
   refine G ?_
   refine QI Z Z Z aj ?_
   intro av aB u
   refine G ?_
   refine Zw (E := encGOp) m A92.h Z Z Z u ?_
   intro aO ak
   obtain ⟨aJ, aK, aL, aM, aN, rfl, am, an, ao, ap, aq⟩ := Ys.1 ak
   obtain ⟨aU, al, a⟩ := Zg a
   refine G ?_
   refine KR Z Z Tryz.func36 Z N36 (Zi Z Qx) Z ((QcF al m am an ao ap aq (t.mono ai)).mono ?_)
   rintro _ aQ ⟨_, rfl, ⟨aD, a8, a3, rfl⟩⟩
   refine ⟨_, Z, ?_⟩
   refine G ?_
   rcases Qv a with ⟨ac, a⟩ | ⟨ac, a⟩
   ·cases a
    have ae := af _ (ag (by intro _ h; cases h))
    cases ae
    refine G ?_
    exact fr
   cases a
   refine G ?_
   exact ⟨_, Z, fq⟩
  intro aH az aR z ah
  obtain ⟨aE, a9, a4, ⟨a0, rfl⟩⟩ := z
  refine G ?_
  exact ⟨_, .inl ah, fq⟩
 rintro a1 aS ⟨aI, n, aa⟩
 have hm := n.elim (ad _) (ab _)
 clear n
 obtain ⟨aF, aA, a5, ⟨a2, rfl⟩⟩ := aa
 cases hm
 refine G ?_
 exact fr
theorem Yr {w0 w : World} {s : PHeap} {H : List Res} {fu : Nat} {f : (List GOp)} {b : Ground} {g : Value} {a c : Nat} {r : Bool} (hm : QL fu f b = some r) (hS : St w0 s (H) w) (h : SliceRep encGOp s g f) (i : At s a c encGround b) :
  Calls Tryz.prog 35 #[g, Value.func (.func 36) #[] #[Value.pointer (some ⟨a, c, none⟩)]] w fun e w' => ∃ v, e = .returned v ∧ ((fun (k : Bool) => ∃ (d : PHeap) , PHeap.le s d ∧ St w0 d (H) w' ∧ v = Value.bool (k)) r) := by
 unfold QL at hm
 refine Ql Tryz.func35 Z Z ?_
 obtain ⟨p, j, hm⟩ := Zg hm
 refine G ?_
 refine Tc Z Z Z Z (Y5 j hS h i).r ?_
 rintro _ o ⟨n, m, l, rfl⟩
 cases hm
 refine G ?_
 exact fr
theorem Kh {w0 w : World} {s : PHeap} {H : List Res} {fu : Nat} {b : Ground} {k : Value} {j : Value} {i : Value} {c : Value} {d : Value} {r : Bool} (hm : J0 fu b = some r) (hS : St w0 s (H) w) (av : SliceRep encAtom s k b.Atoms) (aw : SliceRep encGFluent s j b.Fluents) (ax : SliceRep (Qc .i64) s i b.Init) (ay : SliceRep encCond s c b.Goal) (az : SliceRep encGOp s d b.Ops) :
  Calls Tryz.prog 12 #[Value.agg #[k, j, i, c, d]] w fun e w' => ∃ v, e = .returned v ∧ ((fun (au : Bool) => ∃ (t : PHeap) , PHeap.le s t ∧ St w0 t (H) w' ∧ v = Value.bool (au)) r) := by
 unfold J0 at hm
 refine Ql Tryz.func12 Z Z (G ?_)
 refine JH Z Z ?_
 intro n aK a4
 refine g ?_
 refine Zc (Zc (Qs (M := fun f' w' => ∃ (u : PHeap) , PHeap.le s u ∧ St w0 u (Res.box n 44 [k, j, i, c, d] :: H) w' ∧ Fx f' [(1, Vq n), (24, Vb (((decide (4096 < (b.Atoms.length : Int))) || ((decide (4096 < (b.Fluents.length : Int))) || ((decide (4096 < (b.Ops.length : Int))) || decide (64 < (b.Goal.length : Int)))))))]) ?_ ?_))
 ·refine G ?_
  rcases tf (decide (4096 < (b.Atoms.length : Int))) with af | af
  ·refine G ?_
   exact fq
  refine G ?_
  rcases tf (decide (4096 < (b.Fluents.length : Int))) with ag | ag
  ·refine G ?_
   exact fq
  refine G ?_
  rcases tf (decide (4096 < (b.Ops.length : Int))) with ah | ah
  ·refine G ?_
   exact fq
  refine G ?_
  exact fq
 intro a0 aL z
 obtain ⟨ar, a7, ab, ⟨a1, rfl⟩⟩ := z
 refine G ?_
 rcases Qv hm with ⟨p, hm⟩ | ⟨p, hm⟩
 ·cases hm
  refine G ?_
  exact fr
 obtain ⟨m, a, hm⟩ := Zg hm
 refine W_c Z p (Qbk (JG (Ze (Zc (Qs (M := fun f' w' => (fun (m : Bool) => ∃ (x : PHeap) , PHeap.le ar x ∧ St w0 x (H) w' ∧ Fx f' [(2, Vb m)]) m) ?_ ?_)))))
 ·obtain ⟨aR, al, a⟩ := Zg a
  refine G ?_
  refine Tc Z Z Z Z (KG al ab rq).r ?_
  rintro _ aM ⟨aD, a8, ac, rfl⟩
  refine G ?_
  rcases Qv a with ⟨ai, a⟩ | ⟨ai, a⟩
  ·obtain ⟨aS, am, a⟩ := Zg a
   refine G ?_
   refine Tc Z Z Z Z (KW am ac rq).r ?_
   rintro _ aN ⟨aE, a9, ad, rfl⟩
   refine G ?_
   rcases Qv a with ⟨aj, a⟩ | ⟨aj, a⟩
   ·refine G ?_
    obtain ⟨aF, aA, ae, l⟩ := QbW (E := encGround) (y := b) ad ⟨[k], [j, i, c, d], rfl, ⟨_, rfl, rq⟩, ⟨[j], [i, c, d], rfl, ⟨_, rfl, rq⟩, ⟨[i], [c, d], rfl, ⟨_, rfl, rq⟩, ⟨[c], [d], rfl, ⟨_, rfl, rq⟩, ⟨_, rfl, rq⟩⟩⟩⟩⟩
    refine G ?_
    refine Exec.makeFunc Z (Zi Z Qx) ?_
    obtain ⟨aT, an, a⟩ := Zg a
    refine G ?_
    refine Tc Z Z Z Z (Yl an ae rq l).r ?_
    rintro _ aO ⟨aG, q, o, rfl⟩
    refine G ?_
    rcases Qv a with ⟨ak, a⟩ | ⟨ak, a⟩
    ·refine G ?_
     refine Zw (E := (Qp encGOp)) o A42.h Z Z Z ((l.sub (Sub.iso (QD (QD (QD (QD (Sub.refl _) Z) Z) Z) Z)) Z).mono q) ?_
     intro aJ ao
     have aq : SliceRep _ _ _ (b.Ops) := QG.1 ao
     refine G ?_
     refine Exec.makeFunc Z (Zi Z Qx) ?_
     obtain ⟨aU, ap, a⟩ := Zg a
     refine G ?_
     refine Tc Z Z Z (Zi Z (Zi Z Qx)) (Yr ap o aq (l.mono q)).r ?_
     rintro _ aP ⟨aH, aB, a5, rfl⟩
     cases a
     refine G ?_
     exact fq
    cases a
    refine G ?_
    exact fq
   cases a
   refine G ?_
   exact fq
  cases a
  refine G ?_
  exact fq
 intro a2 aQ aa
 obtain ⟨aI, aC, a6, ⟨a3, rfl⟩⟩ := aa
 cases hm
 refine G ?_
 exact fr
instance S48 : STy Tryz.prog 48 22 1 24 := ⟨by kernel_rfl⟩
instance F58_0 : FTy Tryz.prog 58 0 0 := ⟨by kernel_rfl⟩
theorem Qcu {w0 w : World} {s : PHeap} {H : List Res} {b : (List Int)} {c : Int} {d : Value} {r : Int} (hm : KU b c = some r) (hS : St w0 s (H) w) (ai : SliceRep (Qc .i64) s d b) :
  Calls Tryz.prog 100 #[d, O c] w fun e w' => ∃ v, e = .returned v ∧ ((fun (ah : Int) => ∃ (l : PHeap) , PHeap.le s l ∧ St w0 l (H) w' ∧ v = O ah) r) := by
 unfold KU at hm
 refine Ql Tryz.func100 Z Z ?_
 obtain ⟨i, p, ac, aa, y⟩ := Qu hm
 refine Zc (Zd (g ?_))
 refine Zc (Zc (Zd (g ?_)))
 refine Qs (M := fun f' w' => ∃ s', (i = .next s' ∨ i = .brk s') ∧ (fun (_ : Unit) => ∃ (m : PHeap) , PHeap.le s m ∧ St w0 m (H) w' ∧ Fx f' [(0, d), (1, O c), (7, O ((b.length : Int)))]) s') ?_ ?_
 ·refine G ?_
  refine QC (fun k' s' f' w' => (fun (_ : Unit) => ∃ (n : PHeap) , PHeap.le s n ∧ St w0 n (H) w' ∧ Fx f' [(8, O (k' : Int)), (0, d), (1, O c), (7, O ((b.length : Int)))]) s') p ?_ ?_ ?_
  ·exact fq
  ·intro aw a4 ak al a8 av q a ad
   obtain ⟨a1, ax, x, ⟨am, rfl⟩⟩ := q
   obtain ⟨aB, af, a⟩ := Zg a
   refine G ?_
   refine QI Z Z Z af ?_
   intro aj a0 o
   refine G ?_
   refine Zw (E := (Qc .i64)) x A3.h Z Z Z o ?_
   intro a7 ag
   obtain rfl := Qm.1 ag
   refine G ?_
   rcases Qv a with ⟨z, a⟩ | ⟨z, a⟩
   ·cases a
    have ab := ac _ (ad (by intro _ h; cases h))
    cases ab
    refine G ?_
    exact fr
   cases a
   refine G ?_
   exact ⟨_, Z, fq⟩
  intro a5 an a9 t ae
  obtain ⟨a2, ay, ar, ⟨ao, rfl⟩⟩ := t
  refine G ?_
  exact ⟨_, .inl ae, fq⟩
 rintro ap aA ⟨a6, j, u⟩
 have hm := j.elim (aa _) (y _)
 clear j
 obtain ⟨a3, az, au, ⟨aq, rfl⟩⟩ := u
 cases hm
 refine G ?_
 exact fr
theorem QbN {w0 w : World} {s : PHeap} {H : List Res} {b : (List Int)} {c : Int} {d : Value} {r : Bool} (hm : JP b c = some r) (hS : St w0 s (H) w) (f : SliceRep (Qc .i64) s d b) :
  Calls Tryz.prog 85 #[d, O c] w fun e w' => ∃ v, e = .returned v ∧ ((fun (h : Bool) => ∃ (a : PHeap) , PHeap.le s a ∧ St w0 a (H) w' ∧ v = Value.bool (h)) r) := by
 unfold JP at hm
 refine Ql Tryz.func85 Z Z ?_
 obtain ⟨m, g, hm⟩ := Zg hm
 refine G ?_
 refine Tc Z Z Z Z (Qcu g hS f).r ?_
 rintro _ l ⟨k, j, i, rfl⟩
 cases hm
 refine G ?_
 exact fr
theorem QcB {w0 w : World} {s : PHeap} {H : List Res} {p : GState} {i : (List Int)} {j : Value} {l : Value} {m : Value} {r : Bool} (hm : Ku p i = some r) (hS : St w0 s (H) w) (ap : SliceRep (Qc .i64) s j p.True) (aq : SliceRep (Qc .i64) s l p.Values) (ar : SliceRep (Qc .i64) s m i) :
  Calls Tryz.prog 69 #[Value.agg #[j, l], m] w fun e w' => ∃ v, e = .returned v ∧ ((fun (ao : Bool) => ∃ (t : PHeap) , PHeap.le s t ∧ St w0 t (H) w' ∧ v = Value.bool (ao)) r) := by
 unfold Ku at hm
 refine Ql Tryz.func69 Z Z (G ?_)
 refine JH Z Z ?_
 intro c aG ad
 refine G ?_
 refine Kl (k := 3) (e := 4) ad Z ?_
 intro d aH ae
 obtain ⟨n, z, hm⟩ := Zg hm
 refine G ?_
 refine QS (fun k' s' f' w' => (fun (n : Q0) => ∃ (u : PHeap) , PHeap.le s u ∧ St w0 u (Res.box c 58 [j, l] :: Res.bmap Tryz.prog 3 4 d n :: H) w' ∧ Fx f' [(11, O (k' : Int)), (2, Vq c), (5, Value.map (some d)), (9, m), (10, O ((i.length : Int)))]) s') z ?_ ?_ ?_
 ·have a1 := ae.f1
  exact fq
 ·intro ai n aB av aI a4 aa a
  obtain ⟨aC, a5, q, ⟨aw, rfl⟩⟩ := aa
  obtain ⟨aN, aj, a⟩ := Zg a
  refine G ?_
  refine QI Z Z Z aj ?_
  intro au aA y
  refine G ?_
  refine Zw (E := (Qc .i64)) q A3.h Z Z Z y ?_
  intro aF ak
  obtain rfl := Qm.1 ak
  obtain ⟨aO, al, a⟩ := Zg a
  refine G ?_
  refine Tc Z Z Z Z (QbN al q rq).r ?_
  rintro _ aJ ⟨an, a6, af, rfl⟩
  obtain ⟨o, b, a⟩ := Zg a
  refine g ?_
  refine Qs (M := fun f' w' => (fun (o : Q0) => ∃ (x : PHeap) , PHeap.le an x ∧ St w0 x (Res.box c 58 [j, l] :: Res.bmap Tryz.prog 3 4 d o :: H) w' ∧ Fx f' [(2, Vq c), (5, Value.map (some d)), (9, m), (10, O ((i.length : Int))), (11, O ((ai : Int)))]) o) ?_ ?_
  ·rcases Qv b with ⟨ah, b⟩ | ⟨ah, b⟩
   ·obtain ⟨a9, am, b⟩ := Zg b
    refine G ?_
    refine Kg af.f1 ⟨Tryz.underlying100, Tryz.underlying3, Tryz.underlying4⟩ Z Z Z Z am ?_
    intro aK a2
    cases b
    refine G ?_
    exact fq
   cases b
   refine G ?_
   exact fq
  intro ax aL ac
  obtain ⟨aD, a7, a3, ⟨ay, rfl⟩⟩ := ac
  cases a
  refine G ?_
  exact fq
 intro az aM ab
 obtain ⟨aE, a8, ag, ⟨a0, rfl⟩⟩ := ab
 refine G ?_
 refine Qf4 (ag.f1) ⟨Tryz.underlying100, Tryz.underlying3, Tryz.underlying4⟩ Z Z ?_
 cases hm
 refine G ?_
 exact fr
theorem Qbu {w0 w : World} {s : PHeap} {H : List Res} {b : Int} {r : Bool} (hm : Yd b = some r) (hS : St w0 s (H) w) :
  Calls Tryz.prog 118 #[O b] w fun e w' => ∃ v, e = .returned v ∧ ((fun (c : Bool) => ∃ (a : PHeap) , PHeap.le s a ∧ St w0 a (H) w' ∧ v = Value.bool (c)) r) := by
 unfold Yd at hm
 refine Ql Tryz.func118 Z Z ?_
 cases hm
 refine G ?_
 exact fr
theorem QdY {w0 w : World} {s : PHeap} {H : List Res} {a : Int} {b : Int} {r : Bool} (hm : Yv a b = some r) (hS : St w0 s (H) w) :
  Calls Tryz.prog 101 #[O a, O b] w fun e w' => ∃ v, e = .returned v ∧ ((fun (q : Bool) => ∃ (k : PHeap) , PHeap.le s k ∧ St w0 k (H) w' ∧ v = Value.bool (q)) r) := by
 unfold Yv at hm
 refine Ql Tryz.func101 Z Z (Zc (Zd (g ?_)))
 refine Zc (Qs (M := fun f' w' => ∃ (l : PHeap) , PHeap.le s l ∧ St w0 l (H) w' ∧ Fx f' [(4, Vb ((bif (Jt a) then ((!(Jt b)) || decide (a < b)) else decide (a < b))))]) ?_ ?_)
 ·refine G ?_
  refine Tc Z Z Z Z (Qbu (Yp a) hS).r ?_
  rintro _ aa ⟨p, j, h, rfl⟩
  refine G ?_
  rcases tf (Jt a) with c | c
  ·refine G ?_
   refine Tc Z Z Z Z (Qbu (Yp b) h).r ?_
   rintro _ ab ⟨m, o, i, rfl⟩
   refine G ?_
   rcases tf (!(Jt b)) with d | d
   ·refine G ?_
    exact ⟨m, (Zt j o), i, (Fx.mk (FxL.cons (Zx (Eq.trans (KH c) (QfN d))).symm fxl))⟩
   refine G ?_
   exact ⟨m, lq, i, (Fx.mk (FxL.cons (Zx (Eq.trans (KH c) (K7 d))).symm fxl))⟩
  refine G ?_
  exact ⟨p, j, h, (Fx.mk (FxL.cons (Zx (YS c)).symm fxl))⟩
 intro t ac n
 obtain ⟨z, y, x, ⟨u, rfl⟩⟩ := n
 cases hm
 refine G ?_
 exact fr
theorem Qa3 {w0 w : World} {s : PHeap} {H : List Res} {b : Int} {r : Bool} (hm : Km b = some r) (hS : St w0 s (H) w) :
  Calls Tryz.prog 102 #[O b] w fun e w' => ∃ v, e = .returned v ∧ ((fun (c : Bool) => ∃ (a : PHeap) , PHeap.le s a ∧ St w0 a (H) w' ∧ v = Value.bool (c)) r) := by
 unfold Km at hm
 refine Ql Tryz.func102 Z Z ?_
 cases hm
 refine G ?_
 exact fr
theorem Yq {w0 w : World} {s : PHeap} {H : List Res} {j : (List Int)} {c : Int} {i : Value} {r : Int × Bool} (hm : Q4 j c = some r) (hS : St w0 s (H) w) (aC : SliceRep (Qc .i64) s i j) :
  Calls Tryz.prog 86 #[i, O c] w fun e w' => ∃ v, e = .returned v ∧ ((QO fun (aA : Int) (aB : Bool) => ∃ (ab : PHeap) , PHeap.le s ab ∧ St w0 ab (H) w' ∧ v = Value.tuple #[O aA, Value.bool (aB)]) r) := by
 unfold Q4 at hm
 refine Ql Tryz.func86 Z Z ?_
 obtain ⟨o, ak, aT, ay, aq⟩ := Qu hm
 refine Zc (Zd (g ?_))
 refine Zc (Zd (g ?_))
 refine Zc (Zd (g ?_))
 refine Zc (Qs (M := fun f' w' => ∃ s', (o = .next s' ∨ o = .brk s') ∧ (QO fun (l : Int) (x : Int) => ∃ (ac : PHeap) , PHeap.le s ac ∧ St w0 ac (H) w' ∧ Fx f' [(0, i), (1, O c), (6, O ((j.length : Int))), (7, O l), (8, O x)]) s') ?_ ?_)
 ·refine G ?_
  refine Ym (fun s' f' w' => (QO fun (t : Int) (y : Int) => ∃ (ad : PHeap) , PHeap.le s ad ∧ St w0 ad (H) w' ∧ Fx f' [(0, i), (1, O c), (6, O ((j.length : Int))), (7, O t), (8, O y)]) s') ak ?_ ?_
  ·exact fq
  intro a6 aG aH bm al b az
  obtain ⟨t, y⟩ := a6
  replace b := Q3 b
  obtain ⟨be, aU, p, ⟨aI, rfl⟩⟩ := al
  refine G ?_
  rcases Qv b with ⟨ar, b⟩ | ⟨ar, b⟩
  ·refine G ?_
   refine QbL (by rw [Tryz.underlying3]; rfl) Tryz.underlying159 Z Z ?_
   refine G ?_
   refine Qft (n := 1) Z (by decide) Z Z Z (G ?_)
   refine QbL (by rw [Tryz.underlying159]; rfl) Tryz.underlying3 Z Z ?_
   obtain ⟨a8, a0, b⟩ := Zg b
   refine G ?_
   refine QI Z Z Z a0 ?_
   intro aD bb ah
   refine G ?_
   refine Zw (E := (Qc .i64)) p A3.h Z Z Z ah ?_
   intro bj a1
   obtain rfl := Qm.1 a1
   refine G ?_
   refine Tc Z Z Z Z (QdY (QbK a8 c) p).r ?_
   rintro _ bn ⟨a4, aV, aP, rfl⟩
   obtain ⟨ag, d, b⟩ := Zg b
   refine g ?_
   refine Qs (M := fun f' w' => (QO fun (u : Int) (z : Int) => ∃ (ae : PHeap) , PHeap.le a4 ae ∧ St w0 ae (H) w' ∧ Fx f' [(0, i), (1, O c), (6, O ((j.length : Int))), (7, O u), (8, O z)]) ag) ?_ ?_
   ·rcases Qv d with ⟨au, d⟩ | ⟨au, d⟩
    ·cases d
     refine G ?_
     exact fq
    cases d
    refine G ?_
    exact fq
   intro aJ bo am
   obtain ⟨u, z⟩ := ag
   replace b := Q3 b
   obtain ⟨bf, aW, aQ, ⟨aK, rfl⟩⟩ := am
   cases b
   refine G ?_
   exact ⟨_, Z, fq⟩
  cases b
  refine G ?_
  exact ⟨_, .inr (az (by intro _ h; cases h)), fq⟩
 rintro aL bp ⟨a7, q, an⟩
 have hm := q.elim (ay _) (aq _)
 clear q
 obtain ⟨l, x⟩ := a7
 replace hm := Q3 hm
 obtain ⟨a5, aX, k, ⟨aM, rfl⟩⟩ := an
 obtain ⟨m, a, hm⟩ := Zg hm
 refine g ?_
 refine Zc (Qs (M := fun f' w' => (fun (m : Bool) => ∃ (af : PHeap) , PHeap.le a5 af ∧ St w0 af (H) w' ∧ Fx f' [(4, O l), (5, Vb m)]) m) ?_ ?_)
 ·refine G ?_
  rcases Qv a with ⟨av, a⟩ | ⟨av, a⟩
  ·obtain ⟨a9, aa, a⟩ := Zg a
   refine G ?_
   refine QI Z Z Z aa ?_
   intro aE bc ai
   refine G ?_
   refine Zw (E := (Qc .i64)) k A3.h Z Z Z ai ?_
   intro bk a2
   obtain rfl := Qm.1 a2
   refine G ?_
   rcases Qv a with ⟨aw, a⟩ | ⟨aw, a⟩
   ·cases a
    refine G ?_
    exact fq
   refine G ?_
   refine QI Z Z Z aa ?_
   intro aF bd aj
   refine G ?_
   refine Zw (E := (Qc .i64)) k A3.h Z Z Z aj ?_
   intro bl a3
   obtain rfl := Qm.1 a3
   refine G ?_
   refine Tc Z Z Z Z (Qa3 (Yw a9) k).r ?_
   rintro _ bq ⟨bg, aY, ap, rfl⟩
   refine G ?_
   rcases Qv a with ⟨ax, a⟩ | ⟨ax, a⟩
   ·refine G ?_
    refine Tc Z Z Z Z (Qa3 (Yw c) ap).r ?_
    rintro _ br ⟨bh, aZ, aR, rfl⟩
    cases a
    refine G ?_
    exact fq
   cases a
   refine G ?_
   exact fq
  cases a
  refine G ?_
  exact fq
 intro aN bs ao
 obtain ⟨bi, ba, aS, ⟨aO, rfl⟩⟩ := ao
 cases hm
 refine G ?_
 refine ⟨_, Qbv Z, ?_⟩
 exact fq
instance F97_2 : FTy Tryz.prog 97 2 4 := ⟨by kernel_rfl⟩
instance A4 : ATy Tryz.prog 4 false 1 := ⟨by kernel_rfl⟩
theorem Z3 : JF Tryz.prog 3 = some (O 0) := by kernel_rfl
theorem Qj6 : JF Tryz.prog 150 = some (Value.agg #[Value.map none, Value.map none]) := by kernel_rfl
instance A150 : ATy Tryz.prog 150 true 2 := ⟨by kernel_rfl⟩
instance F150_0 : FTy Tryz.prog 150 0 0 := ⟨by kernel_rfl⟩
instance A100 : ATy Tryz.prog 100 false 1 := ⟨by kernel_rfl⟩
instance F150_1 : FTy Tryz.prog 150 1 1 := ⟨by kernel_rfl⟩
theorem QkO : (Tryz.f103.name == "runtime.NumGoroutine") = false := by kernel_rfl
theorem Yx {w0 w : World} {s : PHeap} {H : List Res} {d : Cond} {j : invariant_literals} {m : Value} {n : Value} {p : Value} {c : Nat} {a : Nat} {b : Nat} {r : Q0 × Q0} (hm : Jc d j = some r) (hS : St w0 s (Res.box c 150 [Value.map (some a), Value.map (some b)] :: Res.bmap Tryz.prog 3 4 a j.pos :: Res.bmap Tryz.prog 3 4 b j.neg :: H) w) (av : SliceRep (Qc .i64) s m d.Pos) (aw : SliceRep (Qc .i64) s n d.Neg) (ax : SliceRep encGTest s p d.Tests) :
  Calls Tryz.prog 103 #[Value.agg #[m, n, p], Value.pointer (some ⟨c, 0, none⟩)] w fun e w' => ∃ v, e = .returned v ∧ ((QO fun (ak : Q0) (al : Q0) => ∃ (x : PHeap) , PHeap.le s x ∧ St w0 x (Res.box c 150 [Value.map (some a), Value.map (some b)] :: Res.bmap Tryz.prog 3 4 a ak :: Res.bmap Tryz.prog 3 4 b al :: H) w' ∧ v = Value.tuple #[]) r) := by
 unfold Jc at hm
 refine Ql Tryz.func103 Z Z (G ?_)
 refine JH Z Z ?_
 intro q aW ai
 obtain ⟨l, ac, hm⟩ := Zg hm
 refine G ?_
 refine QS (fun k' s' f' w' => (fun (l : Q0) => ∃ (y : PHeap) , PHeap.le s y ∧ St w0 y (Res.box c 150 [Value.map (some a), Value.map (some b)] :: Res.bmap Tryz.prog 3 4 a l :: Res.bmap Tryz.prog 3 4 b j.neg :: Res.box q 85 [m, n, p] :: H) w' ∧ Fx f' [(10, O (k' : Int)), (1, Vq c), (2, Vq q), (8, m), (9, O ((d.Pos.length : Int)))]) s') ac ?_ ?_ ?_
 ·have a8 := ai.f3
  exact fq
 ·intro aF l aP a0 aX aD ae g
  obtain ⟨aQ, aH, t, ⟨a1, rfl⟩⟩ := ae
  obtain ⟨bd, am, g⟩ := Zg g
  refine G ?_
  refine QI Z Z Z am ?_
  intro ay aN aa
  refine G ?_
  refine Zw (E := (Qc .i64)) t A3.h Z Z Z aa ?_
  intro aU an
  obtain rfl := Qm.1 an
  obtain ⟨aL, ao, g⟩ := Zg g
  refine G ?_
  refine Kg t.f1 ⟨Tryz.underlying100, Tryz.underlying3, Tryz.underlying4⟩ Z Z Z Z ao ?_
  intro aY a9
  cases g
  refine G ?_
  exact fq
 intro a2 aZ af
 obtain ⟨au, aI, aj, ⟨a3, rfl⟩⟩ := af
 obtain ⟨o, ad, hm⟩ := Zg hm
 refine G ?_
 refine QS (fun k' s' f' w' => (fun (o : Q0) => ∃ (z : PHeap) , PHeap.le au z ∧ St w0 z (Res.box c 150 [Value.map (some a), Value.map (some b)] :: Res.bmap Tryz.prog 3 4 a l :: Res.bmap Tryz.prog 3 4 b o :: H) w' ∧ Fx f' [(21, O (k' : Int)), (1, Vq c), (19, n), (20, O ((d.Neg.length : Int)))]) s') ad ?_ ?_ ?_
 ·have aA := (aj.f3).drop
  exact fq
 ·intro aG o aR a4 ba aE ag i
  obtain ⟨aS, aJ, u, ⟨a5, rfl⟩⟩ := ag
  obtain ⟨be, ap, i⟩ := Zg i
  refine G ?_
  refine QI Z Z Z ap ?_
  intro az aO ab
  refine G ?_
  refine Zw (E := (Qc .i64)) u A3.h Z Z Z ab ?_
  intro aV aq
  obtain rfl := Qm.1 aq
  obtain ⟨aM, ar, i⟩ := Zg i
  refine G ?_
  refine Kg u.f2 ⟨Tryz.underlying100, Tryz.underlying3, Tryz.underlying4⟩ Z Z Z Z ar ?_
  intro bb aB
  cases i
  refine G ?_
  exact fq
 intro a6 bc ah
 obtain ⟨aT, aK, aC, ⟨a7, rfl⟩⟩ := ah
 cases hm
 refine G ?_
 refine ⟨_, QiE Z, ?_⟩
 exact fq
theorem YN {w0 w : World} {s : PHeap} {H : List Res} {n : GOp} {ab : (List GChange)} {q : Int} {y : (List Int)} {aw : Value} {ax : Value} {ay : Value} {az : Value} {a0 : Value} {ae : Value} {u : Value} {r : Bool × invariant_literals} (hm : QM n ab q y = some r) (hS : St w0 s (H) w) (a5 : SliceRep (Qc .i64) s aw n.Pre.Pos) (a6 : SliceRep (Qc .i64) s ax n.Pre.Neg) (a7 : SliceRep encGTest s ay n.Pre.Tests) (bA : SliceRep encGChange s az n.Changes) (bB : SliceRep encGAssign s a0 n.Assigns) (bC : SliceRep encGChange s ae ab) (bD : SliceRep (Qc .i64) s u y) :
  Calls Tryz.prog 87 #[Value.agg #[Value.string (n.Name), O (n.Cost), aw, ax, ay, az, a0], ae, O q, u] w fun e w' => ∃ v, e = .returned v ∧ ((QO fun (b9 : Bool) (a4 : invariant_literals) => ∃ (an : PHeap) (a1 : Nat) (a2 : Nat), PHeap.le s an ∧ St w0 an (Res.bmap Tryz.prog 3 4 a1 a4.pos :: Res.bmap Tryz.prog 3 4 a2 a4.neg :: H) w' ∧ v = Value.tuple #[Value.agg #[Value.map (some a1), Value.map (some a2)], Value.bool (b9)]) r) := by
 unfold QM at hm
 refine Ql Tryz.func87 Z Z (G ?_)
 refine JH Z Z ?_
 intro bE cB aJ
 refine G ?_
 refine Exec.alloc (cs := [Value.map none, Value.map none]) aJ Qj6 Z Z ?_
 intro j cC aK
 refine G ?_
 refine Kl (k := 3) (e := 4) aK Z ?_
 intro a cD aL
 refine G ?_
 refine Kl (k := 3) (e := 4) aL Z ?_
 intro b cE aM
 refine G ?_
 refine Exec.build Z (Qd (c := [Value.map (some a)]) (Qf Z Z) (Qd (c := [Value.map (some b)]) (Qf Z Z) Qg)) (v := Value.agg #[Value.map (some a), Value.map (some b)]) (fun _ => by kernel_rfl) (G ?_)
 refine Exec.alloc (cs := [Value.map none, Value.map none]) aM Qj6 Z Z ?_
 intro i cF bY
 refine G ?_
 refine Xst Z Z Z ?_
 intro cG aN
 refine G ?_
 refine Exec.makeFunc Z (Zi Z Qx) ?_
 obtain ⟨b5, bn, hm⟩ := Zg hm
 obtain ⟨ck, cl⟩ := b5
 replace hm := Q3 hm
 refine G ?_
 refine KR Z Z Tryz.func103 Z QkO (Zi Z Qx) Z ((Yx bn ((aN.f1).f2).f2 a5 a6 a7).mono ?_)
 rintro _ cH ⟨_, rfl, ⟨b0, bj, aO, rfl⟩⟩
 refine ⟨_, Z, ?_⟩
 obtain ⟨b6, aA, hm⟩ := Zg hm
 refine G ?_
 refine QS (fun k' s' f' w' => (QO fun (ac : Q0) (z : Q0) => ∃ (ao : PHeap) , PHeap.le b0 ao ∧ St w0 ao (Res.box j 150 [Value.map none, Value.map none] :: Res.box i 150 [Value.map (some a), Value.map (some b)] :: Res.bmap Tryz.prog 3 4 a ac :: Res.bmap Tryz.prog 3 4 b z :: H) w' ∧ Fx f' [(27, O (k' : Int)), (2, O q), (3, u), (8, Vq j), (10, Vq i), (11, Value.func (.func 103) #[] #[Vq i]), (25, ae), (26, O ((ab.length : Int)))]) s') aA ?_ ?_ ?_
 ·have bZ := (aO.f4).drop
  exact fq
 ·intro cj b7 cy bK cI ch aC l
  obtain ⟨ac, z⟩ := b7
  replace l := Q3 l
  obtain ⟨cz, cm, af, ⟨bL, rfl⟩⟩ := aC
  obtain ⟨cY, bo, l⟩ := Zg l
  refine G ?_
  refine QI Z Z Z bo ?_
  intro bF cv a8
  refine G ?_
  refine Zw (E := encGChange) af A97.h Z Z Z a8 ?_
  intro c8 bp
  obtain ⟨c5, c6, c7, rfl, bw, bx, bz⟩ := Ji.1 bp
  refine G ?_
  refine Exec.alloc (cs := [Vn, Vn, Vn, O 0, Vb false]) af Z97 Z Z ?_
  intro bG cJ ca
  refine G ?_
  refine Xst Z Z Z ?_
  intro cK aP
  obtain ⟨b8, bq, l⟩ := Zg l
  obtain ⟨cn, co⟩ := b8
  replace l := Q3 l
  refine G ?_
  refine KR Z Z Tryz.func103 Z QkO (Zi Z Qx) Z ((Yx bq ((aP.f4).f4).f4 bw bx bz).mono ?_)
  rintro _ cL ⟨_, rfl, ⟨c0, cp, cb, rfl⟩⟩
  refine ⟨_, Z, ?_⟩
  cases l
  refine G ?_
  exact fq
 intro bM cM aD
 obtain ⟨ac, z⟩ := b6
 replace hm := Q3 hm
 obtain ⟨b1, bk, aQ, ⟨bN, rfl⟩⟩ := aD
 obtain ⟨t, o, hm⟩ := Zg hm
 refine Zc (Zd (g ?_))
 refine Zc (KQ (Zx (decide_eq_false (by omega))) (Qcl (K8 (K8 (QaI (Ze (Zc (Zc (Zd (g ?_))))))))))
 refine Qs (M := fun f' w' => (fun (t : Q0) => ∃ (ap : PHeap) , PHeap.le b1 ap ∧ St w0 ap (Res.box j 150 [Value.map none, Value.map none] :: Res.box i 150 [Value.map (some a), Value.map (some b)] :: Res.bmap Tryz.prog 3 4 a t :: Res.bmap Tryz.prog 3 4 b z :: H) w' ∧ Fx f' [(2, O q), (3, u), (8, Vq j), (10, Vq i)]) t) ?_ ?_
 ·rcases Qv o with ⟨aZ, o⟩ | ⟨aZ, o⟩
  ·obtain ⟨ct, br, o⟩ := Zg o
   refine G ?_
   refine Kg aQ.f2 ⟨Tryz.underlying100, Tryz.underlying3, Tryz.underlying4⟩ Z Z Z Z br ?_
   intro cN cc
   cases o
   refine G ?_
   exact fq
  cases o
  refine G ?_
  exact fq
 intro bO cO aH
 obtain ⟨b2, bl, aR, ⟨bP, rfl⟩⟩ := aH
 obtain ⟨aa, aB, hm⟩ := Zg hm
 refine G ?_
 refine QS (fun k' s' f' w' => (fun (aa : Q0) => ∃ (aq : PHeap) , PHeap.le b2 aq ∧ St w0 aq (Res.box j 150 [Value.map none, Value.map none] :: Res.box i 150 [Value.map (some a), Value.map (some b)] :: Res.bmap Tryz.prog 3 4 a t :: Res.bmap Tryz.prog 3 4 b aa :: H) w' ∧ Fx f' [(43, O (k' : Int)), (2, O q), (8, Vq j), (10, Vq i), (41, u), (42, O ((y.length : Int)))]) s') aB ?_ ?_ ?_
 ·have cd := aR.f3
  exact fq
 ·intro bi aa c1 bQ cP ci aE x
  obtain ⟨b3, cq, ag, ⟨bR, rfl⟩⟩ := aE
  obtain ⟨cZ, bs, x⟩ := Zg x
  refine G ?_
  refine QI Z Z Z bs ?_
  intro bH cw a9
  refine G ?_
  refine Zw (E := (Qc .i64)) ag A3.h Z Z Z a9 ?_
  intro c9 bt
  obtain rfl := Qm.1 bt
  obtain ⟨ad, p, x⟩ := Zg x
  refine g ?_
  refine Zc (Zd (g ?_))
  refine Qs (M := fun f' w' => (fun (ad : Q0) => ∃ (ar : PHeap) , PHeap.le b3 ar ∧ St w0 ar (Res.box j 150 [Value.map none, Value.map none] :: Res.box i 150 [Value.map (some a), Value.map (some b)] :: Res.bmap Tryz.prog 3 4 a t :: Res.bmap Tryz.prog 3 4 b ad :: H) w' ∧ Fx f' [(2, O q), (8, Vq j), (10, Vq i), (41, u), (42, O ((y.length : Int))), (43, O ((bi : Int)))]) ad) ?_ ?_
  ·rcases Qv p with ⟨ba, p⟩ | ⟨ba, p⟩
   ·obtain ⟨cu, bu, p⟩ := Zg p
    refine G ?_
    refine Kg ag.f3 ⟨Tryz.underlying100, Tryz.underlying3, Tryz.underlying4⟩ Z Z Z Z bu ?_
    intro cQ ce
    cases p
    refine G ?_
    exact fq
   cases p
   refine G ?_
   exact fq
  intro bS cR aI
  obtain ⟨c2, cr, cf, ⟨bT, rfl⟩⟩ := aI
  cases x
  refine G ?_
  exact fq
 intro bU cS aF
 obtain ⟨b4, bm, aS, ⟨bV, rfl⟩⟩ := aF
 refine G ?_
 refine Qcc aS.f2 ⟨Tryz.underlying100, Tryz.underlying3, Tryz.underlying4⟩ Z Z ?_
 intro am cT aT
 refine G ?_
 refine Qg9 (fun d' s' f' w' => (fun (_ : Unit) => ∃ (au : PHeap) , PHeap.le b4 au ∧ St w0 au (Res.box j 150 [Value.map none, Value.map none] :: Res.box i 150 [Value.map (some a), Value.map (some b)] :: Res.brange Tryz.prog 3 4 a am t d' :: Res.bmap Tryz.prog 3 4 b aa :: H) w' ∧ Fx f' [(8, Vq j), (10, Vq i), (56, Vq am)]) s') hm ?_ ?_
 ·have cg := aT.f3
  exact fq
 intro bI c4 bW cU aG bc bf
 obtain ⟨av, al, aU, ⟨bX, rfl⟩⟩ := aG
 refine G ?_
 refine QbM aU.f2 ⟨Tryz.underlying100, Tryz.underlying3, Tryz.underlying4⟩ Z Z ?_ ?_
 ·intro aY aV
  have be := bc aY
  refine G ?_
  refine Qe (ds := [Value.map (some a), Value.map (some b)]) (es := [Value.map (some a), Value.map (some b)]) aV.f1 A150.h Z Z Z Z (Zj Z (Zj Z Qk)) (Nat.le_of_ble_eq_true Z) Z ?_
  intro cV ah
  have bJ := Zu be
  subst r
  refine G ?_
  refine ⟨_, Qea Z ⟨_, _, Z, QaJ (ah) A150.h⟩ Z, ?_⟩
  exact ⟨av, a, b, (Zt (Zt (Zt (Zt bj bk) bl) bm) al), ((((ah.drop).f1).drop).f1).f1, (QfM Z Z)⟩
 intro a3 cA cW aj ak ai bd
 obtain ⟨c3, m, bh⟩ := bf a3 aj ak
 have hm19732k := m
 refine G ?_
 refine Exec.entry Z Z bd ?_
 obtain ⟨cx, bv, m⟩ := Zg m
 refine G ?_
 refine Exec.bmap_get (ai.f3) ⟨Tryz.underlying100, Tryz.underlying3, Tryz.underlying4⟩ Z4 Z Z Z bv (G ?_)
 rcases Qv m with ⟨bb, m⟩ | ⟨bb, m⟩
 ·refine G ?_
  refine Xst Z Z Z ?_
  intro cX aW
  refine G ?_
  have aX := St.brange_stop aW.f1
  cases m
  have bg := bh _ rfl
  cases bg
  refine ⟨_, Qea Z ⟨_, _, Z, QaJ (aX.f1) A150.h⟩ Z, ?_⟩
  exact fq
 cases m
 refine G ?_
 exact ⟨a3, _, aj, ak, hm19732k, ⟨av, al, (((ai.f3).f1).f3).f3, (Fx.mk)⟩⟩
theorem Qal {w0 w : World} {s : PHeap} {H : List Res} {a : invariant_literals} {i : GOp} {m : Int} {b : Nat} {c : Nat} {au : Value} {av : Value} {aw : Value} {n : Value} {ax : Value} {r : Bool} (hm : Jj a i m = some r) (hS : St w0 s (Res.bmap Tryz.prog 3 4 b a.pos :: Res.bmap Tryz.prog 3 4 c a.neg :: H) w) (bj : SliceRep (Qc .i64) s au i.Pre.Pos) (bk : SliceRep (Qc .i64) s av i.Pre.Neg) (bl : SliceRep encGTest s aw i.Pre.Tests) (bm : SliceRep encGChange s n i.Changes) (bn : SliceRep encGAssign s ax i.Assigns) :
  Calls Tryz.prog 88 #[Value.agg #[Value.map (some b), Value.map (some c)], Value.agg #[Value.string (i.Name), O (i.Cost), au, av, aw, n, ax], O m] w fun e w' => ∃ v, e = .returned v ∧ ((fun (bi : Bool) => ∃ (ak : PHeap) , PHeap.le s ak ∧ St w0 ak (Res.bmap Tryz.prog 3 4 b a.pos :: Res.bmap Tryz.prog 3 4 c a.neg :: H) w' ∧ v = Value.bool (bi)) r) := by
 unfold Jj at hm
 refine Ql Tryz.func88 Z Z (G ?_)
 refine JH Z Z ?_
 intro l cy bE
 refine G ?_
 refine JH Z Z ?_
 intro bo cz aE
 obtain ⟨af, a1, aQ, aO, aH⟩ := Qu hm
 refine g ?_
 refine Zc (Zc (Zd (g ?_)))
 refine Qs (M := fun f' w' => ∃ s', (af = .next s' ∨ af = .brk s') ∧ (fun (_ : Unit) => ∃ (al : PHeap) , PHeap.le s al ∧ St w0 al (Res.bmap Tryz.prog 3 4 b a.pos :: Res.bmap Tryz.prog 3 4 c a.neg :: Res.box l 150 [Value.map (some b), Value.map (some c)] :: H) w' ∧ Fx f' [(2, O m), (3, Vq l), (15, n), (16, O ((i.Changes.length : Int)))]) s') ?_ ?_
 ·refine G ?_
  refine QC (fun k' s' f' w' => (fun (_ : Unit) => ∃ (am : PHeap) , PHeap.le s am ∧ St w0 am (Res.bmap Tryz.prog 3 4 b a.pos :: Res.bmap Tryz.prog 3 4 c a.neg :: Res.box l 150 [Value.map (some b), Value.map (some c)] :: H) w' ∧ Fx f' [(17, O (k' : Int)), (2, O m), (3, Vq l), (15, n), (16, O ((i.Changes.length : Int)))]) s') a1 ?_ ?_ ?_
  ·have bF := aE.drop
   exact fq
  ·intro x cr bs bt c0 bP a4 d aR
   obtain ⟨bd, bS, ag, ⟨bu, rfl⟩⟩ := a4
   obtain ⟨j, aV, d⟩ := Zg d
   refine G ?_
   refine QI Z Z Z aV ?_
   intro bp cc ay
   refine G ?_
   refine Zw (E := encGChange) ag A97.h Z Z Z ay ?_
   intro cv aW
   obtain ⟨y, z, ae, rfl, ch, ci, cj⟩ := Ji.1 aW
   refine G ?_
   refine Exec.alloc (cs := [Vn, Vn, Vn, O 0, Vb false]) ag Z97 Z Z ?_
   intro q c1 bG
   refine G ?_
   refine Xst Z Z Z ?_
   intro c2 bH
   refine g ?_
   refine Zc (Zc (Qs (M := fun f' w' => ∃ (an : PHeap) , PHeap.le bd an ∧ St w0 an (Res.bmap Tryz.prog 3 4 b a.pos :: Res.bmap Tryz.prog 3 4 c a.neg :: Res.box l 150 [Value.map (some b), Value.map (some c)] :: Res.box q 97 [y, z, ae, O (j.Atom), Vb (j.Add)] :: H) w' ∧ Fx f' [(2, O m), (3, Vq l), (8, Vq q), (15, n), (16, O ((i.Changes.length : Int))), (17, O ((x : Int))), (35, Vb ((j.Add || ((!decide (j.Atom = m)) || decide (0 < (j.When.Tests.length : Int))))))]) ?_ ?_))
   ·refine G ?_
    rcases tf (j.Add) with aI | aI
    ·refine G ?_
     exact fq
    refine G ?_
    rcases tf (!decide (j.Atom = m)) with aJ | aJ
    ·refine G ?_
     exact fq
    refine G ?_
    exact fq
   intro bv c3 aA
   obtain ⟨be, bT, aF, ⟨bw, rfl⟩⟩ := aA
   refine G ?_
   rcases Qv d with ⟨aK, d⟩ | ⟨aK, d⟩
   ·cases d
    refine G ?_
    exact ⟨_, Z, fq⟩
   obtain ⟨aa, a2, d⟩ := Zg d
   refine G ?_
   refine QS (fun k' s' f' w' => (fun (aa : Bool) => ∃ (ao : PHeap) , PHeap.le be ao ∧ St w0 ao (Res.bmap Tryz.prog 3 4 b a.pos :: Res.bmap Tryz.prog 3 4 c a.neg :: Res.box l 150 [Value.map (some b), Value.map (some c)] :: Res.box q 97 [y, z, ae, O (j.Atom), Vb (j.Add)] :: H) w' ∧ Fx f' [(40, O (k' : Int)), (2, O m), (3, Vq l), (8, Vq q), (9, Vb aa), (15, n), (16, O ((i.Changes.length : Int))), (17, O ((x : Int))), (38, y), (39, O ((j.When.Pos.length : Int)))]) s') a2 ?_ ?_ ?_
   ·have bI := aF.f3
    exact fq
   ·intro aT aa ck bx c4 bQ a5 t
    obtain ⟨bf, bU, ah, ⟨bz, rfl⟩⟩ := a5
    obtain ⟨cC, aX, t⟩ := Zg t
    refine G ?_
    refine QI Z Z Z aX ?_
    intro bq cd az
    refine G ?_
    refine Zw (E := (Qc .i64)) ah A3.h Z Z Z az ?_
    intro cw aY
    obtain rfl := Qm.1 aY
    obtain ⟨ab, o, t⟩ := Zg t
    refine g ?_
    refine Qs (M := fun f' w' => (fun (ab : Bool) => ∃ (ap : PHeap) , PHeap.le bf ap ∧ St w0 ap (Res.bmap Tryz.prog 3 4 b a.pos :: Res.bmap Tryz.prog 3 4 c a.neg :: Res.box l 150 [Value.map (some b), Value.map (some c)] :: Res.box q 97 [y, z, ae, O (j.Atom), Vb (j.Add)] :: H) w' ∧ Fx f' [(2, O m), (3, Vq l), (8, Vq q), (9, Vb ab), (15, n), (16, O ((i.Changes.length : Int))), (17, O ((x : Int))), (38, y), (39, O ((j.When.Pos.length : Int))), (40, O ((aT : Int)))]) ab) ?_ ?_
    ·refine G ?_
     rcases Qv o with ⟨aL, o⟩ | ⟨aL, o⟩
     ·obtain ⟨cf, aZ, o⟩ := Zg o
      refine G ?_
      refine Exec.bmap_get (ah) ⟨Tryz.underlying100, Tryz.underlying3, Tryz.underlying4⟩ Z4 Z Z Z aZ ?_
      cases o
      refine G ?_
      exact fq
     cases o
     refine G ?_
     exact fq
    intro b0 c5 aB
    obtain ⟨cl, bV, bJ, ⟨b1, rfl⟩⟩ := aB
    cases t
    refine G ?_
    exact fq
   intro b2 c6 a6
   obtain ⟨bg, bW, aG, ⟨b3, rfl⟩⟩ := a6
   obtain ⟨ac, a3, d⟩ := Zg d
   refine G ?_
   refine QS (fun k' s' f' w' => (fun (ac : Bool) => ∃ (aq : PHeap) , PHeap.le bg aq ∧ St w0 aq (Res.bmap Tryz.prog 3 4 b a.pos :: Res.bmap Tryz.prog 3 4 c a.neg :: Res.box l 150 [Value.map (some b), Value.map (some c)] :: H) w' ∧ Fx f' [(56, O (k' : Int)), (2, O m), (3, Vq l), (9, Vb ac), (15, n), (16, O ((i.Changes.length : Int))), (17, O ((x : Int))), (54, z), (55, O ((j.When.Neg.length : Int)))]) s') a3 ?_ ?_ ?_
   ·have bK := (aG.f3).drop
    exact fq
   ·intro aU ac cm b4 c7 bR a7 u
    obtain ⟨bh, bX, ai, ⟨b5, rfl⟩⟩ := a7
    obtain ⟨cD, ba, u⟩ := Zg u
    refine G ?_
    refine QI Z Z Z ba ?_
    intro br ce a0
    refine G ?_
    refine Zw (E := (Qc .i64)) ai A3.h Z Z Z a0 ?_
    intro cx bb
    obtain rfl := Qm.1 bb
    obtain ⟨ad, p, u⟩ := Zg u
    refine g ?_
    refine Qs (M := fun f' w' => (fun (ad : Bool) => ∃ (ar : PHeap) , PHeap.le bh ar ∧ St w0 ar (Res.bmap Tryz.prog 3 4 b a.pos :: Res.bmap Tryz.prog 3 4 c a.neg :: Res.box l 150 [Value.map (some b), Value.map (some c)] :: H) w' ∧ Fx f' [(2, O m), (3, Vq l), (9, Vb ad), (15, n), (16, O ((i.Changes.length : Int))), (17, O ((x : Int))), (54, z), (55, O ((j.When.Neg.length : Int))), (56, O ((aU : Int)))]) ad) ?_ ?_
    ·refine G ?_
     rcases Qv p with ⟨aM, p⟩ | ⟨aM, p⟩
     ·obtain ⟨cg, bc, p⟩ := Zg p
      refine G ?_
      refine Exec.bmap_get (ai.f1) ⟨Tryz.underlying100, Tryz.underlying3, Tryz.underlying4⟩ Z4 Z Z Z bc ?_
      cases p
      refine G ?_
      exact fq
     cases p
     refine G ?_
     exact fq
    intro b6 c8 aC
    obtain ⟨cn, bY, bL, ⟨b7, rfl⟩⟩ := aC
    cases u
    refine G ?_
    exact fq
   intro b8 c9 a8
   obtain ⟨co, bZ, bM, ⟨b9, rfl⟩⟩ := a8
   refine G ?_
   rcases Qv d with ⟨aN, d⟩ | ⟨aN, d⟩
   ·cases d
    have aP := aQ _ (aR (by intro _ h; cases h))
    cases aP
    refine G ?_
    exact fr
   cases d
   refine G ?_
   exact ⟨_, Z, fq⟩
  intro ct bA cA a9 aS
  obtain ⟨cp, ca, bN, ⟨bB, rfl⟩⟩ := a9
  refine G ?_
  exact ⟨_, .inl aS, fq⟩
 rintro bC cB ⟨cu, aj, aD⟩
 have hm := aj.elim (aO _) (aH _)
 clear aj
 obtain ⟨cq, cb, bO, ⟨bD, rfl⟩⟩ := aD
 cases hm
 refine G ?_
 exact fr
theorem QcA {w0 w : World} {s : PHeap} {H : List Res} {b : GOp} {ap : (List Int)} {t : Value} {u : Value} {x : Value} {n : Value} {y : Value} {o : Value} {r : Bool} (hm : JJ b ap = some r) (hS : St w0 s (H) w) (dd : SliceRep (Qc .i64) s t b.Pre.Pos) (de : SliceRep (Qc .i64) s u b.Pre.Neg) (df : SliceRep encGTest s x b.Pre.Tests) (dg : SliceRep encGChange s n b.Changes) (dh : SliceRep encGAssign s y b.Assigns) (di : SliceRep (Qc .i64) s o ap) :
  Calls Tryz.prog 70 #[Value.agg #[Value.string (b.Name), O (b.Cost), t, u, x, n, y], o] w fun e w' => ∃ v, e = .returned v ∧ ((fun (dc : Bool) => ∃ (aX : PHeap) , PHeap.le s aX ∧ St w0 aX (H) w' ∧ v = Value.bool (dc)) r) := by
 unfold JJ at hm
 refine Ql Tryz.func70 Z Z (G ?_)
 refine JH Z Z ?_
 intro d fI bG
 obtain ⟨aa, bt, hm⟩ := Zg hm
 refine G ?_
 refine QS (fun k' s' f' w' => (fun (aa : (List GChange)) => ∃ (aY : PHeap) (ar : Value), PHeap.le s aY ∧ St w0 aY (Res.box d 92 [Value.string (b.Name), O (b.Cost), t, u, x, n, y] :: Res.arr encGChange 97 ar aa :: H) w' ∧ Fx f' [(25, O (k' : Int)), (1, o), (2, Vq d), (5, ar), (23, n), (24, O ((b.Changes.length : Int)))]) s') bt ?_ ?_ ?_
 ·have dY := bG.nilArr encGChange 97
  exact fq
 ·intro aV aa fe dz fJ eu bz ag
  obtain ⟨ff, ar, e0, aK, ⟨d0, rfl⟩⟩ := bz
  obtain ⟨z, c9, ag⟩ := Zg ag
  refine G ?_
  refine QI Z Z Z c9 ?_
  intro dj eP bo
  refine G ?_
  refine Zw (E := encGChange) aK A97.h Z Z Z bo ?_
  intro f8 cA
  obtain ⟨aq, an, ao, rfl, eT, eU, eV⟩ := Ji.1 cA
  refine G ?_
  refine Exec.alloc (cs := [Vn, Vn, Vn, O 0, Vb false]) aK Z97 Z Z ?_
  intro aE fK dZ
  refine G ?_
  refine Xst Z Z Z ?_
  intro fL bH
  obtain ⟨cW, cB, ag⟩ := Zg ag
  obtain ⟨gy, bm⟩ := cW
  replace ag := Q3 ag
  refine G ?_
  refine Tc Z Z Z Z (Yq cB bH rq).r ?_
  rintro _ fM ⟨cR, e1, ea, rfl⟩
  refine g ?_
  refine Zc (Qs (M := fun f' w' => ∃ (aZ : PHeap) , PHeap.le cR aZ ∧ St w0 aZ (Res.box d 92 [Value.string (b.Name), O (b.Cost), t, u, x, n, y] :: Res.arr encGChange 97 ar aa :: Res.box aE 97 [aq, an, ao, O (z.Atom), Vb (z.Add)] :: H) w' ∧ Fx f' [(1, o), (2, Vq d), (5, ar), (7, Vq aE), (23, n), (24, O ((b.Changes.length : Int))), (25, O ((aV : Int))), (40, Vb ((bm && z.Add)))]) ?_ ?_)
  ·refine G ?_
   rcases tf bm with cf | cf
   ·refine G ?_
    exact fq
   refine G ?_
   exact fq
  intro d1 fN b9
  obtain ⟨cS, e2, bI, ⟨d2, rfl⟩⟩ := b9
  obtain ⟨a7, ak, ag⟩ := Zg ag
  refine g ?_
  refine Qs (M := fun f' w' => (fun (a7 : (List GChange)) => ∃ (ba : PHeap) (a8 : Value), PHeap.le cS ba ∧ St w0 ba (Res.box d 92 [Value.string (b.Name), O (b.Cost), t, u, x, n, y] :: Res.arr encGChange 97 a8 a7 :: H) w' ∧ Fx f' [(1, o), (2, Vq d), (5, a8), (23, n), (24, O ((b.Changes.length : Int))), (25, O ((aV : Int)))]) a7) ?_ ?_
  ·rcases Qv ak with ⟨cg, ak⟩ | ⟨cg, ak⟩
   ·refine G ?_
    refine Exec.buildSlice (Te := 97) (cs := [aq, an, ao, O (z.Atom), Vb (z.Add)]) bI Z (Qd (c := [aq, an, ao, O (z.Atom), Vb (z.Add)]) (Qf Z Z) Qg) (fun _ => by kernel_rfl) ?_
    intro dk fO bJ
    obtain ⟨e3, cC, ak⟩ := Zg ak
    refine G ?_
    refine Qh (E := encGChange) (ys := [z]) bJ.f2 S89.h Z97 Z (by decide) Z Z Z Z ⟨[aq, an, ao, O (z.Atom), Vb (z.Add)], [], Z, ⟨[aq, an, ao], [O (z.Atom), Vb (z.Add)], Z, ⟨[aq], [an, ao], Z, ⟨_, Z, rq⟩, ⟨[an], [ao], Z, ⟨_, Z, rq⟩, ⟨_, Z, rq⟩⟩⟩, ⟨[O (z.Atom)], [Vb (z.Add)], Z, Z, Z⟩⟩, Z⟩ Z cC ?_
    intro f9 fP eb
    cases ak
    refine G ?_
    exact fq
   cases ak
   refine G ?_
   exact fq
  intro d3 fQ bA
  obtain ⟨fg, a8, e4, ec, ⟨d4, rfl⟩⟩ := bA
  cases ag
  refine G ?_
  exact fq
 intro d5 fR b0
 obtain ⟨bb, ar, e5, a3, ⟨d6, rfl⟩⟩ := b0
 refine G ?_
 refine Q2 (a3.f1) S89.h Z Z ?_
 obtain ⟨aF, bu, aS, co, cb⟩ := Qu hm
 refine g ?_
 refine Qs (M := fun f' w' => ∃ s', (aF = .next s' ∨ aF = .brk s') ∧ (QO fun (aD : (List GChange)) (bn : (List GChange)) => ∃ (ay : PHeap) (a9 : Value) (aA : Value), PHeap.le bb ay ∧ St w0 ay (Res.box d 92 [Value.string (b.Name), O (b.Cost), t, u, x, n, y] :: H) w' ∧ Fx f' [(1, o), (2, Vq d), (5, a9), (46, aA), (47, O ((aa.length : Int)))] ∧ SliceRep encGChange ay a9 aD ∧ SliceRep encGChange ay aA bn) s') ?_ ?_
 ·refine G ?_
  refine QC (fun k' s' f' w' => (QO fun (a2 : (List GChange)) (aB : (List GChange)) => ∃ (az : PHeap) (ab : Value) (ac : Value), PHeap.le bb az ∧ St w0 az (Res.box d 92 [Value.string (b.Name), O (b.Cost), t, u, x, n, y] :: H) w' ∧ Fx f' [(48, O (k' : Int)), (1, o), (2, Vq d), (5, ab), (46, ac), (47, O ((aa.length : Int)))] ∧ SliceRep encGChange az ab a2 ∧ SliceRep encGChange az ac aB) s') bu ?_ ?_ ?_
  ·have bK := a3.f1
   obtain ⟨fh, e6, ed, eW⟩ := bK.freezeArr
   exact fq
  ·intro am cX bs d7 fS cm b1 ad aU
   obtain ⟨a2, aB⟩ := cX
   replace ad := Q3 ad
   obtain ⟨bc, ab, ac, e7, aL, ⟨d8, rfl⟩, a6, aT⟩ := b1
   obtain ⟨a, cD, ad⟩ := Zg ad
   refine G ?_
   refine QI Z Z Z cD ?_
   intro dl eQ bp
   refine G ?_
   refine Zw (E := encGChange) aL A97.h Z Z Z bp ?_
   intro fA cE
   obtain ⟨m, i, j, rfl, eX, eY, eZ⟩ := Ji.1 cE
   refine G ?_
   refine Exec.alloc (cs := [Vn, Vn, Vn, O 0, Vb false]) aL Z97 Z Z ?_
   intro q fT ee
   refine G ?_
   refine Xst Z Z Z ?_
   intro fU bL
   obtain ⟨av, cF, ad⟩ := Zg ad
   refine G ?_
   refine QcT S89.h Z Z Z a6 cF ?_
   intro a0 fa
   obtain ⟨aG, bv, cy, cp, cc⟩ := Qu ad
   refine g ?_
   refine Qs (M := fun f' w' => ∃ s', (aG = .next s' ∨ aG = .brk s') ∧ (fun (_ : Unit) => ∃ (bd : PHeap) , PHeap.le bc bd ∧ St w0 bd (Res.box d 92 [Value.string (b.Name), O (b.Cost), t, u, x, n, y] :: Res.box q 97 [m, i, j, O (a.Atom), Vb (a.Add)] :: H) w' ∧ Fx f' [(1, o), (2, Vq d), (5, ab), (11, Vq q), (46, ac), (47, O ((aa.length : Int))), (48, O ((am : Int))), (55, a0), (56, O ((av.length : Int)))]) s') ?_ ?_
   ·refine G ?_
    refine QC (fun k' s' f' w' => (fun (_ : Unit) => ∃ (be : PHeap) , PHeap.le bc be ∧ St w0 be (Res.box d 92 [Value.string (b.Name), O (b.Cost), t, u, x, n, y] :: Res.box q 97 [m, i, j, O (a.Atom), Vb (a.Add)] :: H) w' ∧ Fx f' [(57, O (k' : Int)), (1, o), (2, Vq d), (5, ab), (11, Vq q), (46, ac), (47, O ((aa.length : Int))), (48, O ((am : Int))), (55, a0), (56, O ((av.length : Int)))]) s') bv ?_ ?_ ?_
    ·have ef := bL.f1
     exact fq
    ·intro aW fw du d9 fV ev b2 ae c1
     obtain ⟨bf, e8, aM, ⟨dA, rfl⟩⟩ := b2
     obtain ⟨p, cG, ae⟩ := Zg ae
     refine G ?_
     refine QI Z Z Z cG ?_
     intro dm eR bq
     refine G ?_
     refine Zw (E := encGChange) aM A97.h Z Z Z bq ?_
     intro fB cH
     obtain ⟨aj, ah, ai, rfl, fb, fc, fd⟩ := Ji.1 cH
     refine G ?_
     refine Exec.alloc (cs := [Vn, Vn, Vn, O 0, Vb false]) aM Z97 Z Z ?_
     intro au fW eg
     refine G ?_
     refine Xst Z Z Z ?_
     intro fX bM
     refine G ?_
     rcases Qv ae with ⟨ch, ae⟩ | ⟨ch, ae⟩
     ·cases ae
      refine G ?_
      exact ⟨_, Z, fq⟩
     refine G ?_
     refine Exec.buildSlice (Te := 3) (cs := [O ((-1))]) bM Z (Qd (c := [O ((-1))]) (Qf Z Z) Qg) (fun _ => by kernel_rfl) ?_
     intro dn fY bN
     refine G ?_
     have bO := St.boxArr (E := (Qc .i64)) (xs := [(-1)]) bN ⟨[O ((-1))], [], rfl, rfl, rfl⟩ (by simp [maxLen])
     obtain ⟨aw, cI, ae⟩ := Zg ae
     refine G ?_
     refine QY (E := (Qc .i64)) (ys := ap) bO S22.h Z3 Z (by decide) Z Z Z rq cI ?_
     intro a1 fZ a4
     refine G ?_
     refine Q2 (a4) S22.h Z Z ?_
     obtain ⟨aH, bw, cz, cq, cd⟩ := Qu ae
     refine g ?_
     refine Qs (M := fun f' w' => ∃ s', (aH = .next s' ∨ aH = .brk s') ∧ (fun (_ : Unit) => ∃ (bg : PHeap) , PHeap.le bf bg ∧ St w0 bg (Res.box d 92 [Value.string (b.Name), O (b.Cost), t, u, x, n, y] :: Res.box q 97 [m, i, j, O (a.Atom), Vb (a.Add)] :: Res.box au 97 [aj, ah, ai, O (p.Atom), Vb (p.Add)] :: Res.arr (Qc .i64) 3 a1 aw :: H) w' ∧ Fx f' [(1, o), (2, Vq d), (5, ab), (11, Vq q), (13, Vq au), (46, ac), (47, O ((aa.length : Int))), (48, O ((am : Int))), (55, a0), (56, O ((av.length : Int))), (57, O ((aW : Int))), (68, a1), (69, O ((aw.length : Int)))]) s') ?_ ?_
     ·refine G ?_
      refine QC (fun k' s' f' w' => (fun (_ : Unit) => ∃ (bh : PHeap) , PHeap.le bf bh ∧ St w0 bh (Res.box d 92 [Value.string (b.Name), O (b.Cost), t, u, x, n, y] :: Res.box q 97 [m, i, j, O (a.Atom), Vb (a.Add)] :: Res.box au 97 [aj, ah, ai, O (p.Atom), Vb (p.Add)] :: Res.arr (Qc .i64) 3 a1 aw :: H) w' ∧ Fx f' [(70, O (k' : Int)), (1, o), (2, Vq d), (5, ab), (11, Vq q), (13, Vq au), (46, ac), (47, O ((aa.length : Int))), (48, O ((am : Int))), (55, a0), (56, O ((av.length : Int))), (57, O ((aW : Int))), (68, a1), (69, O ((aw.length : Int)))]) s') bw ?_ ?_ ?_
      ·have eh := a4.f1
       exact fq
      ·intro ez fx dv dB ga cn b3 af c2
       obtain ⟨fi, e9, a5, ⟨dC, rfl⟩⟩ := b3
       obtain ⟨gw, ax, af⟩ := Zg af
       obtain ⟨dX, dw, aJ⟩ := (a5.f3).arr_at ax
       refine G ?_
       refine Qn S22.h Z aJ Z (Qr ax).1 (Qr ax).2.1 (G ?_)
       refine Qz (F := (Qc .i64)) (a5.f3) aJ A3.h Z Z Z ax (Sub.refl _) ?_
       intro fC cJ
       obtain rfl := Qm.1 cJ
       refine G ?_
       refine Exec.buildSlice (Te := 97) (cs := [m, i, j, O (a.Atom), Vb (a.Add), aj, ah, ai, O (p.Atom), Vb (p.Add)]) a5 Z (Qd (c := [m, i, j, O (a.Atom), Vb (a.Add)]) (Qf Z Z) (Qd (c := [aj, ah, ai, O (p.Atom), Vb (p.Add)]) (Qf Z Z) Qg)) (fun _ => by kernel_rfl) ?_
       intro dp gb bP
       refine G ?_
       have bQ := St.boxArr (E := encGChange) (xs := [a, p]) bP ⟨[m, i, j, O (a.Atom), Vb (a.Add)], [aj, ah, ai, O (p.Atom), Vb (p.Add)], rfl, ⟨[m, i, j], [O (a.Atom), Vb (a.Add)], rfl, ⟨[m], [i, j], rfl, ⟨_, rfl, rq⟩, ⟨[i], [j], rfl, ⟨_, rfl, rq⟩, ⟨_, rfl, rq⟩⟩⟩, ⟨[O (a.Atom)], [Vb (a.Add)], rfl, rfl, rfl⟩⟩, ⟨[aj, ah, ai, O (p.Atom), Vb (p.Add)], [], rfl, ⟨[aj, ah, ai], [O (p.Atom), Vb (p.Add)], rfl, ⟨[aj], [ah, ai], rfl, ⟨_, rfl, rq⟩, ⟨[ah], [ai], rfl, ⟨_, rfl, rq⟩, ⟨_, rfl, rq⟩⟩⟩, ⟨[O (p.Atom)], [Vb (p.Add)], rfl, rfl, rfl⟩⟩, rfl⟩⟩ (by simp [maxLen])
       obtain ⟨fj, eA, bR, cP⟩ := bQ.freezeArr
       obtain ⟨cY, cK, af⟩ := Zg af
       obtain ⟨gz, g0⟩ := cY
       replace af := Q3 af
       refine G ?_
       refine Tc Z Z Z Z (YN cK bR rq rq rq rq rq cP rq).r ?_
       rintro _ gc ⟨cT, fD, fE, eB, bS, rfl⟩
       refine G ?_
       refine Exec.alloc (cs := [Value.map none, Value.map none]) bS Qj6 Z Z ?_
       intro dq gd ei
       refine G ?_
       refine Xst Z Z Z ?_
       intro gf bT
       refine G ?_
       rcases Qv af with ⟨ci, af⟩ | ⟨ci, af⟩
       ·cases af
        have ct := cz _ (c2 (by intro _ h; cases h))
        cases ct
        have cu := cy _ (c1 (by intro _ h; cases h))
        cases cu
        have cv := aS _ (aU (by intro _ h; cases h))
        cases cv
        refine G ?_
        exact fr
       cases af
       refine G ?_
       refine ⟨_, Z, ?_⟩; exact ⟨cT, lq, ((((((bT.drop).drop).drop).f3).f3).f3).f3, (Fx.mk (FxL.cons (J5 cn a4.arr_le) fxl))⟩
      intro fy dD gg b4 c3
      obtain ⟨fk, eC, ej, ⟨dE, rfl⟩⟩ := b4
      refine G ?_
      exact ⟨_, .inl c3, fq⟩
     rintro dF gh ⟨fz, aO, bB⟩
     have ae := aO.elim (cq _) (cd _)
     clear aO
     obtain ⟨fl, eD, ek, ⟨dG, rfl⟩⟩ := bB
     cases ae
     refine G ?_
     exact ⟨_, Z, fq⟩
    intro f0 dH gi b5 c4
    obtain ⟨fm, eE, el, ⟨dI, rfl⟩⟩ := b5
    refine G ?_
    exact ⟨_, .inl c4, fq⟩
   rintro dJ gj ⟨f4, aP, bC⟩
   have ad := aP.elim (cp _) (cc _)
   clear aP
   obtain ⟨bi, eF, bU, ⟨dK, rfl⟩⟩ := bC
   obtain ⟨aI, bx, c0, cr, ce⟩ := Qu ad
   refine g ?_
   refine Zc (Zd (g ?_))
   refine Qs (M := fun f' w' => ∃ s', (aI = .next s' ∨ aI = .brk s') ∧ (fun (_ : Unit) => ∃ (bj : PHeap) , PHeap.le bi bj ∧ St w0 bj (Res.box d 92 [Value.string (b.Name), O (b.Cost), t, u, x, n, y] :: Res.box q 97 [m, i, j, O (a.Atom), Vb (a.Add)] :: H) w' ∧ Fx f' [(1, o), (2, Vq d), (5, ab), (11, Vq q), (46, ac), (47, O ((aa.length : Int))), (48, O ((am : Int))), (87, o), (88, O ((ap.length : Int)))]) s') ?_ ?_
   ·refine G ?_
    refine QC (fun k' s' f' w' => (fun (_ : Unit) => ∃ (bk : PHeap) , PHeap.le bi bk ∧ St w0 bk (Res.box d 92 [Value.string (b.Name), O (b.Cost), t, u, x, n, y] :: Res.box q 97 [m, i, j, O (a.Atom), Vb (a.Add)] :: H) w' ∧ Fx f' [(89, O (k' : Int)), (1, o), (2, Vq d), (5, ab), (11, Vq q), (46, ac), (47, O ((aa.length : Int))), (48, O ((am : Int))), (87, o), (88, O ((ap.length : Int)))]) s') bx ?_ ?_ ?_
    ·have em := bU.f1
     exact fq
    ·intro c8 f5 dx dL gk ew b6 l c5
     obtain ⟨fn, eG, aN, ⟨dM, rfl⟩⟩ := b6
     obtain ⟨gx, cL, l⟩ := Zg l
     refine G ?_
     refine QI Z Z Z cL ?_
     intro dr eS br
     refine G ?_
     refine Zw (E := (Qc .i64)) aN A3.h Z Z Z br ?_
     intro fF cM
     obtain rfl := Qm.1 cM
     refine G ?_
     rcases Qv l with ⟨cj, l⟩ | ⟨cj, l⟩
     ·cases l
      refine G ?_
      exact ⟨_, Z, fq⟩
     refine G ?_
     refine Exec.buildSlice (Te := 97) (cs := [m, i, j, O (a.Atom), Vb (a.Add)]) aN Z (Qd (c := [m, i, j, O (a.Atom), Vb (a.Add)]) (Qf Z Z) Qg) (fun _ => by kernel_rfl) ?_
     intro ds gl bV
     refine G ?_
     have bW := St.boxArr (E := encGChange) (xs := [a]) bV ⟨[m, i, j, O (a.Atom), Vb (a.Add)], [], rfl, ⟨[m, i, j], [O (a.Atom), Vb (a.Add)], rfl, ⟨[m], [i, j], rfl, ⟨_, rfl, rq⟩, ⟨[i], [j], rfl, ⟨_, rfl, rq⟩, ⟨_, rfl, rq⟩⟩⟩, ⟨[O (a.Atom)], [Vb (a.Add)], rfl, rfl, rfl⟩⟩, rfl⟩ (by simp [maxLen])
     obtain ⟨fo, eH, bX, cQ⟩ := bW.freezeArr
     obtain ⟨cZ, cN, l⟩ := Zg l
     obtain ⟨g1, g2⟩ := cZ
     replace l := Q3 l
     refine G ?_
     refine Tc Z Z Z Z (YN cN bX rq rq rq rq rq cQ rq).r ?_
     rintro _ gm ⟨cU, fG, fH, eI, bY, rfl⟩
     refine G ?_
     refine Exec.alloc (cs := [Value.map none, Value.map none]) bY Qj6 Z Z ?_
     intro dt gn en
     refine G ?_
     refine Xst Z Z Z ?_
     intro go bZ
     obtain ⟨aC, al, l⟩ := Zg l
     refine g ?_
     refine Zc (Qs (M := fun f' w' => (fun (aC : Bool) => ∃ (bl : PHeap) , PHeap.le cU bl ∧ St w0 bl (Res.box d 92 [Value.string (b.Name), O (b.Cost), t, u, x, n, y] :: Res.box q 97 [m, i, j, O (a.Atom), Vb (a.Add)] :: H) w' ∧ Fx f' [(1, o), (2, Vq d), (5, ab), (11, Vq q), (46, ac), (47, O ((aa.length : Int))), (48, O ((am : Int))), (87, o), (88, O ((ap.length : Int))), (89, O ((c8 : Int))), (113, Vb aC)]) aC) ?_ ?_)
     ·refine G ?_
      rcases Qv al with ⟨ck, al⟩ | ⟨ck, al⟩
      ·obtain ⟨g3, cO, al⟩ := Zg al
       refine G ?_
       refine Tc Z Z Z Z (Qal cO (bZ.f2).f2 rq rq rq rq rq).r ?_
       rintro _ gp ⟨fp, eJ, eo, rfl⟩
       cases al
       refine G ?_
       exact fq
      cases al
      refine G ?_
      exact fq
     intro dN gq bD
     obtain ⟨fs, eK, ep, ⟨dO, rfl⟩⟩ := bD
     refine G ?_
     rcases Qv l with ⟨cl, l⟩ | ⟨cl, l⟩
     ·cases l
      have cw := c0 _ (c5 (by intro _ h; cases h))
      cases cw
      have cx := aS _ (aU (by intro _ h; cases h))
      cases cx
      refine G ?_
      exact fr
     cases l
     refine G ?_
     exact ⟨_, Z, fq⟩
    intro f6 dP gr b7 c6
    obtain ⟨ft, eL, er, ⟨dQ, rfl⟩⟩ := b7
    refine G ?_
    exact ⟨_, .inl c6, fq⟩
   rintro dR gs ⟨f7, aQ, bE⟩
   have ad := aQ.elim (cr _) (ce _)
   clear aQ
   obtain ⟨cV, eM, ca, ⟨dS, rfl⟩⟩ := bE
   have dy := Zu ad
   subst bs
   refine G ?_
   refine ⟨_, Z, ?_⟩; exact ⟨cV, ab, ac, lq, (ca.f1).drop, (Fx.mk (FxL.cons (J5 cm (a3.f1).arr_le) fxl)), (a6.mono lq), (aT.mono lq)⟩
  intro da dT gu b8 c7
  obtain ⟨a2, aB⟩ := da
  obtain ⟨fu, ab, ac, eN, es, ⟨dU, rfl⟩, a6, aT⟩ := b8
  refine G ?_
  exact ⟨_, .inl c7, fq⟩
 rintro dV gv ⟨db, aR, bF⟩
 have hm := aR.elim (co _) (cb _)
 clear aR
 obtain ⟨aD, bn⟩ := db
 replace hm := Q3 hm
 obtain ⟨fv, a9, aA, eO, et, ⟨dW, rfl⟩, ex, ey⟩ := bF
 cases hm
 refine G ?_
 exact fr
theorem QbY {w0 w : World} {s : PHeap} {H : List Res} {j : Ground} {o : (List Int)} {p : Value} {q : Value} {l : Value} {t : Value} {m : Value} {b : Value} {r : Bool} (hm : JE j o = some r) (hS : St w0 s (H) w) (aZ : SliceRep encAtom s p j.Atoms) (ba : SliceRep encGFluent s q j.Fluents) (bb : SliceRep (Qc .i64) s l j.Init) (bc : SliceRep encCond s t j.Goal) (bd : SliceRep encGOp s m j.Ops) (be : SliceRep (Qc .i64) s b o) :
  Calls Tryz.prog 45 #[Value.agg #[p, q, l, t, m], b] w fun e w' => ∃ v, e = .returned v ∧ ((fun (aY : Bool) => ∃ (ae : PHeap) , PHeap.le s ae ∧ St w0 ae (H) w' ∧ v = Value.bool (aY)) r) := by
 unfold JE at hm
 refine Ql Tryz.func45 Z Z (G ?_)
 refine JH Z Z ?_
 intro n ci b0
 obtain ⟨x, ao, aD, a9, a2⟩ := Qu hm
 refine g ?_
 refine Zc (Zc (Zd (g ?_)))
 refine Qs (M := fun f' w' => ∃ s', (x = .next s' ∨ x = .brk s') ∧ (fun (_ : Unit) => ∃ (af : PHeap) , PHeap.le s af ∧ St w0 af (Res.box n 44 [p, q, l, t, m] :: H) w' ∧ Fx f' [(1, b), (2, Vq n), (9, b), (10, O ((o.length : Int)))]) s') ?_ ?_
 ·refine G ?_
  refine QC (fun k' s' f' w' => (fun (_ : Unit) => ∃ (ag : PHeap) , PHeap.le s ag ∧ St w0 ag (Res.box n 44 [p, q, l, t, m] :: H) w' ∧ Fx f' [(11, O (k' : Int)), (1, b), (2, Vq n), (9, b), (10, O ((o.length : Int)))]) s') ao ?_ ?_ ?_
  ·exact fq
  ·intro aJ bU bj bl cj b8 aq d aF
   obtain ⟨aX, bB, z, ⟨bm, rfl⟩⟩ := aq
   obtain ⟨cv, aK, d⟩ := Zg d
   refine G ?_
   refine QI Z Z Z aK ?_
   intro bf bK al
   refine G ?_
   refine Zw (E := (Qc .i64)) z A3.h Z Z Z al ?_
   intro cf aL
   obtain rfl := Qm.1 aL
   obtain ⟨u, a, d⟩ := Zg d
   refine g ?_
   refine Zc (Qs (M := fun f' w' => (fun (u : Bool) => ∃ (ah : PHeap) , PHeap.le aX ah ∧ St w0 ah (Res.box n 44 [p, q, l, t, m] :: H) w' ∧ Fx f' [(1, b), (2, Vq n), (9, b), (10, O ((o.length : Int))), (11, O ((aJ : Int))), (37, Vb u)]) u) ?_ ?_)
   ·refine G ?_
    rcases Qv a with ⟨a4, a⟩ | ⟨a4, a⟩
    ·cases a
     refine G ?_
     exact fq
    refine G ?_
    rcases Qv a with ⟨a5, a⟩ | ⟨a5, a⟩
    ·cases a
     refine G ?_
     exact fq
    refine G ?_
    rcases Qv a with ⟨a6, a⟩ | ⟨a6, a⟩
    ·obtain ⟨cw, aM, a⟩ := Zg a
     refine G ?_
     refine QI Z Z Z aM ?_
     intro bg bL am
     refine G ?_
     refine Zw (E := (Qc .i64)) z A3.h Z Z Z am ?_
     intro cg aN
     obtain rfl := Qm.1 aN
     cases a
     refine G ?_
     exact fq
    cases a
    refine G ?_
    exact fq
   intro bn ck aw
   obtain ⟨bN, bC, b1, ⟨bo, rfl⟩⟩ := aw
   refine G ?_
   rcases Qv d with ⟨a7, d⟩ | ⟨a7, d⟩
   ·cases d
    have aB := aD _ (aF (by intro _ h; cases h))
    cases aB
    refine G ?_
    exact fr
   cases d
   refine G ?_
   exact ⟨_, Z, fq⟩
  intro bV bp cl ar aG
  obtain ⟨bO, bD, b2, ⟨bq, rfl⟩⟩ := ar
  refine G ?_
  exact ⟨_, .inl aG, fq⟩
 rintro br cm ⟨bW, ab, ax⟩
 have hm := ab.elim (a9 _) (a2 _)
 clear ab
 obtain ⟨bP, bE, az, ⟨bs, rfl⟩⟩ := ax
 refine G ?_
 refine Exec.build Z (Qd (c := [l]) (Qf Z (Qj (rq).one)) Qg) (v := Value.agg #[l, Vn]) (fun _ => by kernel_rfl) ?_
 obtain ⟨cy, aO, hm⟩ := Zg hm
 refine G ?_
 refine Tc Z Z Z Z (QcB aO az rq (SliceRep.nil _ _) rq).r ?_
 rintro _ cn ⟨ai, bF, a0, rfl⟩
 refine G ?_
 rcases Qv hm with ⟨ac, hm⟩ | ⟨ac, hm⟩
 ·cases hm
  refine G ?_
  exact fr
 obtain ⟨y, ap, aE, aA, a3⟩ := Qu hm
 refine W_c Z ac (Qbk (JG (Ze (Zc (Zc (Zd (g ?_)))))))
 refine Qs (M := fun f' w' => ∃ s', (y = .next s' ∨ y = .brk s') ∧ (fun (_ : Unit) => ∃ (aj : PHeap) , PHeap.le ai aj ∧ St w0 aj (H) w' ∧ Fx f' [(1, b), (46, m), (47, O ((j.Ops.length : Int)))]) s') ?_ ?_
 ·refine G ?_
  refine QC (fun k' s' f' w' => (fun (_ : Unit) => ∃ (ak : PHeap) , PHeap.le ai ak ∧ St w0 ak (H) w' ∧ Fx f' [(48, O (k' : Int)), (1, b), (46, m), (47, O ((j.Ops.length : Int)))]) s') ap ?_ ?_ ?_
  ·have b3 := a0.drop
   exact fq
  ·intro bA bX bk bt co b9 au i aH
   obtain ⟨bQ, bG, aa, ⟨bu, rfl⟩⟩ := au
   obtain ⟨cx, aP, i⟩ := Zg i
   refine G ?_
   refine QI Z Z Z aP ?_
   intro bh bM an
   refine G ?_
   refine Zw (E := encGOp) aa A92.h Z Z Z an ?_
   intro ch aQ
   obtain ⟨ca, cb, cc, cd, ce, rfl, aS, aT, aU, aV, aW⟩ := Ys.1 aQ
   refine G ?_
   refine Exec.alloc (cs := [Value.string (⟨#[]⟩), O 0, Vn, Vn, Vn, Vn, Vn]) aa Z92 Z Z ?_
   intro bi cp b4
   refine G ?_
   refine Xst Z Z Z ?_
   intro cq a1
   obtain ⟨cz, aR, i⟩ := Zg i
   refine G ?_
   refine Tc Z Z Z Z (QcA aR a1 aS aT aU aV aW rq).r ?_
   rintro _ cr ⟨bR, bH, b5, rfl⟩
   refine G ?_
   rcases Qv i with ⟨a8, i⟩ | ⟨a8, i⟩
   ·cases i
    have aC := aE _ (aH (by intro _ h; cases h))
    cases aC
    refine G ?_
    exact fr
   cases i
   refine G ?_
   exact ⟨_, Z, fq⟩
  intro bY bv ct av aI
  obtain ⟨bS, bI, b6, ⟨bw, rfl⟩⟩ := av
  refine G ?_
  exact ⟨_, .inl aI, fq⟩
 rintro bx cu ⟨bZ, ad, ay⟩
 have hm := ad.elim (aA _) (a3 _)
 clear ad
 obtain ⟨bT, bJ, b7, ⟨bz, rfl⟩⟩ := ay
 cases hm
 refine G ?_
 exact fr
theorem QbZ {w0 w : World} {s : PHeap} {H : List Res} {fu : Nat} {b : Ground} {d : (List Int)} {j : Value} {k : Value} {l : Value} {m : Value} {n : Value} {o : Value} {r : Bool} (hm : QQ fu b d = some r) (hS : St w0 s (H) w) (p : SliceRep encAtom s j b.Atoms) (q : SliceRep encGFluent s k b.Fluents) (t : SliceRep (Qc .i64) s l b.Init) (u : SliceRep encCond s m b.Goal) (x : SliceRep encGOp s n b.Ops) (af : SliceRep (Qc .i64) s o d) :
  Calls Tryz.prog 21 #[Value.agg #[j, k, l, m, n], o] w fun e w' => ∃ v, e = .returned v ∧ ((fun (ae : Bool) => ∃ (h : PHeap) , PHeap.le s h ∧ St w0 h (H) w' ∧ v = Value.bool (ae)) r) := by
 unfold QQ at hm
 refine Ql Tryz.func21 Z Z (G ?_)
 refine JH Z Z ?_
 intro ag ar z
 obtain ⟨c, a, hm⟩ := Zg hm
 refine g ?_
 refine Zc (Qs (M := fun f' w' => (fun (c : Bool) => ∃ (i : PHeap) , PHeap.le s i ∧ St w0 i (H) w' ∧ Fx f' [(4, Vb c)]) c) ?_ ?_)
 ·obtain ⟨ax, ac, a⟩ := Zg a
  refine G ?_
  refine Tc Z Z Z Z (Kh ac z p q t u x).r ?_
  rintro _ au ⟨ao, al, aa, rfl⟩
  refine G ?_
  rcases Qv a with ⟨ab, a⟩ | ⟨ab, a⟩
  ·obtain ⟨ay, ad, a⟩ := Zg a
   refine G ?_
   refine Tc Z Z Z Z (QbY ad aa rq rq rq rq rq rq).r ?_
   rintro _ av ⟨ap, am, aj, rfl⟩
   cases a
   refine G ?_
   exact fq
  cases a
  refine G ?_
  exact fq
 intro ah aw y
 obtain ⟨aq, an, ak, ⟨ai, rfl⟩⟩ := y
 cases hm
 refine G ?_
 exact fr
theorem N20 : (Tryz.f20.name == "runtime.NumGoroutine") = false := by kernel_rfl
theorem Qcx {w0 w : World} {s : PHeap} {H : List Res} {fu : Nat} {c : (List Int)} {b : Ground} {g : Value} {a d : Nat} {r : Bool} (hm : Ko fu c b = some r) (hS : St w0 s (H) w) (i : SliceRep (Qc .i64) s g c) (j : At s a d encGround b) :
  Calls Tryz.prog 20 #[g, Value.pointer (some ⟨a, d, none⟩)] w fun e w' => ∃ v, e = .returned v ∧ ((fun (t : Bool) => ∃ (f : PHeap) , PHeap.le s f ∧ St w0 f (H) w' ∧ v = Value.bool (t)) r) := by
 unfold Ko at hm
 refine Ql Tryz.func20 Z Z (G ?_)
 refine Zw (E := encGround) hS A44.h Z Z Z j ?_
 intro ae k
 obtain ⟨z, aa, ab, ac, ad, rfl, m, n, o, p, q⟩ := Yh.1 k
 obtain ⟨ag, l, hm⟩ := Zg hm
 refine G ?_
 refine Tc Z Z Z Z (QbZ l hS m n o p q i).r ?_
 rintro _ af ⟨y, x, u, rfl⟩
 cases hm
 refine G ?_
 exact fr
theorem YK {w0 w : World} {s : PHeap} {H : List Res} {fu : Nat} {d : (List (List Int))} {j : Ground} {i : Value} {b c : Nat} {r : Int} (hm : QZ fu d j = some r) (hS : St w0 s (H) w) (ap : SliceRep (Qp (Qc .i64)) s i d) (t : At s b c encGround j) :
  Calls Tryz.prog 44 #[i, Value.func (.func 20) #[] #[Value.pointer (some ⟨b, c, none⟩)]] w fun e w' => ∃ v, e = .returned v ∧ ((fun (ao : Int) => ∃ (o : PHeap) , PHeap.le s o ∧ St w0 o (H) w' ∧ v = O ao) r) := by
 unfold QZ at hm
 refine Ql Tryz.func44 Z Z ?_
 obtain ⟨l, x, af, ad, ab⟩ := Qu hm
 refine Zc (Zd (g ?_))
 refine Zc (Zc (Zd (g ?_)))
 refine Qs (M := fun f' w' => ∃ s', (l = .next s' ∨ l = .brk s') ∧ (fun (_ : Unit) => ∃ (p : PHeap) , PHeap.le s p ∧ St w0 p (H) w' ∧ Fx f' [(0, i), (1, Value.func (.func 20) #[] #[Vp (some ⟨b, c, none⟩)]), (7, O ((d.length : Int)))]) s') ?_ ?_
 ·refine G ?_
  refine QC (fun k' s' f' w' => (fun (_ : Unit) => ∃ (q : PHeap) , PHeap.le s q ∧ St w0 q (H) w' ∧ Fx f' [(8, O (k' : Int)), (0, i), (1, Value.func (.func 20) #[] #[Vp (some ⟨b, c, none⟩)]), (7, O ((d.length : Int)))]) s') x ?_ ?_ ?_
  ·exact fq
  ·intro a4 aD ar au aH a3 y a ag
   obtain ⟨a9, ai, m, ⟨av, rfl⟩⟩ := y
   obtain ⟨an, aj, a⟩ := Zg a
   refine G ?_
   refine QI Z Z Z aj ?_
   intro aq a8 u
   refine G ?_
   refine Zw (E := (Qp (Qc .i64))) m A22.h Z Z Z u ?_
   intro aG ak
   have am : SliceRep _ _ _ (an) := QG.1 ak
   obtain ⟨aL, al, a⟩ := Zg a
   refine G ?_
   refine KR Z Z Tryz.func20 Z N20 (Zi Z Qx) Z ((Qcx al m am (t.mono ai)).mono ?_)
   rintro _ aI ⟨_, rfl, ⟨aA, a5, a0, rfl⟩⟩
   refine ⟨_, Z, ?_⟩
   refine G ?_
   rcases Qv a with ⟨ac, a⟩ | ⟨ac, a⟩
   ·cases a
    have ae := af _ (ag (by intro _ h; cases h))
    cases ae
    refine G ?_
    exact fr
   cases a
   refine G ?_
   exact ⟨_, Z, fq⟩
  intro aE aw aJ z ah
  obtain ⟨aB, a6, a1, ⟨ax, rfl⟩⟩ := z
  refine G ?_
  exact ⟨_, .inl ah, fq⟩
 rintro ay aK ⟨aF, n, aa⟩
 have hm := n.elim (ad _) (ab _)
 clear n
 obtain ⟨aC, a7, a2, ⟨az, rfl⟩⟩ := aa
 cases hm
 refine G ?_
 exact fr
theorem Y4 {w0 w : World} {s : PHeap} {H : List Res} {fu : Nat} {f : (List (List Int))} {b : Ground} {g : Value} {a c : Nat} {r : Bool} (hm : Q6 fu f b = some r) (hS : St w0 s (H) w) (h : SliceRep (Qp (Qc .i64)) s g f) (i : At s a c encGround b) :
  Calls Tryz.prog 19 #[g, Value.func (.func 20) #[] #[Value.pointer (some ⟨a, c, none⟩)]] w fun e w' => ∃ v, e = .returned v ∧ ((fun (k : Bool) => ∃ (d : PHeap) , PHeap.le s d ∧ St w0 d (H) w' ∧ v = Value.bool (k)) r) := by
 unfold Q6 at hm
 refine Ql Tryz.func19 Z Z ?_
 obtain ⟨p, j, hm⟩ := Zg hm
 refine G ?_
 refine Tc Z Z Z Z (YK j hS h i).r ?_
 rintro _ o ⟨n, m, l, rfl⟩
 cases hm
 refine G ?_
 exact fr
theorem C38 : Tryz.prog.concrete 38 = true := by kernel_rfl
instance A29 : ATy Tryz.prog 29 true 7 := ⟨by kernel_rfl⟩
instance F67_0 : FTy Tryz.prog 67 0 0 := ⟨by kernel_rfl⟩
instance S65 : STy Tryz.prog 65 4 1 1 := ⟨by kernel_rfl⟩
theorem Z85 : JF Tryz.prog 85 = some (Value.agg #[Value.slice none 0 0, Value.slice none 0 0, Value.slice none 0 0]) := by kernel_rfl
theorem Qb3 {w0 w : World} {s : PHeap} {H : List Res} {b : (List Cond)} {g : Value} {r : (List Cond)} (hm : Ke b = some r) (hS : St w0 s (H) w) (c : SliceRep encCond s g b) :
  Calls Tryz.prog 71 #[g] w fun e w' => ∃ v, e = .returned v ∧ ((fun (q : (List Cond)) => ∃ (f : PHeap) (i : Value), PHeap.le s f ∧ St w0 f (Res.arr encCond 85 i q :: H) w' ∧ v = i) r) := by
 unfold Ke at hm
 refine Ql Tryz.func71 Z Z ?_
 obtain ⟨j, z, u, k, n⟩ := c.nilShape
 refine G ?_
 refine Kp Tryz.underlying41 Z k Z (G ?_)
 rcases tf (j.isNone) with a | a
 ·have o := n a
  replace hm := (show (some []) = ((app 72 [] b).bind fun d => some d) from by simp [o, app]).trans hm
  refine YT ((Zx a)) ?_
  cases hm
  refine G ?_
  refine ⟨_, Qa5 Z, ?_⟩
  have x := hS.nilArr encCond 85
  exact fq
 refine KQ ((Zx a)) (G ?_)
 refine Exec.buildSlice (Te := 85) (cs := []) hS Z Qg (fun _ => by kernel_rfl) ?_
 intro t ab l
 refine G ?_
 have m := St.boxArr (E := encCond) (xs := []) l rfl (by simp [maxLen])
 obtain ⟨d, p, hm⟩ := Zg hm
 refine G ?_
 refine QY (E := encCond) (ys := b) m S41.h Z85 Z (by decide) Z Z Z c p ?_
 intro aa ac y
 cases hm
 refine G ?_
 exact fr
theorem Qch {w0 w : World} {s : PHeap} {H : List Res} {a : Ground} {ac : Value} {ad : Value} {ae : Value} {af : Value} {o : Value} {r : (List Cond)} (hm : Kb a = some r) (hS : St w0 s (H) w) (aK : SliceRep encAtom s ac a.Atoms) (aL : SliceRep encGFluent s ad a.Fluents) (aM : SliceRep (Qc .i64) s ae a.Init) (ai : SliceRep encCond s af a.Goal) (aN : SliceRep encGOp s o a.Ops) :
  Calls Tryz.prog 46 #[Value.agg #[ac, ad, ae, af, o]] w fun e w' => ∃ v, e = .returned v ∧ ((fun (aJ : (List Cond)) => ∃ (x : PHeap) (ag : Value), PHeap.le s x ∧ St w0 x (H) w' ∧ v = ag ∧ SliceRep encCond x ag aJ) r) := by
 unfold Kb at hm
 refine Ql Tryz.func46 Z Z (G ?_)
 refine JH Z Z ?_
 intro aO bD ar
 obtain ⟨bR, a2, hm⟩ := Zg hm
 refine G ?_
 refine Tc Z Z Z Z (Qb3 a2 ar ai).r ?_
 rintro b8 bE ⟨aF, _, bn, au, rfl⟩
 obtain ⟨t, al, hm⟩ := Zg hm
 refine G ?_
 refine QS (fun k' s' f' w' => (fun (t : (List Cond)) => ∃ (aa : PHeap) (p : Value), PHeap.le aF aa ∧ St w0 aa (Res.arr encCond 85 p t :: H) w' ∧ Fx f' [(14, O (k' : Int)), (3, p), (12, o), (13, O ((a.Ops.length : Int)))]) s') al ?_ ?_ ?_
 ·have bd := (au.f1).drop
  exact fq
 ·intro a1 t b1 aV bF bk an b
  obtain ⟨aG, p, bo, y, ⟨aW, rfl⟩⟩ := an
  obtain ⟨ah, a3, b⟩ := Zg b
  refine G ?_
  refine QI Z Z Z a3 ?_
  intro aP bv aj
  refine G ?_
  refine Zw (E := encGOp) y A92.h Z Z Z aj ?_
  intro b9 a4
  obtain ⟨m, g, i, aH, b7, rfl, a9, aA, aB, bx, bz⟩ := Ys.1 a4
  refine G ?_
  refine Exec.alloc (cs := [Value.string (⟨#[]⟩), O 0, Vn, Vn, Vn, Vn, Vn]) y Z92 Z Z ?_
  intro aQ bG be
  refine G ?_
  refine Xst Z Z Z ?_
  intro bH av
  refine G ?_
  refine Exec.buildSlice (Te := 85) (cs := [m, g, i]) av Z (Qd (c := [m, g, i]) (Qf Z Z) Qg) (fun _ => by kernel_rfl) ?_
  intro aR bI aw
  obtain ⟨bp, a5, b⟩ := Zg b
  refine G ?_
  refine Qh (E := encCond) (ys := [ah.Pre]) aw.f2 S41.h Z85 Z (by decide) Z Z Z Z ⟨[m, g, i], [], Z, ⟨[m], [g, i], Z, ⟨_, Z, a9⟩, ⟨[g], [i], Z, ⟨_, Z, aA⟩, ⟨_, Z, aB⟩⟩⟩, Z⟩ Z a5 ?_
  intro bA bJ ax
  obtain ⟨u, am, b⟩ := Zg b
  refine G ?_
  refine QS (fun k' s' f' w' => (fun (u : (List Cond)) => ∃ (ab : PHeap) (q : Value), PHeap.le aG ab ∧ St w0 ab (Res.arr encCond 85 q u :: H) w' ∧ Fx f' [(26, O (k' : Int)), (3, q), (12, o), (13, O ((a.Ops.length : Int))), (14, O ((a1 : Int))), (24, aH), (25, O ((ah.Changes.length : Int)))]) s') am ?_ ?_ ?_
  ·have bf := (ax.f1).drop
   exact fq
  ·intro bm u b2 aX bK bl ao d
   obtain ⟨b3, q, bq, z, ⟨aY, rfl⟩⟩ := ao
   obtain ⟨aI, a6, d⟩ := Zg d
   refine G ?_
   refine QI Z Z Z a6 ?_
   intro aS bw ak
   refine G ?_
   refine Zw (E := encGChange) z A97.h Z Z Z ak ?_
   intro bB a7
   obtain ⟨n, j, l, rfl, aC, aD, aE⟩ := Ji.1 a7
   refine G ?_
   refine Exec.alloc (cs := [Vn, Vn, Vn, O 0, Vb false]) z Z97 Z Z ?_
   intro aT bL bg
   refine G ?_
   refine Xst Z Z Z ?_
   intro bM ay
   refine G ?_
   refine Exec.buildSlice (Te := 85) (cs := [n, j, l]) ay Z (Qd (c := [n, j, l]) (Qf Z Z) Qg) (fun _ => by kernel_rfl) ?_
   intro aU bN az
   obtain ⟨br, a8, d⟩ := Zg d
   refine G ?_
   refine Qh (E := encCond) (ys := [aI.When]) az.f2 S41.h Z85 Z (by decide) Z Z Z Z ⟨[n, j, l], [], Z, ⟨[n], [j, l], Z, ⟨_, Z, aC⟩, ⟨[j], [l], Z, ⟨_, Z, aD⟩, ⟨_, Z, aE⟩⟩⟩, Z⟩ Z a8 ?_
   intro bC bO bh
   cases d
   refine G ?_
   exact fq
  intro aZ bP ap
  obtain ⟨b4, q, bs, bi, ⟨ba, rfl⟩⟩ := ap
  cases b
  refine G ?_
  exact fq
 intro bb bQ aq
 obtain ⟨b5, p, bt, a0, ⟨bc, rfl⟩⟩ := aq
 cases hm
 refine G ?_
 refine ⟨_, Qa5 Z, ?_⟩
 obtain ⟨b6, bu, bj, b0⟩ := a0.freezeArr
 exact fq
instance S24 : STy Tryz.prog 24 51 2 16 := ⟨by kernel_rfl⟩
theorem Z51 : JF Tryz.prog 51 = some (Value.agg #[O 0, O 0]) := by kernel_rfl
instance F67_2 : FTy Tryz.prog 67 2 6 := ⟨by kernel_rfl⟩
instance A24 : ATy Tryz.prog 24 false 1 := ⟨by kernel_rfl⟩
instance F67_3 : FTy Tryz.prog 67 3 7 := ⟨by kernel_rfl⟩
instance A65 : ATy Tryz.prog 65 false 1 := ⟨by kernel_rfl⟩
theorem Qcw {w0 w : World} {s : PHeap} {H : List Res} {m : (List (List Int))} {d : (List Bool)} {n : Value} {a : Value} {r : (List Int)} (hm : Kn m d = some r) (hS : St w0 s (Res.arr encBool 4 a d :: H) w) (aI : SliceRep (Qp (Qc .i64)) s n m) :
  Calls Tryz.prog 47 #[n, a] w fun e w' => ∃ v, e = .returned v ∧ ((fun (aH : (List Int)) => ∃ (ab : PHeap) (an : Value), PHeap.le s ab ∧ St w0 ab (Res.arr encBool 4 a d :: H) w' ∧ v = an ∧ SliceRep (Qc .i64) ab an aH) r) := by
 unfold Kn at hm
 refine Ql Tryz.func47 Z Z ?_
 obtain ⟨o, ar, hm⟩ := Zg hm
 refine G ?_
 refine QS (fun k' s' f' w' => (fun (o : (List Int)) => ∃ (aj : PHeap) (b : Value), PHeap.le s aj ∧ St w0 aj (Res.arr encBool 4 a d :: Res.arr (Qc .i64) 3 b o :: H) w' ∧ Fx f' [(13, O (k' : Int)), (1, a), (5, b), (11, n), (12, O ((m.length : Int)))]) s') ar ?_ ?_ ?_
 ·have ba := hS.nilArr (Qc .i64) 3
  exact fq
 ·intro z o bu aN b3 bg av i
  obtain ⟨aC, b, bi, ah, ⟨aO, rfl⟩⟩ := av
  obtain ⟨af, a6, i⟩ := Zg i
  refine G ?_
  refine QI Z Z Z a6 ?_
  intro aJ bq ap
  refine G ?_
  refine Zw (E := (Qp (Qc .i64))) ah A22.h Z Z Z ap ?_
  intro ao a7
  have bs : SliceRep _ _ _ (af) := QG.1 a7
  obtain ⟨ac, au, i⟩ := Zg i
  refine G ?_
  refine QS (fun k' s' f' w' => (fun (ac : (List Int)) => ∃ (ak : PHeap) (u : Value), PHeap.le aC ak ∧ St w0 ak (Res.arr encBool 4 a d :: Res.arr (Qc .i64) 3 b o :: Res.arr (Qc .i64) 3 u ac :: H) w' ∧ Fx f' [(19, O (k' : Int)), (1, a), (5, b), (8, u), (11, n), (12, O ((m.length : Int))), (13, O ((z : Int))), (17, ao), (18, O ((af.length : Int)))]) s') au ?_ ?_ ?_
  ·have bb := ah.nilArr (Qc .i64) 3
   exact fq
  ·intro a5 ac bv aP b4 bh aw j
   obtain ⟨aD, u, bj, q, ⟨aQ, rfl⟩⟩ := aw
   obtain ⟨x, a8, j⟩ := Zg j
   refine G ?_
   refine QI Z Z Z a8 ?_
   intro aK br aq
   refine G ?_
   refine Zw (E := (Qc .i64)) q A3.h Z Z Z aq ?_
   intro b1 a9
   obtain rfl := Qm.1 a9
   obtain ⟨aG, t, j⟩ := Zg j
   obtain ⟨aZ, aM, ag⟩ := q.arr_at t
   refine G ?_
   refine Qn S65.h Z ag Z (Qr t).1 (Qr t).2.1 (G ?_)
   refine Qz (F := encBool) (q) ag A4.h Z Z Z t (Sub.refl _) ?_
   intro aF aA
   obtain rfl : aF = Value.bool (aG) := KK.1 aA
   obtain ⟨aa, l, j⟩ := Zg j
   refine g ?_
   refine Qs (M := fun f' w' => (fun (aa : (List Int)) => ∃ (al : PHeap) (ad : Value), PHeap.le aD al ∧ St w0 al (Res.arr encBool 4 a d :: Res.arr (Qc .i64) 3 b o :: Res.arr (Qc .i64) 3 ad aa :: H) w' ∧ Fx f' [(1, a), (5, b), (8, ad), (11, n), (12, O ((m.length : Int))), (13, O ((z : Int))), (17, ao), (18, O ((af.length : Int))), (19, O ((a5 : Int)))]) aa) ?_ ?_
   ·rcases Qv l with ⟨a3, l⟩ | ⟨a3, l⟩
    ·refine G ?_
     refine Exec.buildSlice (Te := 3) (cs := [O x]) q Z (Qd (c := [O x]) (Qf Z Z) Qg) (fun _ => by kernel_rfl) ?_
     intro aL b5 a1
     obtain ⟨bk, aB, l⟩ := Zg l
     refine G ?_
     refine Qh (E := (Qc .i64)) (ys := [x]) a1.f3 S22.h Z3 Z (by decide) Z Z Z Z ⟨[O x], [], Z, Z, Z⟩ Z aB ?_
     intro b2 b6 bc
     cases l
     refine G ?_
     exact fq
    cases l
    refine G ?_
    exact fq
   intro aR b7 az
   obtain ⟨bw, ad, bl, bd, ⟨aS, rfl⟩⟩ := az
   cases j
   refine G ?_
   exact fq
  intro aT b8 ax
  obtain ⟨aE, u, bm, ai, ⟨aU, rfl⟩⟩ := ax
  refine G ?_
  refine Q2 (ai.f2) S22.h Z Z (G ?_)
  refine Q2 (ai.f1) S22.h Z Z ?_
  obtain ⟨y, p, i⟩ := Zg i
  refine g ?_
  refine Qs (M := fun f' w' => (fun (y : (List Int)) => ∃ (am : PHeap) (ae : Value), PHeap.le aE am ∧ St w0 am (Res.arr encBool 4 a d :: Res.arr (Qc .i64) 3 ae y :: H) w' ∧ Fx f' [(1, a), (5, ae), (11, n), (12, O ((m.length : Int))), (13, O ((z : Int)))]) y) ?_ ?_
  ·rcases Qv p with ⟨a4, p⟩ | ⟨a4, p⟩
   ·cases p
    refine G ?_
    exact fq
   cases p
   refine G ?_
   exact fq
  intro aV b9 a0
  obtain ⟨bx, ae, bn, be, ⟨aW, rfl⟩⟩ := a0
  cases i
  refine G ?_
  exact fq
 intro aX bA ay
 obtain ⟨bz, b, bo, a2, ⟨aY, rfl⟩⟩ := ay
 cases hm
 refine G ?_
 refine ⟨_, Qa5 Z, ?_⟩
 obtain ⟨b0, bp, bf, bt⟩ := a2.f1.freezeArr
 exact fq
instance F67_1 : FTy Tryz.prog 67 1 5 := ⟨by kernel_rfl⟩
instance A51 : ATy Tryz.prog 51 true 2 := ⟨by kernel_rfl⟩
instance F67_4 : FTy Tryz.prog 67 4 8 := ⟨by kernel_rfl⟩
end Go.Pw
