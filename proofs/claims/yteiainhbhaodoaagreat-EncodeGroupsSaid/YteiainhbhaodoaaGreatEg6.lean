/- -/
import Derived.Test.YteiainhbhaodoaaGreatL29
import Derived.Test.YteiainhbhaodoaaGreatL61
import Derived.Test.YteiainhbhaodoaaGreatEg5
set_option maxRecDepth 100000
set_option maxHeartbeats 4000000
set_option linter.unusedVariables false
namespace Go.Pw
open Go.Proofs
attribute [local irreducible] Exec WL W andThen YR DL Jh
instance A27 : ATy Tryz.prog 27 true 4 := ⟨by kernel_rfl⟩
instance A55 : ATy Tryz.prog 55 true 4 := ⟨by kernel_rfl⟩
instance F55_3 : FTy Tryz.prog 55 3 3 := ⟨by kernel_rfl⟩
instance A53 : ATy Tryz.prog 53 false 1 := ⟨by kernel_rfl⟩
instance F55_2 : FTy Tryz.prog 55 2 2 := ⟨by kernel_rfl⟩
instance A60 : ATy Tryz.prog 60 true 3 := ⟨by kernel_rfl⟩
instance F60_0 : FTy Tryz.prog 60 0 0 := ⟨by kernel_rfl⟩
theorem QaD {w0 w : World} {s : PHeap} {H : List Res} {a : Task} {ac : Value} {ad : Value} {g : Value} {i : Value} {r : (List (List Fact))} (hm : JY a = some r) (hS : St w0 s (H) w) (a9 : SliceRep (Qc .i64) s ac a.Vars) (aA : SliceRep (Qc .i64) s ad a.Init) (t : SliceRep encFact s g a.Goal) (aB : SliceRep encOp s i a.Ops) :
  Calls Tryz.prog 58 #[Value.agg #[ac, ad, g, i]] w fun e w' => ∃ v, e = .returned v ∧ ((fun (a8 : (List (List Fact))) => ∃ (o : PHeap) (ae : Value), PHeap.le s o ∧ St w0 o (H) w' ∧ v = ae ∧ SliceRep (Qp encFact) o ae a8) r) := by
 unfold JY at hm
 refine Ql Tryz.func58 Z Z (G ?_)
 refine JH Z Z ?_
 intro aC bx ao
 refine G ?_
 refine Exec.buildSlice (Te := 24) (cs := [g]) ao Z (Qd (c := [g]) (Qf Z (Qj t.one)) Qg) (fun _ => by kernel_rfl) ?_
 intro aD bz ap
 obtain ⟨n, ai, hm⟩ := Zg hm
 refine G ?_
 refine QS (fun k' s' f' w' => (fun (n : (List (List Fact))) => ∃ (aa : PHeap) (j : Value), PHeap.le s aa ∧ St w0 aa (Res.arr (Qp encFact) 24 j n :: H) w' ∧ Fx f' [(14, O (k' : Int)), (3, j), (12, i), (13, O ((a.Ops.length : Int)))]) s') ai ?_ ?_ ?_
 ·have aS := St.boxArr (E := (Qp encFact)) (xs := [a.Goal]) ap ⟨[g], [], rfl, ⟨_, rfl, t⟩, rfl⟩ (by simp [maxLen])
  exact fq
 ·intro ay n bn aK b0 aZ ak b
  obtain ⟨a5, j, bc, u, ⟨aL, rfl⟩⟩ := ak
  obtain ⟨af, az, b⟩ := Zg b
  refine G ?_
  refine QI Z Z Z az ?_
  intro aE bj ag
  refine G ?_
  refine Zw (E := encOp) u A55.h Z Z Z ag ?_
  intro bt a0
  obtain ⟨p, a6, rfl, y, bl⟩ := QbE.1 a0
  refine G ?_
  refine Exec.alloc (cs := [Value.string (⟨#[]⟩), O 0, Vn, Vn]) u Z55 Z Z ?_
  intro aF b1 aT
  refine G ?_
  refine Xst Z Z Z ?_
  intro b2 aq
  refine G ?_
  refine Exec.buildSlice (Te := 24) (cs := [p]) aq Z (Qd (c := [p]) (Qf Z (Qj y.one)) Qg) (fun _ => by kernel_rfl) ?_
  intro aG b3 ar
  obtain ⟨bd, a1, b⟩ := Zg b
  refine G ?_
  refine Qh (E := (Qp encFact)) (ys := [af.Pre]) ar.f2 S119.h Z24 Z (by decide) Z Z Z Z ⟨[p], [], Z, ⟨_, Z, y⟩, Z⟩ Z a1 ?_
  intro bu b4 au
  obtain ⟨m, aj, b⟩ := Zg b
  refine G ?_
  refine QS (fun k' s' f' w' => (fun (m : (List (List Fact))) => ∃ (ab : PHeap) (l : Value), PHeap.le a5 ab ∧ St w0 ab (Res.arr (Qp encFact) 24 l m :: H) w' ∧ Fx f' [(26, O (k' : Int)), (3, l), (12, i), (13, O ((a.Ops.length : Int))), (14, O ((ay : Int))), (24, a6), (25, O ((af.Effs.length : Int)))]) s') aj ?_ ?_ ?_
  ·have aU := (au.f1).drop
   exact fq
  ·intro bb m bo aM b5 ba al d
   obtain ⟨bp, l, be, x, ⟨aN, rfl⟩⟩ := al
   obtain ⟨a7, a2, d⟩ := Zg d
   refine G ?_
   refine QI Z Z Z a2 ?_
   intro aH bk ah
   refine G ?_
   refine Zw (E := encEffect) x A60.h Z Z Z ah ?_
   intro bv a3
   obtain ⟨q, rfl, z⟩ := QcQ.1 a3
   refine G ?_
   refine Exec.alloc (cs := [Vn, O 0, O 0]) x Z60 Z Z ?_
   intro aI b6 aV
   refine G ?_
   refine Xst Z Z Z ?_
   intro b7 av
   refine G ?_
   refine Exec.buildSlice (Te := 24) (cs := [q]) av Z (Qd (c := [q]) (Qf Z (Qj z.one)) Qg) (fun _ => by kernel_rfl) ?_
   intro aJ b8 aw
   obtain ⟨bf, a4, d⟩ := Zg d
   refine G ?_
   refine Qh (E := (Qp encFact)) (ys := [a7.When]) aw.f2 S119.h Z24 Z (by decide) Z Z Z Z ⟨[q], [], Z, ⟨_, Z, z⟩, Z⟩ Z a4 ?_
   intro bw b9 aW
   cases d
   refine G ?_
   exact fq
  intro aO bA am
  obtain ⟨bq, l, bg, aX, ⟨aP, rfl⟩⟩ := am
  cases b
  refine G ?_
  exact fq
 intro aQ bB an
 obtain ⟨br, j, bh, ax, ⟨aR, rfl⟩⟩ := an
 cases hm
 refine G ?_
 refine ⟨_, Qa5 Z, ?_⟩
 obtain ⟨bs, bi, aY, bm⟩ := ax.freezeArr
 exact fq
theorem N81 : (Tryz.f81.name == "runtime.NumGoroutine") = false := by kernel_rfl
theorem QdA {w0 w : World} {s : PHeap} {H : List Res} {a : (List Fact)} {c : Value} {r : Bool} (hm : YH a = some r) (hS : St w0 s (H) w) (f : SliceRep encFact s c a) :
  Calls Tryz.prog 81 #[c] w fun e w' => ∃ v, e = .returned v ∧ ((fun (d : Bool) => ∃ (b : PHeap) , PHeap.le s b ∧ St w0 b (H) w' ∧ v = Value.bool (d)) r) := by
 unfold YH at hm
 refine Ql Tryz.func81 Z Z ?_
 cases hm
 refine G ?_
 exact fr
theorem Y2 {w0 w : World} {s : PHeap} {H : List Res} {b : (List (List Fact))} {c : Value} {r : Int} (hm : Jk b = some r) (hS : St w0 s (H) w) (aj : SliceRep (Qp encFact) s c b) :
  Calls Tryz.prog 93 #[c, Value.func (.func 81) #[] #[]] w fun e w' => ∃ v, e = .returned v ∧ ((fun (ai : Int) => ∃ (l : PHeap) , PHeap.le s l ∧ St w0 l (H) w' ∧ v = O ai) r) := by
 unfold Jk at hm
 refine Ql Tryz.func93 Z Z ?_
 obtain ⟨d, q, ac, aa, y⟩ := Qu hm
 refine Zc (Zd (g ?_))
 refine Zc (Zc (Zd (g ?_)))
 refine Qs (M := fun f' w' => ∃ s', (d = .next s' ∨ d = .brk s') ∧ (fun (_ : Unit) => ∃ (m : PHeap) , PHeap.le s m ∧ St w0 m (H) w' ∧ Fx f' [(0, c), (1, Value.func (.func 81) #[] #[]), (7, O ((b.length : Int)))]) s') ?_ ?_
 ·refine G ?_
  refine QC (fun k' s' f' w' => (fun (_ : Unit) => ∃ (n : PHeap) , PHeap.le s n ∧ St w0 n (H) w' ∧ Fx f' [(8, O (k' : Int)), (0, c), (1, Value.func (.func 81) #[] #[]), (7, O ((b.length : Int)))]) s') q ?_ ?_ ?_
  ·exact fq
  ·intro ay a8 al am aC ax t a ad
   obtain ⟨a4, az, i, ⟨an, rfl⟩⟩ := t
   obtain ⟨o, af, a⟩ := Zg a
   refine G ?_
   refine QI Z Z Z af ?_
   intro ak a3 p
   refine G ?_
   refine Zw (E := (Qp encFact)) i A24.h Z Z Z p ?_
   intro aB ag
   have ah : SliceRep _ _ _ (o) := QG.1 ag
   refine G ?_
   refine Qfp Z Z Tryz.func81 Z N81 (Zi Z Qx) ((QdA (Qd9 o) i ah).mono ?_)
   rintro _ aD ⟨_, rfl, ⟨a5, a0, au, rfl⟩⟩
   refine ⟨_, Z, ?_⟩
   refine G ?_
   rcases Qv a with ⟨z, a⟩ | ⟨z, a⟩
   ·cases a
    have ab := ac _ (ad (by intro _ h; cases h))
    cases ab
    refine G ?_
    exact fr
   cases a
   refine G ?_
   exact ⟨_, Z, fq⟩
  intro a9 ao aE u ae
  obtain ⟨a6, a1, av, ⟨ap, rfl⟩⟩ := u
  refine G ?_
  exact ⟨_, .inl ae, fq⟩
 rintro aq aF ⟨aA, j, x⟩
 have hm := j.elim (aa _) (y _)
 clear j
 obtain ⟨a7, a2, aw, ⟨ar, rfl⟩⟩ := x
 cases hm
 refine G ?_
 exact fr
theorem Yk {w0 w : World} {s : PHeap} {H : List Res} {b : (List (List Fact))} {c : Value} {r : Bool} (hm : Jb b = some r) (hS : St w0 s (H) w) (d : SliceRep (Qp encFact) s c b) :
  Calls Tryz.prog 80 #[c, Value.func (.func 81) #[] #[]] w fun e w' => ∃ v, e = .returned v ∧ ((fun (g : Bool) => ∃ (a : PHeap) , PHeap.le s a ∧ St w0 a (H) w' ∧ v = Value.bool (g)) r) := by
 unfold Jb at hm
 refine Ql Tryz.func80 Z Z ?_
 obtain ⟨l, f, hm⟩ := Zg hm
 refine G ?_
 refine Tc Z Z Z Z (Y2 f hS d).r ?_
 rintro _ k ⟨j, i, h, rfl⟩
 cases hm
 refine G ?_
 exact fr
theorem Qfr {w0 w : World} {s : PHeap} {H : List Res} {a : Task} {i : Value} {j : Value} {l : Value} {c : Value} {r : Bool} (hm : YV a = some r) (hS : St w0 s (H) w) (ax : SliceRep (Qc .i64) s i a.Vars) (ay : SliceRep (Qc .i64) s j a.Init) (az : SliceRep encFact s l a.Goal) (a0 : SliceRep encOp s c a.Ops) :
  Calls Tryz.prog 56 #[Value.agg #[i, j, l, c]] w fun e w' => ∃ v, e = .returned v ∧ ((fun (aw : Bool) => ∃ (q : PHeap) , PHeap.le s q ∧ St w0 q (H) w' ∧ v = Value.bool (aw)) r) := by
 unfold YV at hm
 refine Ql Tryz.func56 Z Z (G ?_)
 refine JH Z Z ?_
 intro d bf aC
 refine g ?_
 refine Zc (Zc (Qs (M := fun f' w' => ∃ (t : PHeap) , PHeap.le s t ∧ St w0 t (Res.box d 27 [i, j, l, c] :: H) w' ∧ Fx f' [(1, Vq d), (14, Vb (((decide (64 < (a.Vars.length : Int))) || decide (4096 < (a.Ops.length : Int)))))]) ?_ ?_))
 ·refine G ?_
  rcases tf (decide (64 < (a.Vars.length : Int))) with ai | ai
  ·refine G ?_
   exact fq
  refine G ?_
  exact fq
 intro a4 bg ad
 obtain ⟨u, aK, aD, ⟨a5, rfl⟩⟩ := ad
 refine G ?_
 rcases Qv hm with ⟨o, hm⟩ | ⟨o, hm⟩
 ·cases hm
  refine G ?_
  exact fr
 obtain ⟨m, aa, am, ak, ah⟩ := Qu hm
 refine W_c Z o (Qbk (JG (Ze (Zc (Zc (Zd (g ?_)))))))
 refine Qs (M := fun f' w' => ∃ s', (m = .next s' ∨ m = .brk s') ∧ (fun (_ : Unit) => ∃ (x : PHeap) , PHeap.le u x ∧ St w0 x (Res.box d 27 [i, j, l, c] :: H) w' ∧ Fx f' [(1, Vq d), (16, c), (17, O ((a.Ops.length : Int)))]) s') ?_ ?_
 ·refine G ?_
  refine QC (fun k' s' f' w' => (fun (_ : Unit) => ∃ (y : PHeap) , PHeap.le u y ∧ St w0 y (Res.box d 27 [i, j, l, c] :: H) w' ∧ Fx f' [(18, O (k' : Int)), (1, Vq d), (16, c), (17, O ((a.Ops.length : Int)))]) s') aa ?_ ?_ ?_
  ·exact fq
  ·intro aJ aY a3 a6 bh aI ab b an
   obtain ⟨aT, aL, n, ⟨a7, rfl⟩⟩ := ab
   obtain ⟨bo, ap, b⟩ := Zg b
   refine G ?_
   refine QI Z Z Z ap ?_
   intro a1 aQ z
   refine G ?_
   refine Zw (E := encOp) n A55.h Z Z Z z ?_
   intro bd aq
   obtain ⟨bb, bc, rfl, aR, aS⟩ := QbE.1 aq
   refine G ?_
   refine Exec.alloc (cs := [Value.string (⟨#[]⟩), O 0, Vn, Vn]) n Z55 Z Z ?_
   intro a2 bi aE
   refine G ?_
   refine Xst Z Z Z ?_
   intro bj aF
   refine G ?_
   rcases Qv b with ⟨aj, b⟩ | ⟨aj, b⟩
   ·cases b
    have al := am _ (an (by intro _ h; cases h))
    cases al
    refine G ?_
    exact fr
   cases b
   refine G ?_
   exact ⟨_, Z, fq⟩
  intro aZ a8 bk ac ao
  obtain ⟨aU, aM, aG, ⟨a9, rfl⟩⟩ := ac
  refine G ?_
  exact ⟨_, .inl ao, fq⟩
 rintro aA bl ⟨ba, p, ae⟩
 have hm := p.elim (ak _) (ah _)
 clear p
 obtain ⟨aV, aN, af, ⟨aB, rfl⟩⟩ := ae
 obtain ⟨bp, ar, hm⟩ := Zg hm
 refine G ?_
 refine Tc Z Z Z Z (QaD ar af rq rq rq rq).r ?_
 rintro be bm ⟨aW, _, aO, ag, rfl, av⟩
 obtain ⟨bq, au, hm⟩ := Zg hm
 refine G ?_
 refine Tc Z Z Z Z (Yk au ag av).r ?_
 rintro _ bn ⟨aX, aP, aH, rfl⟩
 cases hm
 refine G ?_
 exact fr
instance F55_1 : FTy Tryz.prog 55 1 1 := ⟨by kernel_rfl⟩
theorem Qer {w0 w : World} {s : PHeap} {H : List Res} {x : (List Int)} {c : (List Int)} {d : Value} {i : Value} {r : Bool} (hm : YA x c = some r) (hS : St w0 s (H) w) (aw : SliceRep (Qc .i64) s d x) (ax : SliceRep (Qc .i64) s i c) :
  Calls Tryz.prog 57 #[d, i] w fun e w' => ∃ v, e = .returned v ∧ ((fun (av : Bool) => ∃ (p : PHeap) , PHeap.le s p ∧ St w0 p (H) w' ∧ v = Value.bool (av)) r) := by
 unfold YA at hm
 refine Ql Tryz.func57 Z Z (G ?_)
 rcases Qv hm with ⟨n, hm⟩ | ⟨n, hm⟩
 ·cases hm
  refine G ?_
  exact fr
 obtain ⟨l, aa, ak, ai, af⟩ := Qu hm
 refine W_c Z n (Qbk (JG (Ze (Zc (Zc (Zd (g ?_)))))))
 refine Qs (M := fun f' w' => ∃ s', (l = .next s' ∨ l = .brk s') ∧ (fun (_ : Unit) => ∃ (q : PHeap) , PHeap.le s q ∧ St w0 q (H) w' ∧ Fx f' [(0, d), (12, i), (13, O ((c.length : Int)))]) s') ?_ ?_
 ·refine G ?_
  refine QC (fun k' s' f' w' => (fun (_ : Unit) => ∃ (t : PHeap) , PHeap.le s t ∧ St w0 t (H) w' ∧ Fx f' [(14, O (k' : Int)), (0, d), (12, i), (13, O ((c.length : Int)))]) s') aa ?_ ?_ ?_
  ·exact fq
  ·intro an aM a0 a1 aR aC ab a al
   obtain ⟨au, aD, m, ⟨a2, rfl⟩⟩ := ab
   obtain ⟨aV, ao, a⟩ := Zg a
   refine G ?_
   refine QI Z Z Z ao ?_
   intro ay aH y
   refine G ?_
   refine Zw (E := (Qc .i64)) m A3.h Z Z Z y ?_
   intro aP ap
   obtain rfl := Qm.1 ap
   obtain ⟨j, b, a⟩ := Zg a
   refine g ?_
   refine Zc (Qs (M := fun f' w' => (fun (j : Bool) => ∃ (u : PHeap) , PHeap.le au u ∧ St w0 u (H) w' ∧ Fx f' [(0, d), (12, i), (13, O ((c.length : Int))), (14, O ((an : Int))), (28, Vb j)]) j) ?_ ?_)
   ·refine G ?_
    rcases Qv b with ⟨ag, b⟩ | ⟨ag, b⟩
    ·cases b
     refine G ?_
     exact fq
    obtain ⟨aW, aq, b⟩ := Zg b
    refine G ?_
    refine QI Z Z Z aq ?_
    intro az aI z
    refine G ?_
    refine Zw (E := (Qc .i64)) m A3.h Z Z Z z ?_
    intro aQ ar
    obtain rfl := Qm.1 ar
    cases b
    refine G ?_
    exact fq
   intro a3 aS ad
   obtain ⟨aJ, aE, a9, ⟨a4, rfl⟩⟩ := ad
   refine G ?_
   rcases Qv a with ⟨ah, a⟩ | ⟨ah, a⟩
   ·cases a
    have aj := ak _ (al (by intro _ h; cases h))
    cases aj
    refine G ?_
    exact fr
   cases a
   refine G ?_
   exact ⟨_, Z, fq⟩
  intro aN a5 aT ac am
  obtain ⟨aK, aF, aA, ⟨a6, rfl⟩⟩ := ac
  refine G ?_
  exact ⟨_, .inl am, fq⟩
 rintro a7 aU ⟨aO, o, ae⟩
 have hm := o.elim (ai _) (af _)
 clear o
 obtain ⟨aL, aG, aB, ⟨a8, rfl⟩⟩ := ae
 cases hm
 refine G ?_
 exact fr
theorem QaY {w0 w : World} {s : PHeap} {H : List Res} {z : (List Int)} {c : (List Fact)} {d : Value} {i : Value} {r : Bool} (hm : KS z c = some r) (hS : St w0 s (H) w) (ab : SliceRep (Qc .i64) s d z) (a5 : SliceRep encFact s i c) :
  Calls Tryz.prog 59 #[d, i] w fun e w' => ∃ v, e = .returned v ∧ ((fun (a4 : Bool) => ∃ (t : PHeap) , PHeap.le s t ∧ St w0 t (H) w' ∧ v = Value.bool (a4)) r) := by
 unfold KS at hm
 refine Ql Tryz.func59 Z Z ?_
 obtain ⟨n, ae, au, aq, al⟩ := Qu hm
 refine Zc (Zd (g ?_))
 refine Zc (Zd (g ?_))
 refine Zc (Zc (Zd (g ?_)))
 refine Qs (M := fun f' w' => ∃ s', (n = .next s' ∨ n = .brk s') ∧ (fun (q : Int) => ∃ (u : PHeap) , PHeap.le s u ∧ St w0 u (H) w' ∧ Fx f' [(0, d), (5, O q), (8, i), (9, O ((c.length : Int)))]) s') ?_ ?_
 ·refine G ?_
  refine QC (fun k' s' f' w' => (fun (j : Int) => ∃ (x : PHeap) , PHeap.le s x ∧ St w0 x (H) w' ∧ Fx f' [(10, O (k' : Int)), (0, d), (5, O j), (8, i), (9, O ((c.length : Int)))]) s') ae ?_ ?_ ?_
  ·exact fq
  ·intro ax j a8 aA aX aM af b av
   obtain ⟨a3, ay, o, ⟨aB, rfl⟩⟩ := af
   obtain ⟨aa, az, b⟩ := Zg b
   refine G ?_
   refine QI Z Z Z az ?_
   intro a6 aQ ac
   refine G ?_
   refine Zw (E := encFact) o A51.h Z Z Z ac ?_
   intro aV a0
   obtain rfl := Ju.1 a0
   refine G ?_
   refine Exec.alloc (cs := [O 0, O 0]) o Z51 Z Z ?_
   intro m aY aI
   refine G ?_
   refine Xst Z Z Z ?_
   intro aZ aj
   obtain ⟨l, a, b⟩ := Zg b
   refine g ?_
   refine Zc (Zc (Qs (M := fun f' w' => (fun (l : Bool) => ∃ (y : PHeap) , PHeap.le a3 y ∧ St w0 y (Res.box m 51 [O (aa.Var), O (aa.Val)] :: H) w' ∧ Fx f' [(0, d), (7, Vq m), (8, i), (9, O ((c.length : Int))), (10, O ((ax : Int))), (39, Vb l)]) l) ?_ ?_))
   ·refine KM (n0 := 26) (qs 0 26 .done) KL (by kernel_rfl) (by kernel_rfl) ?_
    have ak := aj.drew
    refine G ?_
    rcases Qv a with ⟨am, a⟩ | ⟨am, a⟩
    ·cases a
     refine G ?_
     exact fq
    refine G ?_
    rcases Qv a with ⟨an, a⟩ | ⟨an, a⟩
    ·cases a
     refine G ?_
     exact fq
    refine G ?_
    rcases Qv a with ⟨ao, a⟩ | ⟨ao, a⟩
    ·cases a
     refine G ?_
     exact fq
    obtain ⟨bd, a1, a⟩ := Zg a
    refine G ?_
    refine Q1 S22.h Z Z Z (ab.mono ay) a1 ?_
    intro a7 aR ad a9
    refine ⟨Z, ?_⟩
    refine G ?_
    refine Zw (E := (Qc .i64)) ak A3.h Z Z Z ad ?_
    intro aW a2
    obtain rfl := Qm.1 a2
    refine ⟨Z, ?_⟩
    cases a
    refine G ?_
    exact fq
   intro aC ba ah
   obtain ⟨aS, aN, aJ, ⟨aD, rfl⟩⟩ := ah
   refine G ?_
   rcases Qv b with ⟨ap, b⟩ | ⟨ap, b⟩
   ·cases b
    have ar := au _ (av (by intro _ h; cases h))
    cases ar
    refine G ?_
    exact fr
   cases b
   refine G ?_
   exact ⟨_, Z, fq⟩
  intro j aE bb ag aw
  obtain ⟨aT, aO, aK, ⟨aF, rfl⟩⟩ := ag
  refine G ?_
  exact ⟨_, .inl aw, fq⟩
 rintro aG bc ⟨q, p, ai⟩
 have hm := p.elim (aq _) (al _)
 clear p
 obtain ⟨aU, aP, aL, ⟨aH, rfl⟩⟩ := ai
 cases hm
 refine G ?_
 exact fr
instance F60_1 : FTy Tryz.prog 60 1 1 := ⟨by kernel_rfl⟩
instance F60_2 : FTy Tryz.prog 60 2 2 := ⟨by kernel_rfl⟩
instance F55_0 : FTy Tryz.prog 55 0 0 := ⟨by kernel_rfl⟩
theorem Qfq {w0 w : World} {s : PHeap} {H : List Res} {a : ByteArray} {r : Bool} (hm : YU a = some r) (hS : St w0 s (H) w) :
  Calls Tryz.prog 60 #[Value.string (a)] w fun e w' => ∃ v, e = .returned v ∧ ((fun (an : Bool) => ∃ (m : PHeap) , PHeap.le s m ∧ St w0 m (H) w' ∧ v = Value.bool (an)) r) := by
 unfold YU at hm
 refine Ql Tryz.func60 Z Z (G ?_)
 refine Y0 Tryz.underlying9 Z Z ?_
 obtain ⟨aB, ak, hm⟩ := Zg hm
 obtain ⟨i, q, ag, ae, aa⟩ := Qu hm
 refine g ?_
 refine Qs (M := fun f' w' => ∃ s', (i = .next s' ∨ i = .brk s') ∧ (fun (_ : Unit) => ∃ (n : PHeap) , PHeap.le s n ∧ St w0 n (H) w' ∧ Fx f' [(0, Value.string (a)), (5, O ((a.size : Int)))]) s') ?_ ?_
 ·refine G ?_
  refine QC (fun k' s' f' w' => (fun (_ : Unit) => ∃ (o : PHeap) , PHeap.le s o ∧ St w0 o (H) w' ∧ Fx f' [(6, O (k' : Int)), (0, Value.string (a)), (5, O ((a.size : Int)))]) s') q ?_ ?_ ?_
  ·exact fq
  ·intro aj a8 ao ap aC ad t b ah
   obtain ⟨al, a2, az, ⟨aq, rfl⟩⟩ := t
   obtain ⟨d, c, b⟩ := Zg b
   refine Zc (Zd (g ?_))
   refine Zc (YT (Zx (decide_eq_true (by omega))) (JG (Ze (Zc (YF (Zc (Zd (g ?_))))))))
   refine Zc (Qs (M := fun f' w' => (fun (d : Bool) => ∃ (p : PHeap) , PHeap.le al p ∧ St w0 p (H) w' ∧ Fx f' [(0, Value.string (a)), (5, O ((a.size : Int))), (6, O ((aj : Int))), (18, Vb d)]) d) ?_ ?_)
   ·obtain ⟨aG, l, c⟩ := Zg c
    refine G ?_
    refine Qag Tryz.underlying9 Z Z Z l (G ?_)
    rcases Qv c with ⟨ab, c⟩ | ⟨ab, c⟩
    ·cases c
     refine G ?_
     exact fq
    refine G ?_
    refine Qag Tryz.underlying9 Z Z Z l ?_
    cases c
    refine G ?_
    exact fq
   intro ar aD x
   obtain ⟨am, a3, z, ⟨au, rfl⟩⟩ := x
   refine G ?_
   rcases Qv b with ⟨ac, b⟩ | ⟨ac, b⟩
   ·cases b
    have af := ag _ (ah (by intro _ h; cases h))
    cases af
    refine G ?_
    exact fr
   cases b
   refine G ?_
   refine ⟨_, Z, ?_⟩; exact ⟨am, lq, z, (Fx.mk (FxL.cons (J5 ad (by have h := QbC ak; simp at h; simp only [maxLen]; omega)) fxl))⟩
  intro a9 av aE u ai
  obtain ⟨a6, a4, a0, ⟨aw, rfl⟩⟩ := u
  refine G ?_
  exact ⟨_, .inl ai, fq⟩
 rintro ax aF ⟨aA, j, y⟩
 have hm := j.elim (ae _) (aa _)
 clear j
 obtain ⟨a7, a5, a1, ⟨ay, rfl⟩⟩ := y
 refine G ?_
 refine Y0 Tryz.underlying9 Z Z ?_
 cases hm
 refine G ?_
 exact fr
theorem Qcr {w0 w : World} {s : PHeap} {H : List Res} {d : Task} {i : Value} {j : Value} {l : Value} {b : Value} {r : (Option Int)} (hm : KT d = some r) (hS : St w0 s (H) w) (aJ : SliceRep (Qc .i64) s i d.Vars) (aK : SliceRep (Qc .i64) s j d.Init) (aL : SliceRep encFact s l d.Goal) (aM : SliceRep encOp s b d.Ops) :
  Calls Tryz.prog 27 #[Value.agg #[i, j, l, b]] w fun e w' => ∃ v, e = .returned v ∧ ((fun (cD : (Option Int)) => ∃ (au : PHeap) , PHeap.le s au ∧ St w0 au (H) w' ∧ v = Qam 38 (cD)) r) := by
 unfold KT at hm
 refine Ql Tryz.func27 Z Z (G ?_)
 refine JH Z Z ?_
 intro a fC bt
 obtain ⟨go, cp, hm⟩ := Zg hm
 refine G ?_
 refine Tc Z Z Z Z (Qfr cp bt aJ aK aL aM).r ?_
 rintro _ fD ⟨av, eh, dA, rfl⟩
 refine G ?_
 rcases Qv hm with ⟨ak, hm⟩ | ⟨ak, hm⟩
 ·refine G ?_
  refine Exec.makeInterface C38 Z Z ?_
  cases hm
  refine G ?_
  exact fr
 obtain ⟨z, aT, bV, bJ, b5⟩ := Qu hm
 refine W_c Z ak (Qbk (JG (Ze (Zc (Zc (Zd (g ?_)))))))
 refine Qs (M := fun f' w' => ∃ s', (z = .next s' ∨ z = .brk s') ∧ (fun (_ : Unit) => ∃ (aw : PHeap) , PHeap.le av aw ∧ St w0 aw (Res.box a 27 [i, j, l, b] :: H) w' ∧ Fx f' [(1, Vq a), (19, i), (20, O ((d.Vars.length : Int)))]) s') ?_ ?_
 ·refine G ?_
  refine QC (fun k' s' f' w' => (fun (_ : Unit) => ∃ (ax : PHeap) , PHeap.le av ax ∧ St w0 ax (Res.box a 27 [i, j, l, b] :: H) w' ∧ Fx f' [(21, O (k' : Int)), (1, Vq a), (19, i), (20, O ((d.Vars.length : Int)))]) s') aT ?_ ?_ ?_
  ·exact fq
  ·intro cn fg cP cV fE dY aZ q cb
   obtain ⟨cA, ei, bu, ⟨cW, rfl⟩⟩ := aZ
   obtain ⟨x, cq, q⟩ := Zg q
   refine G ?_
   refine QI Z Z Z cq ?_
   intro cE e9 aN
   refine G ?_
   refine Zw (E := (Qc .i64)) bu A3.h Z Z Z aN ?_
   intro f6 cr
   obtain rfl := Qm.1 cr
   refine g ?_
   refine Zc (Qs (M := fun f' w' => ∃ (ay : PHeap) , PHeap.le cA ay ∧ St w0 ay (Res.box a 27 [i, j, l, b] :: H) w' ∧ Fx f' [(1, Vq a), (19, i), (20, O ((d.Vars.length : Int))), (21, O ((cn : Int))), (30, Vb (((decide (x < 1)) || decide (64 < x))))]) ?_ ?_)
   ·refine G ?_
    rcases tf (decide (x < 1)) with bB | bB
    ·refine G ?_
     exact fq
    refine G ?_
    exact fq
   intro cX fF bl
   obtain ⟨eN, ej, dB, ⟨cY, rfl⟩⟩ := bl
   refine G ?_
   rcases Qv q with ⟨bC, q⟩ | ⟨bC, q⟩
   ·refine G ?_
    refine Exec.makeInterface C38 Z Z ?_
    cases q
    have bP := bV _ (cb (by intro _ h; cases h))
    cases bP
    refine G ?_
    exact fr
   cases q
   refine G ?_
   exact ⟨_, Z, fq⟩
  intro fh cZ fG ba cc
  obtain ⟨eO, ek, dC, ⟨da, rfl⟩⟩ := ba
  refine G ?_
  exact ⟨_, .inl cc, fq⟩
 rintro db fH ⟨fi, al, bm⟩
 have hm := al.elim (bJ _) (b5 _)
 clear al
 obtain ⟨az, el, dD, ⟨dc, rfl⟩⟩ := bm
 obtain ⟨aa, aU, bW, bK, b6⟩ := Qu hm
 refine g ?_
 refine Zc (Zc (Zd (g ?_)))
 refine Qs (M := fun f' w' => ∃ s', (aa = .next s' ∨ aa = .brk s') ∧ (fun (_ : Unit) => ∃ (a0 : PHeap) , PHeap.le az a0 ∧ St w0 a0 (Res.box a 27 [i, j, l, b] :: H) w' ∧ Fx f' [(1, Vq a), (34, b), (35, O ((d.Ops.length : Int)))]) s') ?_ ?_
 ·refine G ?_
  refine QC (fun k' s' f' w' => (fun (_ : Unit) => ∃ (a1 : PHeap) , PHeap.le az a1 ∧ St w0 a1 (Res.box a 27 [i, j, l, b] :: H) w' ∧ Fx f' [(36, O (k' : Int)), (1, Vq a), (34, b), (35, O ((d.Ops.length : Int)))]) s') aU ?_ ?_ ?_
  ·exact fq
  ·intro co fj cQ dd fI dZ bb t cd
   obtain ⟨cB, em, af, ⟨de, rfl⟩⟩ := bb
   obtain ⟨y, ct, t⟩ := Zg t
   refine G ?_
   refine QI Z Z Z ct ?_
   intro cF eA aO
   refine G ?_
   refine Zw (E := encOp) af A55.h Z Z Z aO ?_
   intro f7 cu
   obtain ⟨f0, f1, rfl, eF, eG⟩ := QbE.1 cu
   refine G ?_
   refine Exec.alloc (cs := [Value.string (⟨#[]⟩), O 0, Vn, Vn]) af Z55 Z Z ?_
   intro cG fJ dE
   refine G ?_
   refine Xst Z Z Z ?_
   intro fK dF
   refine g ?_
   refine Zc (Qs (M := fun f' w' => ∃ (a2 : PHeap) , PHeap.le cB a2 ∧ St w0 a2 (Res.box a 27 [i, j, l, b] :: H) w' ∧ Fx f' [(1, Vq a), (34, b), (35, O ((d.Ops.length : Int))), (36, O ((co : Int))), (47, Vb (((decide (y.Cost < 0)) || decide (1048576 < y.Cost))))]) ?_ ?_)
   ·refine G ?_
    rcases tf (decide (y.Cost < 0)) with bD | bD
    ·refine G ?_
     exact fq
    refine G ?_
    exact fq
   intro df fL bn
   obtain ⟨eP, en, dG, ⟨dg, rfl⟩⟩ := bn
   refine G ?_
   rcases Qv t with ⟨bE, t⟩ | ⟨bE, t⟩
   ·refine G ?_
    refine Exec.makeInterface C38 Z Z ?_
    cases t
    have bQ := bW _ (cd (by intro _ h; cases h))
    cases bQ
    refine G ?_
    exact fr
   cases t
   refine G ?_
   exact ⟨_, Z, fq⟩
  intro fk dh fM bc ce
  obtain ⟨eQ, eo, dH, ⟨di, rfl⟩⟩ := bc
  refine G ?_
  exact ⟨_, .inl ce, fq⟩
 rintro dj fN ⟨fl, am, bo⟩
 have hm := am.elim (bK _) (b6 _)
 clear am
 obtain ⟨eR, ep, bv, ⟨dk, rfl⟩⟩ := bo
 obtain ⟨gp, cv, hm⟩ := Zg hm
 refine G ?_
 refine Tc Z Z Z Z (Qer cv bv rq rq).r ?_
 rintro _ fO ⟨eS, er, bw, rfl⟩
 refine G ?_
 rcases Qv hm with ⟨bF, hm⟩ | ⟨bF, hm⟩
 ·refine G ?_
  refine Exec.makeInterface C38 Z Z ?_
  cases hm
  refine G ?_
  exact fr
 obtain ⟨aI, cw, hm⟩ := Zg hm
 refine G ?_
 refine Tc Z Z Z Z (QaD cw bw rq rq rq rq).r ?_
 rintro aG fP ⟨a3, _, es, dI, rfl, eH⟩
 obtain ⟨ab, aV, bX, bL, b7⟩ := Qu hm
 refine g ?_
 refine Qs (M := fun f' w' => ∃ s', (ab = .next s' ∨ ab = .brk s') ∧ (fun (_ : Unit) => ∃ (a4 : PHeap) , PHeap.le a3 a4 ∧ St w0 a4 (Res.box a 27 [i, j, l, b] :: H) w' ∧ Fx f' [(1, Vq a), (58, aG), (59, O ((aI.length : Int)))]) s') ?_ ?_
 ·refine G ?_
  refine QC (fun k' s' f' w' => (fun (_ : Unit) => ∃ (a5 : PHeap) , PHeap.le a3 a5 ∧ St w0 a5 (Res.box a 27 [i, j, l, b] :: H) w' ∧ Fx f' [(60, O (k' : Int)), (1, Vq a), (58, aG), (59, O ((aI.length : Int)))]) s') aV ?_ ?_ ?_
  ·exact fq
  ·intro ee fm cR dl fQ ea bd n cf
   obtain ⟨eT, et, ag, ⟨dm, rfl⟩⟩ := bd
   obtain ⟨cC, cx, n⟩ := Zg n
   refine G ?_
   refine QI Z Z Z cx ?_
   intro cH eB aP
   refine G ?_
   refine Zw (E := (Qp encFact)) ag A24.h Z Z Z aP ?_
   intro f8 cy
   have c8 : SliceRep _ _ _ (cC) := QG.1 cy
   obtain ⟨gq, cz, n⟩ := Zg n
   refine G ?_
   refine Tc Z Z Z Z (QaY cz ag rq c8).r ?_
   rintro _ fR ⟨eU, eu, dJ, rfl⟩
   refine G ?_
   rcases Qv n with ⟨bG, n⟩ | ⟨bG, n⟩
   ·refine G ?_
    refine Exec.makeInterface C38 Z Z ?_
    cases n
    have bR := bX _ (cf (by intro _ h; cases h))
    cases bR
    refine G ?_
    exact fr
   cases n
   refine G ?_
   exact ⟨_, Z, fq⟩
  intro fn dn fS be cg
  obtain ⟨eV, ev, dK, ⟨dp, rfl⟩⟩ := be
  refine G ?_
  exact ⟨_, .inl cg, fq⟩
 rintro dq fT ⟨fo, an, bp⟩
 have hm := an.elim (bL _) (b7 _)
 clear an
 obtain ⟨a6, ew, dL, ⟨dr, rfl⟩⟩ := bp
 obtain ⟨ac, aW, bY, bM, b8⟩ := Qu hm
 refine g ?_
 refine Zc (Zc (Zd (g ?_)))
 refine Qs (M := fun f' w' => ∃ s', (ac = .next s' ∨ ac = .brk s') ∧ (fun (_ : Unit) => ∃ (a7 : PHeap) , PHeap.le a6 a7 ∧ St w0 a7 (Res.box a 27 [i, j, l, b] :: H) w' ∧ Fx f' [(1, Vq a), (72, b), (73, O ((d.Ops.length : Int)))]) s') ?_ ?_
 ·refine G ?_
  refine QC (fun k' s' f' w' => (fun (_ : Unit) => ∃ (a8 : PHeap) , PHeap.le a6 a8 ∧ St w0 a8 (Res.box a 27 [i, j, l, b] :: H) w' ∧ Fx f' [(74, O (k' : Int)), (1, Vq a), (72, b), (73, O ((d.Ops.length : Int)))]) s') aW ?_ ?_ ?_
  ·exact fq
  ·intro ar fp cS ds fU eb bf u ch
   obtain ⟨a9, ex, ah, ⟨dt, rfl⟩⟩ := bf
   obtain ⟨aH, c0, u⟩ := Zg u
   refine G ?_
   refine QI Z Z Z c0 ?_
   intro cI eC aQ
   refine G ?_
   refine Zw (E := encOp) ah A55.h Z Z Z aQ ?_
   intro f9 c1
   obtain ⟨f2, aF, rfl, eI, eJ⟩ := QbE.1 c1
   refine G ?_
   refine Exec.alloc (cs := [Value.string (⟨#[]⟩), O 0, Vn, Vn]) ah Z55 Z Z ?_
   intro cJ fV dM
   refine G ?_
   refine Xst Z Z Z ?_
   intro fW bx
   obtain ⟨ad, aX, bZ, bN, b9⟩ := Qu u
   refine g ?_
   refine Zc (Zd (g ?_))
   refine Qs (M := fun f' w' => ∃ s', (ad = .next s' ∨ ad = .brk s') ∧ (fun (_ : Unit) => ∃ (aA : PHeap) , PHeap.le a9 aA ∧ St w0 aA (Res.box a 27 [i, j, l, b] :: H) w' ∧ Fx f' [(1, Vq a), (72, b), (73, O ((d.Ops.length : Int))), (74, O ((ar : Int))), (79, aF), (80, O ((aH.Effs.length : Int)))]) s') ?_ ?_
   ·refine G ?_
    refine QC (fun k' s' f' w' => (fun (_ : Unit) => ∃ (aB : PHeap) , PHeap.le a9 aB ∧ St w0 aB (Res.box a 27 [i, j, l, b] :: H) w' ∧ Fx f' [(81, O (k' : Int)), (1, Vq a), (72, b), (73, O ((d.Ops.length : Int))), (74, O ((ar : Int))), (79, aF), (80, O ((aH.Effs.length : Int)))]) s') aX ?_ ?_ ?_
    ·have dN := bx.drop
     exact fq
    ·intro ef fs cT du fX ec bg o ci
     obtain ⟨eW, ey, ai, ⟨dv, rfl⟩⟩ := bg
     obtain ⟨m, c2, o⟩ := Zg o
     refine G ?_
     refine QI Z Z Z c2 ?_
     intro cK eD aR
     refine G ?_
     refine Zw (E := encEffect) ai A60.h Z Z Z aR ?_
     intro fA c3
     obtain ⟨f3, rfl, eK⟩ := QcQ.1 c3
     refine G ?_
     refine Exec.alloc (cs := [Vn, O 0, O 0]) ai Z60 Z Z ?_
     intro cL fY dO
     refine G ?_
     refine Xst Z Z Z ?_
     intro fZ bz
     refine G ?_
     refine Exec.build Z (Qd (c := [O (m.Var)]) (Qf Z Z) (Qd (c := [O (m.Val)]) (Qf Z Z) Qg)) (v := Value.agg #[O (m.Var), O (m.Val)]) (fun _ => by kernel_rfl) (G ?_)
     refine Exec.buildSlice (Te := 51) (cs := [O (m.Var), O (m.Val)]) bz Z (Qd (c := [O (m.Var), O (m.Val)]) (Qf Z Z) Qg) (fun _ => by kernel_rfl) ?_
     intro cM ga b0
     have b1 := St.boxArr (E := encFact) (xs := [(⟨m.Var, m.Val⟩ : Fact)]) b0 ⟨[O (m.Var), O (m.Val)], [], rfl, ⟨[O (m.Var)], [O (m.Val)], rfl, rfl, rfl⟩, rfl⟩ (by simp [maxLen])
     obtain ⟨eX, ez, b2, c9⟩ := b1.freezeArr
     obtain ⟨gr, c4, o⟩ := Zg o
     refine G ?_
     refine Tc Z Z Z Z (QaY c4 b2 rq c9).r ?_
     rintro _ gb ⟨eY, e0, dP, rfl⟩
     refine G ?_
     rcases Qv o with ⟨bH, o⟩ | ⟨bH, o⟩
     ·refine G ?_
      refine Exec.makeInterface C38 Z Z ?_
      cases o
      have bS := bZ _ (ci (by intro _ h; cases h))
      cases bS
      have bT := bY _ (ch (by intro _ h; cases h))
      cases bT
      refine G ?_
      exact fr
     cases o
     refine G ?_
     exact ⟨_, Z, fq⟩
    intro ft dw gc bh cj
    obtain ⟨eZ, e1, dQ, ⟨dx, rfl⟩⟩ := bh
    refine G ?_
    exact ⟨_, .inl cj, fq⟩
   rintro dy gd ⟨fu, ao, bq⟩
   have u := ao.elim (bN _) (b9 _)
   clear ao
   obtain ⟨fa, e2, dR, ⟨dz, rfl⟩⟩ := bq
   cases u
   refine G ?_
   exact ⟨_, Z, fq⟩
  intro fv d0 gf bi ck
  obtain ⟨fb, e3, dS, ⟨d1, rfl⟩⟩ := bi
  refine G ?_
  exact ⟨_, .inl ck, fq⟩
 rintro d2 gg ⟨fw, ap, br⟩
 have hm := ap.elim (bM _) (b8 _)
 clear ap
 obtain ⟨aC, e4, b3, ⟨d3, rfl⟩⟩ := br
 obtain ⟨ae, aY, ca, bO, bA⟩ := Qu hm
 refine g ?_
 refine Zc (Zc (Zd (g ?_)))
 refine Qs (M := fun f' w' => ∃ s', (ae = .next s' ∨ ae = .brk s') ∧ (fun (_ : Unit) => ∃ (aD : PHeap) , PHeap.le aC aD ∧ St w0 aD (H) w' ∧ Fx f' [(99, b), (100, O ((d.Ops.length : Int)))]) s') ?_ ?_
 ·refine G ?_
  refine QC (fun k' s' f' w' => (fun (_ : Unit) => ∃ (aE : PHeap) , PHeap.le aC aE ∧ St w0 aE (H) w' ∧ Fx f' [(101, O (k' : Int)), (99, b), (100, O ((d.Ops.length : Int)))]) s') aY ?_ ?_ ?_
  ·have dT := b3.drop
   exact fq
  ·intro eg fx cU d4 gh ed bj p cl
   obtain ⟨fc, e5, aj, ⟨d5, rfl⟩⟩ := bj
   obtain ⟨gn, c5, p⟩ := Zg p
   refine G ?_
   refine QI Z Z Z c5 ?_
   intro cN eE aS
   refine G ?_
   refine Zw (E := encOp) aj A55.h Z Z Z aS ?_
   intro fB c6
   obtain ⟨f4, f5, rfl, eL, eM⟩ := QbE.1 c6
   refine G ?_
   refine Exec.alloc (cs := [Value.string (⟨#[]⟩), O 0, Vn, Vn]) aj Z55 Z Z ?_
   intro cO gi dU
   refine G ?_
   refine Xst Z Z Z ?_
   intro gj b4
   obtain ⟨gs, c7, p⟩ := Zg p
   refine G ?_
   refine Tc Z Z Z Z (Qfq c7 b4).r ?_
   rintro _ gk ⟨fd, e6, dV, rfl⟩
   refine G ?_
   rcases Qv p with ⟨bI, p⟩ | ⟨bI, p⟩
   ·refine G ?_
    refine Exec.makeInterface C38 Z Z ?_
    cases p
    have bU := ca _ (cl (by intro _ h; cases h))
    cases bU
    refine G ?_
    exact fr
   cases p
   refine G ?_
   exact ⟨_, Z, fq⟩
  intro fy d6 gl bk cm
  obtain ⟨fe, e7, dW, ⟨d7, rfl⟩⟩ := bk
  refine G ?_
  exact ⟨_, .inl cm, fq⟩
 rintro d8 gm ⟨fz, aq, bs⟩
 have hm := aq.elim (bO _) (bA _)
 clear aq
 obtain ⟨ff, e8, dX, ⟨d9, rfl⟩⟩ := bs
 cases hm
 refine G ?_
 exact fr
theorem Qaj {w0 w : World} {s : PHeap} {H : List Res} {fu : Nat} {l : Ground} {b4 : (List (List Int))} {aQ : Value} {a8 : Value} {a1 : Value} {aq : Value} {ar : Value} {bn : Value} {r : (Option Int) × Encoding} (hm : QX fu l b4 = some r) (hS : St w0 s (H) w) (ck : SliceRep encAtom s aQ l.Atoms) (cl : SliceRep encGFluent s a8 l.Fluents) (cm : SliceRep (Qc .i64) s a1 l.Init) (cn : SliceRep encCond s aq l.Goal) (co : SliceRep encGOp s ar l.Ops) (bu : SliceRep (Qp (Qc .i64)) s bn b4) :
  Calls Tryz.prog 11 #[Value.agg #[aQ, a8, a1, aq, ar], bn] w fun e w' => ∃ v, e = .returned v ∧ ((QO fun (ez : (Option Int)) (au : Encoding) => ∃ (ag : PHeap) (cc : Value) (cd : Value) (ce : Value) (cf : Value) (cg : Value) (ch : Value) (ci : Value), PHeap.le s ag ∧ St w0 ag (H) w' ∧ v = Value.tuple #[Value.agg #[cc, cd, ce, cf, cg, ch, ci], Qam 38 (ez)] ∧ SliceRep (Qc .i64) ag cc au.Task.Vars ∧ SliceRep (Qc .i64) ag cd au.Task.Init ∧ SliceRep encFact ag ce au.Task.Goal ∧ SliceRep encOp ag cf au.Task.Ops ∧ SliceRep encFact ag cg au.Atoms ∧ SliceRep (Qc .i64) ag ch au.Fluents ∧ SliceRep (Qc .i64) ag ci au.Ops) r) := by
 unfold QX at hm
 refine Ql Tryz.func11 Z Z (G ?_)
 refine Exec.box (cs := [aQ, a8, a1, aq, ar]) hS Z Z Z ?_
 intro aG gk c4
 obtain ⟨dY, a4, c5, a0⟩ := QbW (E := encGround) (y := l) c4 ⟨[aQ], [a8, a1, aq, ar], rfl, ⟨_, rfl, ck⟩, ⟨[a8], [a1, aq, ar], rfl, ⟨_, rfl, cl⟩, ⟨[a1], [aq, ar], rfl, ⟨_, rfl, cm⟩, ⟨[aq], [ar], rfl, ⟨_, rfl, cn⟩, ⟨_, rfl, co⟩⟩⟩⟩⟩
 refine G ?_
 refine Exec.alloc (cs := [Vn, Vn, Vn, Vn, Vn, Vn, Vn]) c5 Z29 Z Z ?_
 intro p gl b5
 obtain ⟨aD, af, hm⟩ := Zg hm
 refine g ?_
 refine Zc (Zc (Qs (M := fun f' w' => (fun (aD : Bool) => ∃ (bS : PHeap) , PHeap.le dY bS ∧ St w0 bS (Res.box p 29 [Vn, Vn, Vn, Vn, Vn, Vn, Vn] :: H) w' ∧ Fx f' [(1, bn), (2, Vq aG), (4, Vq p), (22, Vb aD)]) aD) ?_ ?_))
 ·refine G ?_
  refine Zw (E := encGround) b5 A44.h Z Z Z a0 ?_
  intro fX dz
  obtain ⟨fS, fT, fU, fV, fW, rfl, dL, dM, dN, dO, dP⟩ := Yh.1 dz
  obtain ⟨gX, d0, af⟩ := Zg af
  refine G ?_
  refine Tc Z Z Z (Zi Z Qx) (Kh d0 b5 dL dM dN dO dP).r ?_
  rintro _ gm ⟨dZ, aJ, b6, rfl⟩
  refine G ?_
  rcases JV af with ⟨ba, af⟩ | ⟨ba, af⟩
  ·have e9 := Zu af
   subst aD
   refine G ?_
   exact ⟨dZ, aJ, b6, (Fx.mk)⟩
  replace ba := Zk ba
  refine G ?_
  refine Exec.makeFunc Z (Zi Z Qx) ?_
  obtain ⟨gY, d1, af⟩ := Zg af
  refine G ?_
  refine Tc Z Z Z (Zi Z (Zi Z Qx)) (Y4 d1 b6 (bu.mono (Zt a4 aJ)) (a0.mono aJ)).r ?_
  rintro _ gn ⟨ea, dq, c6, rfl⟩
  have eA := Zu af
  subst aD
  refine G ?_
  exact ⟨ea, (Zt aJ dq), c6, (Fx.mk)⟩
 intro eH go c1
 obtain ⟨eb, ah, aU, ⟨eI, rfl⟩⟩ := c1
 refine G ?_
 rcases JV hm with ⟨bb, hm⟩ | ⟨bb, hm⟩
 ·refine G ?_
  refine Exec.build Z Qg (v := Value.agg #[Vn, Vn, Vn, Vn, Vn, Vn, Vn]) (fun _ => by kernel_rfl) (G ?_)
  refine Exec.makeInterface C38 Z Z (G ?_)
  refine Qe (ds := [Vn, Vn, Vn, Vn, Vn, Vn, Vn]) (es := [Vn, Vn, Vn, Vn, Vn, Vn, Vn]) aU A29.h Z Z Z Z (Zj Z (Zj Z (Zj Z (Zj Z (Zj Z (Zj Z (Zj Z Qk))))))) (Nat.le_of_ble_eq_true Z) Z ?_
  intro gp b7
  have eB := Zu hm
  subst r
  refine G ?_
  refine ⟨_, Qea Z ⟨_, _, Z, QaJ (b7) A29.h⟩ Z, ?_⟩
  exact ⟨eb, Vn, Vn, Vn, Vn, Vn, Vn, Vn, (Zt a4 ah), b7.drop, (QfM Z Z), (SliceRep.nil _ _), (SliceRep.nil _ _), (SliceRep.nil _ _), (SliceRep.nil _ _), (SliceRep.nil _ _), (SliceRep.nil _ _), (SliceRep.nil _ _)⟩
 replace bb := Zk bb
 refine G ?_
 refine Zw (E := encGround) aU A44.h Z Z Z (a0.mono ah) ?_
 intro fY d2
 obtain ⟨aj, ak, al, am, an, rfl, aL, aM, aN, aO, aP⟩ := Yh.1 d2
 refine G ?_
 refine Exec.build Z (Qd (c := [aj, ak, al, am, an]) (Qf Z Z) Qg) (v := Value.agg #[aj, ak, al, am, an, Vn, Vn, Vn, Vn]) (fun _ => by kernel_rfl) (G ?_)
 refine Exec.box (cs := [aj, ak, al, am, an, Vn, Vn, Vn, Vn]) aU Z Z Z ?_
 intro j gq c7
 have c8 := c7.nilArr (Qc .i64) 3
 have c9 := c8.nilArr encFact 51
 have cA := c9.nilArr encBool 4
 have cB := cA.nilArr (Qc .i64) 3
 obtain ⟨ej, d3, hm⟩ := Zg hm
 obtain ⟨aE, aF, a5, a6⟩ := ej
 replace hm := Qhg hm
 refine G ?_
 refine Tc Z Z Z (Zi Z (Zi Z Qx)) (QaA d3 (((cB.f1).f2).f3).f4 aL aM aN aO aP (bu.mono (Zt a4 ah))).r ?_
 rintro _ gr ⟨fG, ac, a, b, ad, d, cC, rfl⟩
 obtain ⟨gZ, d4, hm⟩ := Zg hm
 refine G ?_
 refine Tc Z Z Z (Zi Z Qx) (Qb4 d4 ((((cC.f4).f6).f6).f4).f4 (aL.mono d) (aM.mono d) (aN.mono d) (aO.mono d) (aP.mono d)).r ?_
 rintro _ gs ⟨bT, i, av, rfl⟩
 refine G ?_
 rcases JV hm with ⟨bc, hm⟩ | ⟨bc, hm⟩
 ·refine G ?_
  refine Exec.build Z Qg (v := Value.agg #[Vn, Vn, Vn, Vn, Vn, Vn, Vn]) (fun _ => by kernel_rfl) (G ?_)
  refine Exec.makeInterface C38 Z Z (G ?_)
  refine Qe (ds := [Vn, Vn, Vn, Vn, Vn, Vn, Vn]) (es := [Vn, Vn, Vn, Vn, Vn, Vn, Vn]) av.f7 A29.h Z Z Z Z (Zj Z (Zj Z (Zj Z (Zj Z (Zj Z (Zj Z (Zj Z Qk))))))) (Nat.le_of_ble_eq_true Z) Z ?_
  intro gu b8
  have eC := Zu hm
  subst r
  refine G ?_
  refine ⟨_, Qea Z ⟨_, _, Z, QaJ (b8) A29.h⟩ Z, ?_⟩
  exact ⟨bT, Vn, Vn, Vn, Vn, Vn, Vn, Vn, (Zt (Zt (Zt a4 ah) d) i), (((((((b8.drop).drop).drop).drop).drop).drop).drop).drop, (QfM Z Z), (SliceRep.nil _ _), (SliceRep.nil _ _), (SliceRep.nil _ _), (SliceRep.nil _ _), (SliceRep.nil _ _), (SliceRep.nil _ _), (SliceRep.nil _ _)⟩
 replace bc := Zk bc
 refine G ?_
 refine KM (n0 := 10) (qs 0 9 (.e 9 [0, 1, 2, 3, 4, 5, 6, 7, 8] .done)) KL (by kernel_rfl) (by kernel_rfl) (G ?_)
 refine Zn (av.drew) A24.h Z Z Z ⟨Z, ?_⟩
 refine G ?_
 refine Zn (av.drew) A22.h Z Z Z ⟨Z, ?_⟩
 refine G ?_
 refine Exec.build Z (Qd (c := [b]) (Qf Z (Qj ((av.drew).f2).arr_one)) (Qd (c := [a]) (Qf Z (Qj ((av.drew).f4).arr_one)) Qg)) (v := Value.agg #[Vn, Vn, Vn, Vn, b, a, Vn]) (fun _ => by kernel_rfl) ⟨Z, ?_⟩
 refine G ?_
 refine Exec.alloc (cs := [Vn, Vn, Vn, Vn, Vn, Vn, Vn]) av.drew Z29 Z Z ?_
 intro ab gv ap
 refine ⟨(Qa (U Z Z (Zm (v := Vq j) Z Z ⟨Z, Z⟩)) (Qa (U Z Z (Qb Z Z ⟨Z, Z⟩)) (Qa (U Z Z (Zp F67_2.h Z Z Z ⟨Z, Z⟩)) (Qa (U Z Z (Zn (ap.f1) A24.h Z Z Z ⟨Z, Z⟩)) (Qa (U Z Z (Zm (v := Vq j) Z Z ⟨Z, Z⟩)) (Qa (U Z Z (Qb Z Z ⟨Z, Z⟩)) (Qa (U Z Z (Zp F67_4.h Z Z Z ⟨Z, Z⟩)) (Qa (U Z Z (Zn (ap.f1) A22.h Z Z Z ⟨Z, Z⟩)) (Qa (U Z Z (Exec.build Z (Qd (c := [b]) (Qf Z (Qj (ap.f3).arr_one)) (Qd (c := [a]) (Qf Z (Qj (ap.f5).arr_one)) Qg)) (v := Value.agg #[Vn, Vn, Vn, Vn, b, a, Vn]) (fun _ => by kernel_rfl) ⟨Z, Z⟩)) Qi))))))))), ?_⟩
 refine G ?_
 refine Qe (ds := [Vn, Vn, Vn, Vn, b, a, Vn]) (es := [Vn, Vn, Vn, Vn, b, a, Vn]) ap A29.h Z Z Z Z (Zj Z (Zj Z (Zj Z (Zj Z (Zj (ap.f3).arr_one (Zj (ap.f5).arr_one (Zj Z Qk))))))) (Nat.le_of_ble_eq_true Z) Z ?_
 intro gw cD
 have cE := cD.nilArr (Qc .i64) 3
 have cF := cE.nilArr (Qc .i64) 3
 have cG := cF.nilArr encFact 51
 have cH := cG.nilArr encOp 55
 have a3 := cH.nilArr (Qc .i64) 3
 obtain ⟨aC, bQ, hm⟩ := Zg hm
 obtain ⟨dr, bi, hm⟩ := Zg hm
 refine g ?_
 refine Zc (Qs (M := fun f' w' => ∃ (bU : PHeap) (z : Value) (aa : Value), PHeap.le bT bU ∧ St w0 bU (Res.box p 29 [Vn, Vn, Vn, Vn, Vn, Vn, Vn] :: Res.box j 67 [aj, ak, al, am, an, ac, b, ad, a] :: Res.box ab 29 [z, aa, Vn, Vn, b, a, Vn] :: Res.arr (Qc .i64) 3 ac a5 :: Res.arr encFact 51 b aE :: Res.arr encBool 4 ad aF :: Res.arr (Qc .i64) 3 a a6 :: Res.arr (Qc .i64) 3 z aC :: Res.arr (Qc .i64) 3 aa dr :: Res.arr encFact 51 Vn ([] : (List Fact)) :: Res.arr encOp 55 Vn ([] : (List Op)) :: Res.arr (Qc .i64) 3 Vn ([] : (List Int)) :: H) w' ∧ Fx f' [(2, Vq aG), (4, Vq p), (6, Vq j), (7, Vq ab)]) ?_ ?_)
 ·refine KM (n0 := 14) (qs 0 4 (qs 5 5 (.alt (.e 4 [5, 6, 7, 8, 9] (.q 11 (.q 12 (.alt (.e 10 [11, 12] (.e 13 [] .done)) (.e 13 [9] (.e 10 [] .done)))))) (.e 10 [0, 1, 2, 3] (.e 4 [] (.q 11 (.q 12 (.e 13 [] .done)))))))) KL (by kernel_rfl) (by kernel_rfl) (G ?_)
  refine Zn ((a3.drew).f6) A22.h Z Z Z ⟨Z, ?_⟩
  refine G ?_
  refine Zn ((a3.drew).f6) A22.h Z Z Z ⟨Z, ?_⟩
  refine G ?_
  refine Q2 ((a3.drew).f7) S22.h Z Z ⟨Z, ?_⟩
  refine QH ?_ ?_
  ·have cI := (a3.drew).f7
   refine G ?_
   refine Tc Z Z Z (Zi Z Qx) (Qak bQ cI).r ?_
   rintro ao gx ⟨bV, _, bL, aw, rfl⟩
   refine ⟨(Qa (U Z Z (Zm (v := Vq j) Z Z ⟨Z, Z⟩)) (Qa (U Z Z (Qb Z Z ⟨Z, Z⟩)) (Qa (U Z Z (Zp F67_1.h Z Z Z ⟨Z, Z⟩)) (Qa (U Z Z (Zn (aw.f8) A22.h Z Z Z ⟨Z, Z⟩)) (Qa (U Z Z (Q2 (aw) S22.h Z Z ⟨Z, Z⟩)) Qi))))), ?_⟩
   refine G ?_
   refine QH ?_ ?_
   ·refine G ?_
    refine Yg (E := (Qc .i64)) aw S22.h Z3 Z Z Z Z bi ?_
    intro bo gy aV
    refine ⟨(Qa (U Z Z (Zp F29_0.h Z Z Z ⟨Z, Z⟩)) (Qa (U Z Z (Zp F27_0.h Z Z Z ⟨Z, Z⟩)) Qi)), ?_⟩
    refine G ?_
    refine Qe (ds := [ao]) (es := [ao, Vn, Vn, Vn, b, a, Vn]) aV.f8 A22.h Z Z Z (Qj ((aV.f8).f3).arr_one) (Zj ((aV.f8).f3).arr_one Qk) (Nat.le_of_ble_eq_true Z) Z ?_
    intro gz aW
    refine ⟨Qi, ?_⟩
    refine G ?_
    refine Qe (ds := [bo]) (es := [ao, bo, Vn, Vn, b, a, Vn]) aW A22.h Z Z Z (Qj (aW.f1).arr_one) (Zj (aW.f1).arr_one Qk) (Nat.le_of_ble_eq_true Z) Z ?_
    intro g0 cJ
    refine G ?_
    exact ⟨bV, ao, bo, bL, (((((((((((((((((((cJ.f7).drop).f7).drop).f11).drop).f11).drop).f4).f5).f6).f4).f6).f10).f10).f10).f9).f9).f10).f11, (Fx.mk)⟩
   refine G ?_
   refine Qe (ds := [ao]) (es := [ao, Vn, Vn, Vn, b, a, Vn]) aw.f7 A22.h Z Z Z (Qj ((aw.f7).f2).arr_one) (Zj ((aw.f7).f2).arr_one Qk) (Nat.le_of_ble_eq_true Z) Z ?_
   intro g1 b9
   refine ⟨(Qa (U Z Z (Q2 (b9.f1) S22.h Z Z ⟨Z, Z⟩)) Qi), ?_⟩
   refine G ?_
   refine Yg (E := (Qc .i64)) b9 S22.h Z3 Z Z Z Z bi ?_
   intro bp g2 aX
   refine ⟨Qi, ?_⟩
   refine G ?_
   refine Qe (ds := [bp]) (es := [ao, bp, Vn, Vn, b, a, Vn]) aX.f1 A22.h Z Z Z (Qj ((aX.f1).f1).arr_one) (Zj ((aX.f1).f1).arr_one Qk) (Nat.le_of_ble_eq_true Z) Z ?_
   intro g3 cK
   refine G ?_
   exact ⟨bV, ao, bp, bL, (((((((((((((((((((cK.f7).drop).f7).drop).f11).drop).f11).drop).f4).f5).f6).f4).f6).f10).f10).f10).f9).f9).f10).f11, (Fx.mk)⟩
  refine G ?_
  refine Yg (E := (Qc .i64)) a3.drew S22.h Z3 Z Z Z Z bi ?_
  intro bq g4 bA
  refine ⟨(Qa (U Z Z (Zm (v := Vq j) Z Z ⟨Z, Z⟩)) (Qa (U Z Z (Qb Z Z ⟨Z, Z⟩)) (Qa (U Z Z (Zp F67_1.h Z Z Z ⟨Z, Z⟩)) (Qa (U Z Z (Zn (bA.f7) A22.h Z Z Z ⟨Z, Z⟩)) Qi)))), ?_⟩
  refine G ?_
  refine Tc Z Z Z (Zi Z Qx) (Qak bQ bA.f8).r ?_
  rintro aR g5 ⟨ec, _, dt, aY, rfl⟩
  refine ⟨Qi, ?_⟩
  refine G ?_
  refine Qe (ds := [aR]) (es := [aR, Vn, Vn, Vn, b, a, Vn]) aY.f8 A22.h Z Z Z (Qj ((aY.f8).f2).arr_one) (Zj ((aY.f8).f2).arr_one Qk) (Nat.le_of_ble_eq_true Z) Z ?_
  intro g6 aZ
  refine ⟨Qi, ?_⟩
  refine G ?_
  refine Qe (ds := [bq]) (es := [aR, bq, Vn, Vn, b, a, Vn]) aZ A22.h Z Z Z (Qj (aZ.f3).arr_one) (Zj (aZ.f3).arr_one Qk) (Nat.le_of_ble_eq_true Z) Z ?_
  intro g7 cL
  refine G ?_
  exact ⟨ec, aR, bq, dt, (((((((((((((((((((cL.f7).drop).f7).drop).f11).drop).f11).drop).f4).f5).f6).f6).f6).f10).f10).f10).f9).f9).f10).f11, (Fx.mk)⟩
 intro eJ g8 c2
 obtain ⟨bW, z, aa, m, bB, ⟨eK, rfl⟩⟩ := c2
 refine G ?_
 refine Zw (E := (Qp (Qc .i64))) bB A22.h Z Z Z ((a0.sub (Sub.iso (QD (QD (Sub.fst (Sub.refl _)) Z) Z)) Z).mono (Zt (Zt (Zt ah d) i) m)) ?_
 intro et d5
 have bR : SliceRep _ _ _ (l.Init) := QG.1 d5
 obtain ⟨bf, cr, hm⟩ := Zg hm
 refine G ?_
 refine QS (fun k' s' f' w' => (fun (bf : (List Int)) => ∃ (bX : PHeap) , PHeap.le bW bX ∧ St w0 bX (Res.box p 29 [Vn, Vn, Vn, Vn, Vn, Vn, Vn] :: Res.box j 67 [aj, ak, al, am, an, ac, b, ad, a] :: Res.box ab 29 [z, aa, Vn, Vn, b, a, Vn] :: Res.arr (Qc .i64) 3 ac a5 :: Res.arr encFact 51 b aE :: Res.arr encBool 4 ad aF :: Res.arr (Qc .i64) 3 a a6 :: Res.arr (Qc .i64) 3 z aC :: Res.arr (Qc .i64) 3 aa bf :: Res.arr encFact 51 Vn ([] : (List Fact)) :: Res.arr encOp 55 Vn ([] : (List Op)) :: Res.arr (Qc .i64) 3 Vn ([] : (List Int)) :: H) w' ∧ Fx f' [(62, O (k' : Int)), (2, Vq aG), (4, Vq p), (6, Vq j), (7, Vq ab), (60, et), (61, O ((l.Init.length : Int)))]) s') cr ?_ ?_ ?_
 ·have cM := bB.f11
  exact ⟨bW, (Zv _), ((((((((((cM.f11).f11).f11).f11).f11).f11).f11).f11).f11).f11).f11, (Fx.mk)⟩
 ·intro fi bf ed eL g9 dh cv ae
  obtain ⟨ee, bM, bC, ⟨eM, rfl⟩⟩ := cv
  obtain ⟨gT, d6, ae⟩ := Zg ae
  refine G ?_
  refine QJ S22.h Z Z Z (bR.mono bM) d6 ?_
  intro e0 fB cp
  refine G ?_
  refine Zw (E := (Qc .i64)) bC A3.h Z Z Z cp ?_
  intro fZ d7
  obtain rfl := Qm.1 d7
  refine G ?_
  refine KM (n0 := 19) (qs 0 19 .done) KL (by kernel_rfl) (by kernel_rfl) ?_
  have ax := bC.drew
  obtain ⟨cj, ai, ae⟩ := Zg ae
  obtain ⟨eZ, e4, bz⟩ := (ax.f4).arr_at ai
  refine G ?_
  refine Qn S24.h Z bz Z (Qr ai).1 (Qr ai).2.1 ⟨Z, ?_⟩
  refine G ?_
  refine Qz (F := (Qc .i64)) (ax.f4) bz A3.h Z Z Z ai (Sub.iso (Sub.fst (Sub.refl _))) ?_
  intro eu d8
  obtain rfl : eu = O (cj.Var) := Qm.1 d8
  refine ⟨Z, ?_⟩
  obtain ⟨fa, e5, b0⟩ := (ax.f4).arr_at ai
  refine G ?_
  refine Qn S24.h Z b0 Z (Qr ai).1 (Qr ai).2.1 ⟨Z, ?_⟩
  refine G ?_
  refine Qz (F := (Qc .i64)) (ax.f4) b0 A3.h Z Z Z ai (Sub.iso (QD (Sub.refl _) Z)) ?_
  intro ev d9
  obtain rfl : ev = O (cj.Val) := Qm.1 d9
  refine ⟨Z, ?_⟩
  obtain ⟨gU, bj, ae⟩ := Zg ae
  obtain ⟨fb, e6, b1⟩ := (ax.f8).arr_at bj
  refine G ?_
  refine Qn S22.h Z b1 Z (Qr bj).1 (Qr bj).2.1 ?_
  obtain ⟨fl, dA, ae⟩ := Zg ae
  refine G ?_
  refine Js ax.f8 b1 A3.h Z Z Z Z (Qm.2 Z) dA ?_
  intro gA cN
  have eD := Zu ae
  subst ed
  refine G ?_
  exact ⟨ee, bM, (((((((((((cN.f11).f11).f11).f3).f11).f11).f11).f11).f11).f11).f11).f11, (Fx.mk (FxL.cons (J5 dh (SliceRep.le bR)) fxl))⟩
 intro eN gB cw
 obtain ⟨bY, o, bD, ⟨eO, rfl⟩⟩ := cw
 refine G ?_
 refine Zw (E := (Qp encGFluent)) bD A40.h Z Z Z ((a0.sub (Sub.iso (QD (Sub.fst (Sub.refl _)) Z)) Z).mono (Zt (Zt (Zt (Zt ah d) i) m) o)) ?_
 intro ew dB
 have dQ : SliceRep _ _ _ (l.Fluents) := QG.1 dB
 obtain ⟨ek, ct, hm⟩ := Zg hm
 refine G ?_
 refine QS (fun k' s' f' w' => (QO fun (aS : (List Int)) (a7 : (List Int)) => ∃ (bZ : PHeap) (a9 : Value), PHeap.le bY bZ ∧ St w0 bZ (Res.box p 29 [Vn, Vn, Vn, Vn, Vn, Vn, Vn] :: Res.box j 67 [aj, ak, al, am, an, ac, b, ad, a] :: Res.box ab 29 [z, aa, Vn, Vn, b, a, Vn] :: Res.arr (Qc .i64) 3 a9 aS :: Res.arr (Qc .i64) 3 ac a5 :: Res.arr encFact 51 b aE :: Res.arr encBool 4 ad aF :: Res.arr (Qc .i64) 3 a a6 :: Res.arr (Qc .i64) 3 z aC :: Res.arr (Qc .i64) 3 aa a7 :: Res.arr encFact 51 Vn ([] : (List Fact)) :: Res.arr encOp 55 Vn ([] : (List Op)) :: Res.arr (Qc .i64) 3 Vn ([] : (List Int)) :: H) w' ∧ Fx f' [(90, O (k' : Int)), (2, Vq aG), (4, Vq p), (6, Vq j), (7, Vq ab), (10, a9), (88, ew), (89, O ((l.Fluents.length : Int)))]) s') ct ?_ ?_ ?_
 ·have cO := bD.nilArr (Qc .i64) 3
  exact ⟨bY, Vn, (Zv _), ((((((((((((cO.f12).f12).f12).f12).f12).f12).f12).f12).f12).f9).f12).f12).f12, (Fx.mk)⟩
 ·intro fj el fH eP gC fh cx n
  obtain ⟨aS, a7⟩ := el
  replace n := Q3 n
  obtain ⟨fI, a9, du, bE, ⟨eQ, rfl⟩⟩ := cx
  obtain ⟨u, dC, n⟩ := Zg n
  refine G ?_
  refine QJ S40.h Z Z Z (dQ.mono du) dC ?_
  intro e1 fC cq
  refine G ?_
  refine Zw (E := encGFluent) bE A74.h Z Z Z cq ?_
  intro ga dD
  obtain ⟨cb, rfl, dR⟩ := Qad.1 dD
  refine G ?_
  refine Exec.alloc (cs := [Value.string (⟨#[]⟩), Vn, O 0, O 0, O 0]) bE Z74 Z Z ?_
  intro e2 gD cP
  refine G ?_
  refine Qe (ds := [Value.string (u.Fluent.Name), cb, O (u.Lo), O (u.Hi), O (u.Init)]) (es := [Value.string (u.Fluent.Name), cb, O (u.Lo), O (u.Hi), O (u.Init)]) cP A74.h Z Z Z Z (Zj Z (Zj dR.one (Zj Z (Zj Z (Zj Z Qk))))) (Nat.le_of_ble_eq_true Z) Z ?_
  intro gE cQ
  refine G ?_
  refine Exec.buildSlice (Te := 3) (cs := [O (u.Init)]) cQ Z (Qd (c := [O (u.Init)]) (Qf Z Z) Qg) (fun _ => by kernel_rfl) ?_
  intro e3 gF cR
  obtain ⟨fm, dE, n⟩ := Zg n
  refine G ?_
  refine Qh (E := (Qc .i64)) (ys := [u.Init]) cR.f5 S22.h Z3 Z (by decide) Z Z Z Z ⟨[O (u.Init)], [], Z, Z, Z⟩ Z dE ?_
  intro gb gG cS
  refine G ?_
  refine KM (n0 := 15) (qs 0 15 .done) KL (by kernel_rfl) (by kernel_rfl) ?_
  have aH := cS.drew
  obtain ⟨gV, aK, n⟩ := Zg n
  obtain ⟨fc, e7, b2⟩ := (aH.f8).arr_at aK
  refine G ?_
  refine Qn S22.h Z b2 Z (Qr aK).1 (Qr aK).2.1 ⟨Z, ?_⟩
  refine G ?_
  refine Qz (F := (Qc .i64)) (aH.f8) b2 A3.h Z Z Z aK (Sub.refl _) ?_
  intro gc dF
  obtain rfl := Qm.1 dF
  refine ⟨Z, ?_⟩
  obtain ⟨gW, bk, n⟩ := Zg n
  obtain ⟨fd, e8, b3⟩ := (aH.f10).arr_at bk
  refine G ?_
  refine Qn S22.h Z b3 Z (Qr bk).1 (Qr bk).2.1 ?_
  obtain ⟨fn, dG, n⟩ := Zg n
  refine G ?_
  refine Js aH.f10 b3 A3.h Z Z Z Z (Qm.2 Z) dG ?_
  intro gH fe
  cases n
  refine G ?_
  exact fq
 intro eR gI cy
 obtain ⟨aS, a7⟩ := ek
 replace hm := Q3 hm
 obtain ⟨ca, a9, t, bF, ⟨eS, rfl⟩⟩ := cy
 refine G ?_
 refine Zw (E := (Qp encGOp)) bF A42.h Z Z Z ((a0.sub (Sub.iso (QD (QD (QD (QD (Sub.refl _) Z) Z) Z) Z)) Z).mono (Zt (Zt (Zt (Zt (Zt ah d) i) m) o) t)) ?_
 intro gd dH
 have dS : SliceRep _ _ _ (l.Ops) := QG.1 dH
 obtain ⟨bw, cu, dl, dj, df⟩ := Qu hm
 refine g ?_
 refine Qs (M := fun f' w' => ∃ s', (bw = .next s' ∨ bw = .brk s') ∧ (un3 fun (bv : (List Int)) (bN : (List Op)) (bO : (List Int)) => ∃ (bl : PHeap) (br : Value) (bs : Value) (bt : Value), PHeap.le ca bl ∧ St w0 bl (Res.box p 29 [Vn, Vn, Vn, Vn, Vn, Vn, Vn] :: Res.box j 67 [aj, ak, al, am, an, ac, b, ad, a] :: Res.box ab 29 [z, aa, Vn, bs, b, a, bt] :: Res.arr (Qc .i64) 3 ac a5 :: Res.arr encFact 51 b aE :: Res.arr encBool 4 ad aF :: Res.arr (Qc .i64) 3 a a6 :: Res.arr (Qc .i64) 3 z aC :: Res.arr (Qc .i64) 3 aa a7 :: Res.arr encFact 51 Vn ([] : (List Fact)) :: Res.arr encOp 55 bs bN :: Res.arr (Qc .i64) 3 bt bO :: H) w' ∧ Fx f' [(4, Vq p), (6, Vq j), (7, Vq ab), (10, br), (119, O ((l.Ops.length : Int)))] ∧ SliceRep (Qc .i64) bl br bv) s') ?_ ?_
 ·refine G ?_
  refine QC (fun k' s' f' w' => (un3 fun (aT : (List Int)) (bg : (List Op)) (bh : (List Int)) => ∃ (bm : PHeap) (a2 : Value) (aA : Value) (aB : Value), PHeap.le ca bm ∧ St w0 bm (Res.box p 29 [Vn, Vn, Vn, Vn, Vn, Vn, Vn] :: Res.box j 67 [aj, ak, al, am, an, ac, b, ad, a] :: Res.box ab 29 [z, aa, Vn, aA, b, a, aB] :: Res.arr (Qc .i64) 3 ac a5 :: Res.arr encFact 51 b aE :: Res.arr encBool 4 ad aF :: Res.arr (Qc .i64) 3 a a6 :: Res.arr (Qc .i64) 3 z aC :: Res.arr (Qc .i64) 3 aa a7 :: Res.arr encFact 51 Vn ([] : (List Fact)) :: Res.arr encOp 55 aA bg :: Res.arr (Qc .i64) 3 aB bh :: H) w' ∧ Fx f' [(120, O (k' : Int)), (4, Vq p), (6, Vq j), (7, Vq ab), (10, a2), (119, O ((l.Ops.length : Int)))] ∧ SliceRep (Qc .i64) bm a2 aT) s') cu ?_ ?_ ?_
  ·have cT := bF.f3
   obtain ⟨ef, dv, cU, dT⟩ := cT.freezeArr
   exact ⟨ef, a9, Vn, Vn, dv, (((((((((((cU.f11).f11).f11).f11).f11).f11).f11).f11).f11).f11).f11).f11, (Fx.mk), dT⟩
  ·intro fk em bx eT gJ di cz x dn
   obtain ⟨aT, bg, bh⟩ := em
   replace x := QbP x
   obtain ⟨fJ, a2, aA, aB, ay, cV, ⟨eU, rfl⟩, aI⟩ := cz
   obtain ⟨en, dI, x⟩ := Zg x
   obtain ⟨ha, fo, fp⟩ := en
   replace x := QbP x
   refine G ?_
   refine Tc Z Z Z (Zi Z (Zi Z (Zi Z (Zi Z Qx)))) (QaB dI ((((((((((cV.f11).f11).f11).f11).f11).f7).f11).f11).f11).f11).f11 (aL.mono (Zt (Zt (Zt (Zt (Zt d i) m) o) t) ay)) (aM.mono (Zt (Zt (Zt (Zt (Zt d i) m) o) t) ay)) (aN.mono (Zt (Zt (Zt (Zt (Zt d i) m) o) t) ay)) (aO.mono (Zt (Zt (Zt (Zt (Zt d i) m) o) t) ay)) (aP.mono (Zt (Zt (Zt (Zt (Zt d i) m) o) t) ay)) aI).r ?_
   rintro _ gK ⟨eg, ex, ey, bP, bG, rfl⟩
   refine G ?_
   rcases JV x with ⟨bd, x⟩ | ⟨bd, x⟩
   ·refine G ?_
    refine Exec.build Z Qg (v := Value.agg #[Vn, Vn, Vn, Vn, Vn, Vn, Vn]) (fun _ => by kernel_rfl) (G ?_)
    refine Exec.makeInterface C38 Z Z (G ?_)
    refine Qe (ds := [Vn, Vn, Vn, Vn, Vn, Vn, Vn]) (es := [Vn, Vn, Vn, Vn, Vn, Vn, Vn]) bG.f11 A29.h Z Z Z Z (Zj Z (Zj Z (Zj Z (Zj Z (Zj Z (Zj Z (Zj Z Qk))))))) (Nat.le_of_ble_eq_true Z) Z ?_
    intro gL cW
    have eE := Zu x
    subst bx
    have dk := dl _ (dn (by intro _ h; cases h))
    cases dk
    refine G ?_
    refine ⟨_, Qea Z ⟨_, _, Z, QaJ (cW) A29.h⟩ Z, ?_⟩
    exact fq
   replace bd := Zk bd
   have eF := Zu x
   subst bx
   refine G ?_
   refine ⟨_, Z, ?_⟩; exact ⟨eg, a2, ex, ey, (Zt ay bP), (((((((((((bG.f10).f10).f10).f10).f10).f9).f9).f9).f9).f10).f10).f11, (Fx.mk (FxL.cons (J5 di (SliceRep.le dS)) fxl)), (aI.mono bP)⟩
  intro eo eV gM c0 dp
  obtain ⟨aT, bg, bh⟩ := eo
  obtain ⟨eh, a2, aA, aB, dw, cX, ⟨eW, rfl⟩, aI⟩ := c0
  refine G ?_
  refine ⟨_, .inl dp, ?_⟩; exact ⟨eh, a2, aA, aB, dw, (((((((((((cX.f11).f11).f11).f11).f11).f11).f11).f11).f11).f11).f11).f11, (Fx.mk), aI⟩
 rintro eX gN ⟨ep, bK, c3⟩
 have hm := bK.elim (dj _) (df _)
 clear bK
 obtain ⟨bv, bN, bO⟩ := ep
 replace hm := QbP hm
 obtain ⟨fK, br, bs, bt, az, cY, ⟨eY, rfl⟩, dm⟩ := c3
 obtain ⟨er, dJ, hm⟩ := Zg hm
 obtain ⟨hb, hd, fr, fs, ft, fv⟩ := er
 replace hm := Qk1 hm
 refine G ?_
 refine Tc Z Z Z (Zi Z (Zi Z (Zi Z Qx))) (QbO dJ ((((((((((cY.f11).f11).f11).f11).f11).f7).f11).f11).f11).f11).f11 (aL.mono (Zt (Zt (Zt (Zt (Zt d i) m) o) t) az)) (aM.mono (Zt (Zt (Zt (Zt (Zt d i) m) o) t) az)) (aN.mono (Zt (Zt (Zt (Zt (Zt d i) m) o) t) az)) (aO.mono (Zt (Zt (Zt (Zt (Zt d i) m) o) t) az)) (aP.mono (Zt (Zt (Zt (Zt (Zt d i) m) o) t) az)) dm).r ?_
 rintro _ gO ⟨ei, gf, gg, gh, gi, gj, dx, bH, rfl, dU⟩
 refine G ?_
 rcases JV hm with ⟨be, hm⟩ | ⟨be, hm⟩
 ·refine G ?_
  refine Exec.build Z Qg (v := Value.agg #[Vn, Vn, Vn, Vn, Vn, Vn, Vn]) (fun _ => by kernel_rfl) (G ?_)
  refine Exec.makeInterface C38 Z Z (G ?_)
  refine Qe (ds := [Vn, Vn, Vn, Vn, Vn, Vn, Vn]) (es := [Vn, Vn, Vn, Vn, Vn, Vn, Vn]) bH.f11 A29.h Z Z Z Z (Zj Z (Zj Z (Zj Z (Zj Z (Zj Z (Zj Z (Zj Z Qk))))))) (Nat.le_of_ble_eq_true Z) Z ?_
  intro gP bI
  have eG := Zu hm
  subst r
  refine G ?_
  refine ⟨_, Qea Z ⟨_, _, Z, QaJ (bI) A29.h⟩ Z, ?_⟩
  exact ⟨ei, Vn, Vn, Vn, Vn, Vn, Vn, Vn, (Zt (Zt (Zt (Zt (Zt (Zt (Zt (Zt a4 ah) d) i) m) o) t) az) dx), (((((((((((bI.drop).drop).drop).drop).drop).drop).drop).drop).drop).drop).drop).drop, (QfM Z Z), (SliceRep.nil _ _), (SliceRep.nil _ _), (SliceRep.nil _ _), (SliceRep.nil _ _), (SliceRep.nil _ _), (SliceRep.nil _ _), (SliceRep.nil _ _)⟩
 replace be := Zk be
 refine G ?_
 obtain ⟨fL, fw, cZ, dV⟩ := bH.f6.freezeArr
 obtain ⟨fM, fx, da, dW⟩ := cZ.f6.freezeArr
 obtain ⟨fN, dy, db, dX⟩ := da.f7.freezeArr
 obtain ⟨hc, dK, hm⟩ := Zg hm
 refine G ?_
 refine Tc Z Z Z Z (Qcr dK db (dV.mono lq) (dW.mono dy) (dU.mono lq) dX).r ?_
 rintro _ gQ ⟨fO, fy, ff, rfl⟩
 refine G ?_
 refine KD (T := 38) Tryz.underlying31 Z Z Z (G ?_)
 rcases Qv hm with ⟨dg, hm⟩ | ⟨dg, hm⟩
 ·refine G ?_
  refine Exec.build Z Qg (v := Value.agg #[Vn, Vn, Vn, Vn, Vn, Vn, Vn]) (fun _ => by kernel_rfl) (G ?_)
  refine Xst Z Z Z ?_
  intro gR dc
  cases hm
  refine G ?_
  refine ⟨_, Qea Z ⟨_, _, Z, QaJ (dc) A29.h⟩ Z, ?_⟩
  exact fq
 refine G ?_
 refine Xst Z Z Z ?_
 intro gS bJ
 cases hm
 refine G ?_
 refine ⟨_, Qea Z ⟨_, _, Z, QaJ (bJ) A29.h⟩ Z, ?_⟩
 obtain ⟨fP, fz, dd, fD⟩ := bJ.f3.freezeArr
 obtain ⟨fQ, f0, de, fE⟩ := dd.f4.freezeArr
 obtain ⟨fR, fA, fg, fF⟩ := de.f6.freezeArr
 exact fq
instance F29_1 : FTy Tryz.prog 29 1 4 := ⟨by kernel_rfl⟩
instance F29_2 : FTy Tryz.prog 29 2 5 := ⟨by kernel_rfl⟩
theorem Qe0 {w0 w : World} {s : PHeap} {H : List Res} {fu : Nat} {ae : Ground} {b : Encoding} {q : Value} {t : Value} {u : Value} {x : Value} {y : Value} {z : Value} {aa : Value} {ab : Value} {ac : Value} {m : Value} {l : Value} {ad : Value} {r : Bool} (hm : Qb0 fu ae b = some r) (hS : St w0 s (H) w) (a6 : SliceRep encAtom s q ae.Atoms) (af : SliceRep encGFluent s t ae.Fluents) (a7 : SliceRep (Qc .i64) s u ae.Init) (a8 : SliceRep encCond s x ae.Goal) (a9 : SliceRep encGOp s y ae.Ops) (aA : SliceRep (Qc .i64) s z b.Task.Vars) (b9 : SliceRep (Qc .i64) s aa b.Task.Init) (bA : SliceRep encFact s ab b.Task.Goal) (bB : SliceRep encOp s ac b.Task.Ops) (bC : SliceRep encFact s m b.Atoms) (bD : SliceRep (Qc .i64) s l b.Fluents) (bE : SliceRep (Qc .i64) s ad b.Ops) :
  Calls Tryz.prog 40 #[Value.agg #[q, t, u, x, y], Value.agg #[z, aa, ab, ac, m, l, ad]] w fun e w' => ∃ v, e = .returned v ∧ ((fun (b8 : Bool) => ∃ (aw : PHeap) , PHeap.le s aw ∧ St w0 aw (H) w' ∧ v = Value.bool (b8)) r) := by
 unfold Qb0 at hm
 refine Ql Tryz.func40 Z Z (G ?_)
 refine JH Z Z ?_
 intro i cR ch
 refine G ?_
 refine JH Z Z ?_
 intro j cS aQ
 obtain ⟨ak, a, hm⟩ := Zg hm
 refine g ?_
 refine Zc (Zc (Qs (M := fun f' w' => (fun (ak : Bool) => ∃ (ax : PHeap) , PHeap.le s ax ∧ St w0 ax (Res.box i 44 [q, t, u, x, y] :: Res.box j 29 [z, aa, ab, ac, m, l, ad] :: H) w' ∧ Fx f' [(2, Vq i), (3, Vq j), (35, Vb ak)]) ak) ?_ ?_))
 ·obtain ⟨dj, bs, a⟩ := Zg a
  refine G ?_
  refine Tc Z Z Z Z (Kh bs aQ a6 af a7 a8 a9).r ?_
  rintro _ cT ⟨c9, cv, aR, rfl⟩
  refine G ?_
  rcases Qv a with ⟨ba, a⟩ | ⟨ba, a⟩
  ·cases a
   refine G ?_
   exact fq
  obtain ⟨dk, bt, a⟩ := Zg a
  refine G ?_
  refine Tc Z Z Z Z (Qcr bt aR rq rq rq rq).r ?_
  rintro _ cU ⟨cA, cw, ci, rfl⟩
  refine G ?_
  refine KD (T := 38) Tryz.underlying31 Z Z Z (G ?_)
  rcases Qv a with ⟨bb, a⟩ | ⟨bb, a⟩
  ·cases a
   refine G ?_
   exact fq
  refine G ?_
  rcases Qv a with ⟨bc, a⟩ | ⟨bc, a⟩
  ·cases a
   refine G ?_
   exact fq
  cases a
  refine G ?_
  exact fq
 intro bR cV aM
 obtain ⟨ay, ah, aS, ⟨bS, rfl⟩⟩ := aM
 refine G ?_
 rcases Qv hm with ⟨aq, hm⟩ | ⟨aq, hm⟩
 ·cases hm
  refine G ?_
  exact fr
 obtain ⟨am, aG, bl, bh, aY⟩ := Qu hm
 refine W_c Z aq (Qbk (JG (Ze (Zc (Zc (Zd (g ?_)))))))
 refine Qs (M := fun f' w' => ∃ s', (am = .next s' ∨ am = .brk s') ∧ (fun (_ : Unit) => ∃ (az : PHeap) , PHeap.le ay az ∧ St w0 az (Res.box i 44 [q, t, u, x, y] :: Res.box j 29 [z, aa, ab, ac, m, l, ad] :: H) w' ∧ Fx f' [(2, Vq i), (3, Vq j), (37, m), (38, O ((b.Atoms.length : Int)))]) s') ?_ ?_
 ·refine G ?_
  refine QC (fun k' s' f' w' => (fun (_ : Unit) => ∃ (a0 : PHeap) , PHeap.le ay a0 ∧ St w0 a0 (Res.box i 44 [q, t, u, x, y] :: Res.box j 29 [z, aa, ab, ac, m, l, ad] :: H) w' ∧ Fx f' [(39, O (k' : Int)), (2, Vq i), (3, Vq j), (37, m), (38, O ((b.Atoms.length : Int)))]) s') aG ?_ ?_ ?_
  ·have cj := aS.f1
   exact fq
  ·intro cu cI bM bT cW cr aI n bn
   obtain ⟨cB, cx, ao, ⟨bU, rfl⟩⟩ := aI
   obtain ⟨p, bu, n⟩ := Zg n
   refine G ?_
   refine QI Z Z Z bu ?_
   intro bF c4 aB
   refine G ?_
   refine Zw (E := encFact) ao A51.h Z Z Z aB ?_
   intro cO bv
   obtain rfl := Ju.1 bv
   refine G ?_
   refine Exec.alloc (cs := [O 0, O 0]) ao Z51 Z Z ?_
   intro bG cX ck
   refine G ?_
   refine Xst Z Z Z ?_
   intro cY aT
   refine G ?_
   refine Exec.buildSlice (Te := 51) (cs := [O (p.Var), O (p.Val)]) aT Z (Qd (c := [O (p.Var), O (p.Val)]) (Qf Z Z) Qg) (fun _ => by kernel_rfl) ?_
   intro bH cZ aU
   have aV := St.boxArr (E := encFact) (xs := [p]) aU ⟨[O (p.Var), O (p.Val)], [], rfl, ⟨[O (p.Var)], [O (p.Val)], rfl, rfl, rfl⟩, rfl⟩ (by simp [maxLen])
   obtain ⟨cC, cy, aW, b4⟩ := aV.freezeArr
   obtain ⟨dl, bw, n⟩ := Zg n
   refine G ?_
   refine Tc Z Z Z Z (QaY bw aW rq b4).r ?_
   rintro _ da ⟨cD, cz, cl, rfl⟩
   refine G ?_
   rcases Qv n with ⟨bd, n⟩ | ⟨bd, n⟩
   ·cases n
    have bj := bl _ (bn (by intro _ h; cases h))
    cases bj
    refine G ?_
    exact fr
   cases n
   refine G ?_
   exact ⟨_, Z, fq⟩
  intro cJ bV db aJ bo
  obtain ⟨cE, c0, cm, ⟨bW, rfl⟩⟩ := aJ
  refine G ?_
  exact ⟨_, .inl bo, fq⟩
 rintro bX dc ⟨cK, ar, aN⟩
 have hm := ar.elim (bh _) (aY _)
 clear ar
 obtain ⟨a1, ai, aX, ⟨bY, rfl⟩⟩ := aN
 obtain ⟨an, aH, bm, bi, aZ⟩ := Qu hm
 refine g ?_
 refine Zc (Zc (Zd (g ?_)))
 refine Qs (M := fun f' w' => ∃ s', (an = .next s' ∨ an = .brk s') ∧ (fun (_ : Unit) => ∃ (a2 : PHeap) , PHeap.le a1 a2 ∧ St w0 a2 (Res.box i 44 [q, t, u, x, y] :: Res.box j 29 [z, aa, ab, ac, m, l, ad] :: H) w' ∧ Fx f' [(2, Vq i), (3, Vq j), (52, l), (53, O ((b.Fluents.length : Int)))]) s') ?_ ?_
 ·refine G ?_
  refine QC (fun k' s' f' w' => (fun (_ : Unit) => ∃ (a3 : PHeap) , PHeap.le a1 a3 ∧ St w0 a3 (Res.box i 44 [q, t, u, x, y] :: Res.box j 29 [z, aa, ab, ac, m, l, ad] :: H) w' ∧ Fx f' [(54, O (k' : Int)), (2, Vq i), (3, Vq j), (52, l), (53, O ((b.Fluents.length : Int)))]) s') aH ?_ ?_ ?_
  ·have cn := aX.f1
   exact fq
  ·intro br cL bN bZ dd ct aK o bp
   obtain ⟨b5, aj, ap, ⟨ca, rfl⟩⟩ := aK
   obtain ⟨dh, bx, o⟩ := Zg o
   refine G ?_
   refine QI Z Z Z bx ?_
   intro bI c5 aC
   refine G ?_
   refine Zw (E := (Qc .i64)) ap A3.h Z Z Z aC ?_
   intro cP bz
   obtain rfl := Qm.1 bz
   obtain ⟨al, d, o⟩ := Zg o
   refine g ?_
   refine Zc (Qs (M := fun f' w' => (fun (al : Bool) => ∃ (a4 : PHeap) , PHeap.le b5 a4 ∧ St w0 a4 (Res.box i 44 [q, t, u, x, y] :: Res.box j 29 [z, aa, ab, ac, m, l, ad] :: H) w' ∧ Fx f' [(2, Vq i), (3, Vq j), (52, l), (53, O ((b.Fluents.length : Int))), (54, O ((br : Int))), (91, Vb al)]) al) ?_ ?_)
   ·refine KM (n0 := 33) (qs 0 33 .done) KL (by kernel_rfl) (by kernel_rfl) ?_
    have ag := ap.drew
    refine G ?_
    rcases Qv d with ⟨be, d⟩ | ⟨be, d⟩
    ·cases d
     refine G ?_
     exact fq
    refine G ?_
    rcases Qv d with ⟨bf, d⟩ | ⟨bf, d⟩
    ·cases d
     refine G ?_
     exact fq
    obtain ⟨di, b0, d⟩ := Zg d
    refine G ?_
    refine Q1 S22.h Z Z Z (aA.mono (Zt (Zt ah ai) aj)) b0 ?_
    intro bJ c6 aD bO
    refine ⟨Z, ?_⟩
    refine G ?_
    refine Zw (E := (Qc .i64)) ag A3.h Z Z Z aD ?_
    intro cQ b1
    obtain rfl := Qm.1 b1
    refine ⟨Z, ?_⟩
    obtain ⟨a5, av, d⟩ := Zg d
    refine G ?_
    refine Q1 S40.h Z Z Z (af.mono (Zt (Zt ah ai) aj)) av ?_
    intro bK c7 aE bP
    refine ⟨Z, ?_⟩
    refine G ?_
    refine Zw (E := (Qc .i64)) ag A3.h Z Z Z (aE.sub (Sub.iso (QD (QD (Sub.fst (Sub.refl _)) Z) Z)) Z) ?_
    intro b6 b2
    obtain rfl : b6 = O (a5.Hi) := Qm.1 b2
    refine ⟨Z, ?_⟩
    refine G ?_
    refine Q1 S40.h Z Z Z (af.mono (Zt (Zt ah ai) aj)) av ?_
    intro bL c8 aF bQ
    refine ⟨Z, ?_⟩
    refine G ?_
    refine Zw (E := (Qc .i64)) ag A3.h Z Z Z (aF.sub (Sub.iso (QD (Sub.fst (Sub.refl _)) Z)) Z) ?_
    intro b7 b3
    obtain rfl : b7 = O (a5.Lo) := Qm.1 b3
    refine ⟨Z, ?_⟩
    cases d
    refine G ?_
    exact fq
   intro cb de aO
   obtain ⟨cF, c1, co, ⟨cc, rfl⟩⟩ := aO
   refine G ?_
   rcases Qv o with ⟨bg, o⟩ | ⟨bg, o⟩
   ·cases o
    have bk := bm _ (bp (by intro _ h; cases h))
    cases bk
    refine G ?_
    exact fr
   cases o
   refine G ?_
   exact ⟨_, Z, fq⟩
  intro cM cd df aL bq
  obtain ⟨cG, c2, cp, ⟨ce, rfl⟩⟩ := aL
  refine G ?_
  exact ⟨_, .inl bq, fq⟩
 rintro cf dg ⟨cN, au, aP⟩
 have hm := au.elim (bi _) (aZ _)
 clear au
 obtain ⟨cH, c3, cq, ⟨cg, rfl⟩⟩ := aP
 cases hm
 refine G ?_
 exact fr
theorem Qlw : JF Tryz.prog 161 = some (Value.nilFunc) := by kernel_rfl
instance A161 : ATy Tryz.prog 161 false 1 := ⟨by kernel_rfl⟩
theorem N94 : (Tryz.f94.name == "runtime.NumGoroutine") = false := by kernel_rfl
theorem QaF {w0 w : World} {s : PHeap} {H : List Res} {c : Int} {a : GState} {b d : Nat} {r : Bool} (hm : Yn c a = some r) (hS : St w0 s (H) w) (g : At s b d encGState a) :
  Calls Tryz.prog 94 #[O c, Value.pointer (some ⟨b, d, none⟩)] w fun e w' => ∃ v, e = .returned v ∧ ((fun (m : Bool) => ∃ (f : PHeap) , PHeap.le s f ∧ St w0 f (H) w' ∧ v = Value.bool (m)) r) := by
 unfold Yn at hm
 refine Ql Tryz.func94 Z Z (G ?_)
 refine Zw (E := (Qp (Qc .i64))) hS A22.h Z Z Z (g.sub (Sub.iso (Sub.fst (Sub.refl _))) Z) ?_
 intro q i
 have k : SliceRep _ _ _ (a.True) := QG.1 i
 obtain ⟨l, j, hm⟩ := Zg hm
 obtain ⟨u, x⟩ := l
 replace hm := Q3 hm
 refine G ?_
 refine Tc Z Z Z Z (Yq j hS k).r ?_
 rintro _ t ⟨p, o, n, rfl⟩
 cases hm
 refine G ?_
 exact fr
theorem N96 : (Tryz.f96.name == "runtime.NumGoroutine") = false := by kernel_rfl
theorem QcE {w0 w : World} {s : PHeap} {H : List Res} {f : Int} {d : GState} {a : Nat} {b c : Nat} {r : Bool} (hm : Qai f d = some r) (hS : St w0 s (Res.box a 161 [Value.func (.func 94) #[] #[Value.pointer (some ⟨b, c, none⟩)]] :: H) w) (h : At s b c encGState d) :
  Calls Tryz.prog 96 #[O f, Value.pointer (some ⟨a, 0, none⟩)] w fun e w' => ∃ v, e = .returned v ∧ ((fun (j : Bool) => ∃ (g : PHeap) , PHeap.le s g ∧ St w0 g (Res.box a 161 [Value.func (.func 94) #[] #[Value.pointer (some ⟨b, c, none⟩)]] :: H) w' ∧ v = Value.bool (j)) r) := by
 unfold Qai at hm
 refine Ql Tryz.func96 Z Z ?_
 obtain ⟨o, i, hm⟩ := Zg hm
 refine G ?_
 refine KR Z Z Tryz.func94 Z N94 (Zi Z Qx) Z ((QaF i hS h).mono ?_)
 rintro _ n ⟨_, rfl, ⟨m, l, k, rfl⟩⟩
 refine ⟨_, Z, ?_⟩
 cases hm
 refine G ?_
 exact fr
theorem YO {w0 w : World} {s : PHeap} {H : List Res} {i : (List Int)} {l : GState} {j : Value} {b : Nat} {c d : Nat} {r : Int} (hm : JL i l = some r) (hS : St w0 s (Res.box b 161 [Value.func (.func 94) #[] #[Value.pointer (some ⟨c, d, none⟩)]] :: H) w) (ao : SliceRep (Qc .i64) s j i) (u : At s c d encGState l) :
  Calls Tryz.prog 116 #[j, Value.func (.func 96) #[] #[Value.pointer (some ⟨b, 0, none⟩)]] w fun e w' => ∃ v, e = .returned v ∧ ((fun (an : Int) => ∃ (p : PHeap) , PHeap.le s p ∧ St w0 p (Res.box b 161 [Value.func (.func 94) #[] #[Value.pointer (some ⟨c, d, none⟩)]] :: H) w' ∧ v = O an) r) := by
 unfold JL at hm
 refine Ql Tryz.func116 Z Z ?_
 obtain ⟨m, y, ag, ae, ac⟩ := Qu hm
 refine Zc (Zd (g ?_))
 refine Zc (Zc (Zd (g ?_)))
 refine Qs (M := fun f' w' => ∃ s', (m = .next s' ∨ m = .brk s') ∧ (fun (_ : Unit) => ∃ (q : PHeap) , PHeap.le s q ∧ St w0 q (Res.box b 161 [Value.func (.func 94) #[] #[Vp (some ⟨c, d, none⟩)]] :: H) w' ∧ Fx f' [(0, j), (1, Value.func (.func 96) #[] #[Vq b]), (7, O ((i.length : Int)))]) s') ?_ ?_
 ·refine G ?_
  refine QC (fun k' s' f' w' => (fun (_ : Unit) => ∃ (t : PHeap) , PHeap.le s t ∧ St w0 t (Res.box b 161 [Value.func (.func 94) #[] #[Vp (some ⟨c, d, none⟩)]] :: H) w' ∧ Fx f' [(8, O (k' : Int)), (0, j), (1, Value.func (.func 96) #[] #[Vq b]), (7, O ((i.length : Int)))]) s') y ?_ ?_ ?_
  ·exact fq
  ·intro a3 aC aq ar aG a2 z a ah
   obtain ⟨a8, aj, n, ⟨au, rfl⟩⟩ := z
   obtain ⟨aK, ak, a⟩ := Zg a
   refine G ?_
   refine QI Z Z Z ak ?_
   intro ap a7 x
   refine G ?_
   refine Zw (E := (Qc .i64)) n A3.h Z Z Z x ?_
   intro aF al
   obtain rfl := Qm.1 al
   obtain ⟨aL, am, a⟩ := Zg a
   refine G ?_
   refine KR Z Z Tryz.func96 Z N96 (Zi Z Qx) Z ((QcE am n (u.mono aj)).mono ?_)
   rintro _ aH ⟨_, rfl, ⟨a9, a4, az, rfl⟩⟩
   refine ⟨_, Z, ?_⟩
   refine G ?_
   rcases Qv a with ⟨ad, a⟩ | ⟨ad, a⟩
   ·cases a
    have af := ag _ (ah (by intro _ h; cases h))
    cases af
    refine G ?_
    exact fr
   cases a
   refine G ?_
   exact ⟨_, Z, fq⟩
  intro aD av aI aa ai
  obtain ⟨aA, a5, a0, ⟨aw, rfl⟩⟩ := aa
  refine G ?_
  exact ⟨_, .inl ai, fq⟩
 rintro ax aJ ⟨aE, o, ab⟩
 have hm := o.elim (ae _) (ac _)
 clear o
 obtain ⟨aB, a6, a1, ⟨ay, rfl⟩⟩ := ab
 cases hm
 refine G ?_
 exact fr
theorem Y6 {w0 w : World} {s : PHeap} {H : List Res} {g : (List Int)} {d : GState} {h : Value} {a : Nat} {b c : Nat} {r : Bool} (hm : JB g d = some r) (hS : St w0 s (Res.box a 161 [Value.func (.func 94) #[] #[Value.pointer (some ⟨b, c, none⟩)]] :: H) w) (i : SliceRep (Qc .i64) s h g) (j : At s b c encGState d) :
  Calls Tryz.prog 95 #[h, Value.func (.func 96) #[] #[Value.pointer (some ⟨a, 0, none⟩)]] w fun e w' => ∃ v, e = .returned v ∧ ((fun (l : Bool) => ∃ (f : PHeap) , PHeap.le s f ∧ St w0 f (Res.box a 161 [Value.func (.func 94) #[] #[Value.pointer (some ⟨b, c, none⟩)]] :: H) w' ∧ v = Value.bool (l)) r) := by
 unfold JB at hm
 refine Ql Tryz.func95 Z Z ?_
 obtain ⟨q, k, hm⟩ := Zg hm
 refine G ?_
 refine Tc Z Z Z Z (YO k hS i j).r ?_
 rintro _ p ⟨o, n, m, rfl⟩
 cases hm
 refine G ?_
 exact fr
theorem YP {w0 w : World} {s : PHeap} {H : List Res} {d : (List Int)} {j : GState} {i : Value} {b c : Nat} {r : Int} (hm : JM d j = some r) (hS : St w0 s (H) w) (an : SliceRep (Qc .i64) s i d) (t : At s b c encGState j) :
  Calls Tryz.prog 116 #[i, Value.func (.func 94) #[] #[Value.pointer (some ⟨b, c, none⟩)]] w fun e w' => ∃ v, e = .returned v ∧ ((fun (am : Int) => ∃ (o : PHeap) , PHeap.le s o ∧ St w0 o (H) w' ∧ v = O am) r) := by
 unfold JM at hm
 refine Ql Tryz.func116 Z Z ?_
 obtain ⟨l, x, af, ad, ab⟩ := Qu hm
 refine Zc (Zd (g ?_))
 refine Zc (Zc (Zd (g ?_)))
 refine Qs (M := fun f' w' => ∃ s', (l = .next s' ∨ l = .brk s') ∧ (fun (_ : Unit) => ∃ (p : PHeap) , PHeap.le s p ∧ St w0 p (H) w' ∧ Fx f' [(0, i), (1, Value.func (.func 94) #[] #[Vp (some ⟨b, c, none⟩)]), (7, O ((d.length : Int)))]) s') ?_ ?_
 ·refine G ?_
  refine QC (fun k' s' f' w' => (fun (_ : Unit) => ∃ (q : PHeap) , PHeap.le s q ∧ St w0 q (H) w' ∧ Fx f' [(8, O (k' : Int)), (0, i), (1, Value.func (.func 94) #[] #[Vp (some ⟨b, c, none⟩)]), (7, O ((d.length : Int)))]) s') x ?_ ?_ ?_
  ·exact fq
  ·intro a2 aB ap aq aF a1 y a ag
   obtain ⟨a7, ai, m, ⟨ar, rfl⟩⟩ := y
   obtain ⟨aJ, aj, a⟩ := Zg a
   refine G ?_
   refine QI Z Z Z aj ?_
   intro ao a6 u
   refine G ?_
   refine Zw (E := (Qc .i64)) m A3.h Z Z Z u ?_
   intro aE ak
   obtain rfl := Qm.1 ak
   obtain ⟨aK, al, a⟩ := Zg a
   refine G ?_
   refine KR Z Z Tryz.func94 Z N94 (Zi Z Qx) Z ((QaF al m (t.mono ai)).mono ?_)
   rintro _ aG ⟨_, rfl, ⟨a8, a3, ay, rfl⟩⟩
   refine ⟨_, Z, ?_⟩
   refine G ?_
   rcases Qv a with ⟨ac, a⟩ | ⟨ac, a⟩
   ·cases a
    have ae := af _ (ag (by intro _ h; cases h))
    cases ae
    refine G ?_
    exact fr
   cases a
   refine G ?_
   exact ⟨_, Z, fq⟩
  intro aC au aH z ah
  obtain ⟨a9, a4, az, ⟨av, rfl⟩⟩ := z
  refine G ?_
  exact ⟨_, .inl ah, fq⟩
 rintro aw aI ⟨aD, n, aa⟩
 have hm := n.elim (ad _) (ab _)
 clear n
 obtain ⟨aA, a5, a0, ⟨ax, rfl⟩⟩ := aa
 cases hm
 refine G ?_
 exact fr
theorem Y7 {w0 w : World} {s : PHeap} {H : List Res} {f : (List Int)} {b : GState} {g : Value} {a c : Nat} {r : Bool} (hm : JC f b = some r) (hS : St w0 s (H) w) (h : SliceRep (Qc .i64) s g f) (i : At s a c encGState b) :
  Calls Tryz.prog 95 #[g, Value.func (.func 94) #[] #[Value.pointer (some ⟨a, c, none⟩)]] w fun e w' => ∃ v, e = .returned v ∧ ((fun (k : Bool) => ∃ (d : PHeap) , PHeap.le s d ∧ St w0 d (H) w' ∧ v = Value.bool (k)) r) := by
 unfold JC at hm
 refine Ql Tryz.func95 Z Z ?_
 obtain ⟨p, j, hm⟩ := Zg hm
 refine G ?_
 refine Tc Z Z Z Z (YP j hS h i).r ?_
 rintro _ o ⟨n, m, l, rfl⟩
 cases hm
 refine G ?_
 exact fr
end Go.Pw
