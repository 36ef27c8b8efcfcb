/- -/
import Derived.Test.YtjbjflndiajoiaaGreatDoorLD
import Derived.Test.YtjbjflndiajoiaaGreatDoorLC
import Derived.Test.YtjbjflndiajoiaaGreatDoorWaP
import Derived.Test.YtjbjflndiajoiaaGreatDoorLE
import Derived.Test.YtjbjflndiajoiaaGreatDoorLF
import Derived.Test.YtjbjflndiajoiaaGreatDoorProg
import Derived.KernelRfl
set_option maxRecDepth 100000
set_option maxHeartbeats 4000000
set_option linter.unusedVariables false
namespace Go.Pw
open Go.Proofs
attribute [local irreducible] Exec WL W andThen Qax DL QX
theorem Qqo : QiQ Tryz.prog 281 [0, 1, 167, 206, 231, 247, 248, 249, 250, 251, 252, 253, 254, 255, 256, 257, 258, 259, 260, 261, 262, 263, 264, 273, 274, 275, 276, 277, 278, 279] = true := by kernel_rfl
theorem Tc {ρ : Operand → Value} {o : Oper} {w : World} {K : Value → World → Prop} {Q : Value → World → Prop} {f : FuncId} {args : List Operand} {ts : Array TypeId} {vs : List Value} (ho : o.op = .call { callee := .value (.func f), args := args.toArray, argTypes := ts }) (hc : ρ (.func f) = .func (.func f) #[] #[]) (hlt : Qp6 281 [0, 1, 167, 206, 231, 247, 248, 249, 250, 251, 252, 253, 254, 255, 256, 257, 258, 259, 260, 261, 262, 263, 264, 273, 274, 275, 276, 277, 278, 279] f = true) (hargs : List.map ρ args = vs) (h : Calls Tryz.prog f vs.toArray w fun e w' => ∃ v, e = .returned v ∧ Q v w') (hk : ∀ v w', Q v w' → K v w') : Exec Tryz.prog ρ o w K := Qlw Qqo ho hc hlt hargs h hk
instance A26 : ATy Tryz.prog 26 true 4 := ⟨by kernel_rfl⟩
instance F26_0 : FTy Tryz.prog 26 0 0 := ⟨by kernel_rfl⟩
instance A22 : ATy Tryz.prog 22 false 1 := ⟨by kernel_rfl⟩
instance S22 : STy Tryz.prog 22 3 1 8 := ⟨by kernel_rfl⟩
instance F26_3 : FTy Tryz.prog 26 3 3 := ⟨by kernel_rfl⟩
instance A24 : ATy Tryz.prog 24 false 1 := ⟨by kernel_rfl⟩
instance S24 : STy Tryz.prog 24 32 4 72 := ⟨by kernel_rfl⟩
instance A32 : ATy Tryz.prog 32 true 4 := ⟨by kernel_rfl⟩
theorem Z32 : Ji Tryz.prog 32 = some (Value.agg #[Value.string ⟨#[]⟩, O 0, Value.slice none 0 0, Value.slice none 0 0]) := by kernel_rfl
instance F32_3 : FTy Tryz.prog 32 3 3 := ⟨by kernel_rfl⟩
instance A30 : ATy Tryz.prog 30 false 1 := ⟨by kernel_rfl⟩
instance S30 : STy Tryz.prog 30 34 3 40 := ⟨by kernel_rfl⟩
instance A3 : ATy Tryz.prog 3 false 1 := ⟨by kernel_rfl⟩
instance F26_1 : FTy Tryz.prog 26 1 1 := ⟨by kernel_rfl⟩
theorem JM : Tryz.prog.follows .mixedOrders = true := by kernel_rfl
theorem Qif {w0 w : World} {s : PHeap} {H : List Res} {ab : (List Int)} {d : (List Int)} {i : Value} {j : Value} {r : Bool} (hm : Qas ab d = some r) (hS : St w0 s (H) w) (af : SliceRep (U .i64) s i ab) (o : SliceRep (U .i64) s j d) :
  Calls Tryz.prog 63 #[i, j] w fun e w' => ∃ v, e = .returned v ∧ ((fun (a0 : Bool) => ∃ (aa : PHeap) , PHeap.le s aa ∧ St w0 aa (H) w' ∧ v = Value.bool (a0)) r) := by
 unfold Qas at hm
 refine Qd Tryz.func63 Z Z (G ?_)
 rcases Qs hm with ⟨t, hm⟩ | ⟨t, hm⟩
 ·cases hm
  refine G ?_
  exact fr
 obtain ⟨p, ag, aq, ao, al⟩ := Qr hm
 refine W_c Z t (Qa4 (Jt (Ze (Zc (Zc (Zd (g ?_)))))))
 refine Qp (M := fun f' w' => ∃ s', (p = .next s' ∨ p = .brk s') ∧ (fun (_ : Unit) => ∃ (x : PHeap) , PHeap.le s x ∧ St w0 x (H) w' ∧ Fx f' [(0, i), (1, j), (12, O ((d.length : Int)))]) s') ?_ ?_
 ·refine G ?_
  refine QF (fun k' s' f' w' => (fun (_ : Unit) => ∃ (y : PHeap) , PHeap.le s y ∧ St w0 y (H) w' ∧ Fx f' [(13, O (k' : Int)), (0, i), (1, j), (12, O ((d.length : Int)))]) s') ag ?_ ?_ ?_
  ·exact fq
  ·intro av aT a4 a8 aZ aJ ah b ar
   obtain ⟨m, l, c, ⟨a9, rfl⟩⟩ := ah
   obtain ⟨n, a, b⟩ := V b
   refine Zc (Zd (g ?_))
   refine Zc (QcA (Zx (decide_eq_true (by omega))) (Jt (Ze (Zc (Qcv (Zc (Zd (g ?_))))))))
   refine Zc (Qp (M := fun f' w' => (fun (n : Bool) => ∃ (z : PHeap) , PHeap.le m z ∧ St w0 z (H) w' ∧ Fx f' [(0, i), (1, j), (12, O ((d.length : Int))), (13, O ((av : Int))), (31, Vb n)]) n) ?_ ?_)
   ·refine JE (n0 := 16) (qs 0 16 .done) JM (by kernel_rfl) (by kernel_rfl) ?_
    obtain ⟨bd, u, a⟩ := V a
    refine G ?_
    refine Qy S22.h Z Z Z (o.mono l) u ?_
    intro a1 aN ac a5
    refine ⟨Z, ?_⟩
    refine G ?_
    refine Zw (E := (U .i64)) c.drew A3.h Z Z Z ac ?_
    intro aW aw
    obtain rfl := Qg.1 aw
    refine ⟨Z, ?_⟩
    refine G ?_
    rcases Qs a with ⟨am, a⟩ | ⟨am, a⟩
    ·cases a
     refine G ?_
     exact ⟨m, (Zv _), c.drew, (Fx.mk)⟩
    refine G ?_
    refine Qy S22.h Z Z Z (o.mono l) u ?_
    intro a2 aO ad a6
    refine ⟨Z, ?_⟩
    refine G ?_
    refine Zw (E := (U .i64)) c.drew A3.h Z Z Z ad ?_
    intro aX ax
    obtain rfl := Qg.1 ax
    refine ⟨Z, ?_⟩
    obtain ⟨be, ay, a⟩ := V a
    refine G ?_
    refine Qy S22.h Z Z Z (af.mono l) ay ?_
    intro a3 aP ae a7
    refine ⟨Z, ?_⟩
    refine G ?_
    refine Zw (E := (U .i64)) c.drew A3.h Z Z Z ae ?_
    intro aY az
    obtain rfl := Qg.1 az
    refine ⟨Z, ?_⟩
    cases a
    refine G ?_
    exact ⟨m, (Zv _), c.drew, (Fx.mk)⟩
   intro aA ba aj
   obtain ⟨aQ, aK, aG, ⟨aB, rfl⟩⟩ := aj
   refine G ?_
   rcases Qs b with ⟨an, b⟩ | ⟨an, b⟩
   ·cases b
    have ap := aq _ (ar (by intro _ h; cases h))
    cases ap
    refine G ?_
    exact fr
   cases b
   refine G ?_
   exact ⟨_, Z, fq⟩
  intro aU aC bb ai au
  obtain ⟨aR, aL, aH, ⟨aD, rfl⟩⟩ := ai
  refine G ?_
  exact ⟨_, .inl au, fq⟩
 rintro aE bc ⟨aV, q, ak⟩
 have hm := q.elim (ao _) (al _)
 clear q
 obtain ⟨aS, aM, aI, ⟨aF, rfl⟩⟩ := ak
 cases hm
 refine G ?_
 exact fr
instance F26_2 : FTy Tryz.prog 26 2 2 := ⟨by kernel_rfl⟩
instance A23 : ATy Tryz.prog 23 false 1 := ⟨by kernel_rfl⟩
instance S23 : STy Tryz.prog 23 36 2 16 := ⟨by kernel_rfl⟩
instance A36 : ATy Tryz.prog 36 true 2 := ⟨by kernel_rfl⟩
theorem Z36 : Ji Tryz.prog 36 = some (Value.agg #[O 0, O 0]) := by kernel_rfl
instance F36_0 : FTy Tryz.prog 36 0 0 := ⟨by kernel_rfl⟩
instance F36_1 : FTy Tryz.prog 36 1 1 := ⟨by kernel_rfl⟩
theorem QaH {w0 w : World} {s : PHeap} {H : List Res} {y : (List Int)} {d : (List Fact)} {i : Value} {c : Value} {r : Bool} (hm : KI y d = some r) (hS : St w0 s (H) w) (z : SliceRep (U .i64) s i y) (aa : SliceRep encFact s c d) :
  Calls Tryz.prog 64 #[i, c] w fun e w' => ∃ v, e = .returned v ∧ ((fun (a6 : Bool) => ∃ (q : PHeap) , PHeap.le s q ∧ St w0 q (H) w' ∧ v = Value.bool (a6)) r) := by
 unfold KI at hm
 refine Qd Tryz.func64 Z Z ?_
 obtain ⟨l, ae, av, ar, ak⟩ := Qr hm
 refine Zc (Zd (g ?_))
 refine Zc (Zc (Zd (g ?_)))
 refine Qp (M := fun f' w' => ∃ s', (l = .next s' ∨ l = .brk s') ∧ (fun (_ : Unit) => ∃ (t : PHeap) , PHeap.le s t ∧ St w0 t (H) w' ∧ Fx f' [(0, i), (1, c), (7, c), (8, O ((d.length : Int)))]) s') ?_ ?_
 ·refine G ?_
  refine QF (fun k' s' f' w' => (fun (_ : Unit) => ∃ (u : PHeap) , PHeap.le s u ∧ St w0 u (H) w' ∧ Fx f' [(9, O (k' : Int)), (0, i), (1, c), (7, c), (8, O ((d.length : Int)))]) s') ae ?_ ?_ ?_
  ·exact fq
  ·intro ay ba aB aE bg aQ af b aw
   obtain ⟨a5, p, m, ⟨aF, rfl⟩⟩ := af
   obtain ⟨bm, az, b⟩ := V b
   refine G ?_
   refine Jk Z Z Z az ?_
   intro a7 aU ab
   refine G ?_
   refine Zw (E := encFact) m A36.h Z Z Z ab ?_
   intro bd a0
   obtain rfl := JH.1 a0
   refine G ?_
   refine Exec.alloc (cs := [O 0, O 0]) m Z36 Z Z ?_
   intro a8 bh aM
   refine G ?_
   refine KJ Z Z Z ?_
   intro bi aj
   obtain ⟨j, a, b⟩ := V b
   refine g ?_
   refine Zc (Qp (M := fun f' w' => (fun (j : Bool) => ∃ (x : PHeap) , PHeap.le a5 x ∧ St w0 x (H) w' ∧ Fx f' [(0, i), (1, c), (7, c), (8, O ((d.length : Int))), (9, O ((ay : Int))), (53, Vb j)]) j) ?_ ?_)
   ·refine JE (n0 := 40) (qs 0 40 .done) JM (by kernel_rfl) (by kernel_rfl) ?_
    have n := aj.drew
    refine G ?_
    rcases Qs a with ⟨al, a⟩ | ⟨al, a⟩
    ·cases a
     refine G ?_
     exact fq
    refine G ?_
    rcases Qs a with ⟨am, a⟩ | ⟨am, a⟩
    ·cases a
     refine G ?_
     exact fq
    refine G ?_
    rcases Qs a with ⟨an, a⟩ | ⟨an, a⟩
    ·cases a
     refine G ?_
     exact fq
    obtain ⟨bn, a1, a⟩ := V a
    refine G ?_
    refine Qy S22.h Z Z Z (z.mono p) a1 ?_
    intro a9 aV ac aC
    refine ⟨Z, ?_⟩
    refine G ?_
    refine Zw (E := (U .i64)) n A3.h Z Z Z ac ?_
    intro be a2
    obtain rfl := Qg.1 a2
    refine ⟨Z, ?_⟩
    refine G ?_
    rcases Qs a with ⟨ao, a⟩ | ⟨ao, a⟩
    ·cases a
     refine G ?_
     exact fq
    refine G ?_
    rcases Qs a with ⟨ap, a⟩ | ⟨ap, a⟩
    ·obtain ⟨bo, a3, a⟩ := V a
     refine G ?_
     refine Qy S23.h Z Z Z (aa.mono p) a3 ?_
     intro aA aW ad aD
     refine ⟨Z, ?_⟩
     refine G ?_
     refine Zw (E := (U .i64)) n A3.h Z Z Z (ad.sub (Sub.iso (QdG (Sub.refl _))) Z) ?_
     intro bf a4
     obtain rfl := Qg.1 a4
     refine ⟨Z, ?_⟩
     cases a
     refine G ?_
     exact fq
    cases a
    refine G ?_
    exact fq
   intro aG bj ah
   obtain ⟨aX, aR, aN, ⟨aH, rfl⟩⟩ := ah
   refine G ?_
   rcases Qs b with ⟨aq, b⟩ | ⟨aq, b⟩
   ·cases b
    have au := av _ (aw (by intro _ h; cases h))
    cases au
    refine G ?_
    exact fr
   cases b
   refine G ?_
   exact ⟨_, Z, fq⟩
  intro bb aI bk ag ax
  obtain ⟨aY, aS, aO, ⟨aJ, rfl⟩⟩ := ag
  refine G ?_
  exact ⟨_, .inl ax, fq⟩
 rintro aK bl ⟨bc, o, ai⟩
 have hm := o.elim (ar _) (ak _)
 clear o
 obtain ⟨aZ, aT, aP, ⟨aL, rfl⟩⟩ := ai
 cases hm
 refine G ?_
 exact fr
instance F32_1 : FTy Tryz.prog 32 1 1 := ⟨by kernel_rfl⟩
instance F32_0 : FTy Tryz.prog 32 0 0 := ⟨by kernel_rfl⟩
instance A9 : ATy Tryz.prog 9 false 1 := ⟨by kernel_rfl⟩
instance F32_2 : FTy Tryz.prog 32 2 2 := ⟨by kernel_rfl⟩
instance A34 : ATy Tryz.prog 34 true 3 := ⟨by kernel_rfl⟩
theorem Z34 : Ji Tryz.prog 34 = some (Value.agg #[Value.slice none 0 0, O 0, O 0]) := by kernel_rfl
instance F34_0 : FTy Tryz.prog 34 0 0 := ⟨by kernel_rfl⟩
instance F34_1 : FTy Tryz.prog 34 1 1 := ⟨by kernel_rfl⟩
instance F34_2 : FTy Tryz.prog 34 2 2 := ⟨by kernel_rfl⟩
theorem QfW {w0 w : World} {s : PHeap} {H : List Res} {ao : (List Int)} {b : Op} {l : Value} {q : Value} {m : Value} {r : Bool} (hm : YQ ao b = some r) (hS : St w0 s (H) w) (ap : SliceRep (U .i64) s l ao) (aq : SliceRep encFact s q b.Pre) (bn : SliceRep encEffect s m b.Effs) :
  Calls Tryz.prog 65 #[l, Value.agg #[Value.string (b.Name), O (b.Cost), q, m]] w fun e w' => ∃ v, e = .returned v ∧ ((fun (bm : Bool) => ∃ (ae : PHeap) , PHeap.le s ae ∧ St w0 ae (H) w' ∧ v = Value.bool (bm)) r) := by
 unfold YQ at hm
 refine Qd Tryz.func65 Z Z (G ?_)
 refine Kq Z Z ?_
 intro n ct a5
 obtain ⟨t, a, hm⟩ := V hm
 refine g ?_
 refine Zc (Zc (Qp (M := fun f' w' => (fun (t : Bool) => ∃ (af : PHeap) , PHeap.le s af ∧ St w0 af (Res.box n 32 [Value.string (b.Name), O (b.Cost), q, m] :: H) w' ∧ Fx f' [(0, l), (3, Vq n), (34, Vb t)]) t) ?_ ?_))
 ·refine G ?_
  rcases Qs a with ⟨aF, a⟩ | ⟨aF, a⟩
  ·cases a
   refine G ?_
   exact fq
  refine G ?_
  rcases Qs a with ⟨aG, a⟩ | ⟨aG, a⟩
  ·cases a
   refine G ?_
   exact fq
  refine G ?_
  rcases Qs a with ⟨aH, a⟩ | ⟨aH, a⟩
  ·cases a
   refine G ?_
   exact fq
  refine G ?_
  refine Qbs Tryz.underlying9 Z Z (G ?_)
  rcases Qs a with ⟨aI, a⟩ | ⟨aI, a⟩
  ·cases a
   refine G ?_
   exact fq
  obtain ⟨cA, bb, a⟩ := V a
  refine G ?_
  refine Tc Z Z Z Z (QaH bb a5 ap aq).r ?_
  rintro _ cu ⟨cb, bN, bC, rfl⟩
  cases a
  refine G ?_
  exact fq
 intro bt cv a0
 obtain ⟨ag, bO, bD, ⟨bu, rfl⟩⟩ := a0
 refine G ?_
 rcases Qs hm with ⟨aJ, hm⟩ | ⟨aJ, hm⟩
 ·cases hm
  refine G ?_
  exact fr
 refine G ?_
 refine Qbs Tryz.underlying9 Z Z ?_
 obtain ⟨cp, bc, hm⟩ := V hm
 obtain ⟨y, au, aT, aP, aD⟩ := Qr hm
 refine g ?_
 refine Qp (M := fun f' w' => ∃ s', (y = .next s' ∨ y = .brk s') ∧ (fun (_ : Unit) => ∃ (ah : PHeap) , PHeap.le ag ah ∧ St w0 ah (Res.box n 32 [Value.string (b.Name), O (b.Cost), q, m] :: H) w' ∧ Fx f' [(0, l), (3, Vq n), (37, O ((b.Name.size : Int)))]) s') ?_ ?_
 ·refine G ?_
  refine QF (fun k' s' f' w' => (fun (_ : Unit) => ∃ (ai : PHeap) , PHeap.le ag ai ∧ St w0 ai (Res.box n 32 [Value.string (b.Name), O (b.Cost), q, m] :: H) w' ∧ Fx f' [(38, O (k' : Int)), (0, l), (3, Vq n), (37, O ((b.Name.size : Int)))]) s') au ?_ ?_ ?_
  ·exact fq
  ·intro aZ cj br bv cw aO aw o aV
   obtain ⟨bj, bP, bE, ⟨bw, rfl⟩⟩ := aw
   obtain ⟨u, p, o⟩ := V o
   refine Zc (Zd (g ?_))
   refine Zc (QcA (Zx (decide_eq_true (by omega))) (Jt (Ze (Zc (Qcv (Zc (Zd (g ?_))))))))
   refine Zc (Qp (M := fun f' w' => (fun (u : Bool) => ∃ (aj : PHeap) , PHeap.le bj aj ∧ St w0 aj (Res.box n 32 [Value.string (b.Name), O (b.Cost), q, m] :: H) w' ∧ Fx f' [(0, l), (3, Vq n), (37, O ((b.Name.size : Int))), (38, O ((aZ : Int))), (52, Vb u)]) u) ?_ ?_)
   ·obtain ⟨c9, ad, p⟩ := V p
    refine G ?_
    refine Qby Tryz.underlying9 Z Z Z ad (G ?_)
    rcases Qs p with ⟨aK, p⟩ | ⟨aK, p⟩
    ·cases p
     refine G ?_
     exact fq
    refine G ?_
    refine Qby Tryz.underlying9 Z Z Z ad ?_
    cases p
    refine G ?_
    exact fq
   intro bx cx a1
   obtain ⟨bk, bQ, a6, ⟨bz, rfl⟩⟩ := a1
   refine G ?_
   rcases Qs o with ⟨aL, o⟩ | ⟨aL, o⟩
   ·cases o
    have aR := aT _ (aV (by intro _ h; cases h))
    cases aR
    refine G ?_
    exact fr
   cases o
   refine G ?_
   refine ⟨_, Z, ?_⟩; exact ⟨bk, lq, a6, (Fx.mk (FxL.cons (QM aO (by have h := Ql bc; simp at h; simp only [maxLen]; omega)) fxl))⟩
  intro ck b0 cy ax aW
  obtain ⟨cc, bR, bF, ⟨b1, rfl⟩⟩ := ax
  refine G ?_
  exact ⟨_, .inl aW, fq⟩
 rintro b2 cz ⟨cl, ab, a2⟩
 have hm := ab.elim (aP _) (aD _)
 clear ab
 obtain ⟨ak, bS, a7, ⟨b3, rfl⟩⟩ := a2
 obtain ⟨z, av, aU, aQ, aE⟩ := Qr hm
 refine g ?_
 refine Zc (Zc (Zd (g ?_)))
 refine Qp (M := fun f' w' => ∃ s', (z = .next s' ∨ z = .brk s') ∧ (fun (_ : Unit) => ∃ (al : PHeap) , PHeap.le ak al ∧ St w0 al (H) w' ∧ Fx f' [(0, l), (55, m), (56, O ((b.Effs.length : Int)))]) s') ?_ ?_
 ·refine G ?_
  refine QF (fun k' s' f' w' => (fun (_ : Unit) => ∃ (am : PHeap) , PHeap.le ak am ∧ St w0 am (H) w' ∧ Fx f' [(57, O (k' : Int)), (0, l), (55, m), (56, O ((b.Effs.length : Int)))]) s') av ?_ ?_ ?_
  ·have bG := a7.drop
   exact fq
  ·intro ba cm bs b4 c0 bM ay i aX
   obtain ⟨bl, bT, aa, ⟨b5, rfl⟩⟩ := ay
   obtain ⟨d, bd, i⟩ := V i
   refine G ?_
   refine Jk Z Z Z bd ?_
   intro bo ca ar
   refine G ?_
   refine Zw (E := encEffect) aa A34.h Z Z Z ar ?_
   intro cr be
   obtain ⟨cq, rfl, bh⟩ := KG.1 be
   refine G ?_
   refine Exec.alloc (cs := [Vn, O 0, O 0]) aa Z34 Z Z ?_
   intro bp c1 bH
   refine G ?_
   refine KJ Z Z Z ?_
   intro c2 a8
   obtain ⟨x, j, i⟩ := V i
   refine g ?_
   refine Zc (Qp (M := fun f' w' => (fun (x : Bool) => ∃ (an : PHeap) , PHeap.le bl an ∧ St w0 an (H) w' ∧ Fx f' [(0, l), (55, m), (56, O ((b.Effs.length : Int))), (57, O ((ba : Int))), (76, Vb x)]) x) ?_ ?_)
   ·obtain ⟨cB, bf, j⟩ := V j
    refine G ?_
    refine Tc Z Z Z Z (QaH bf a8 rq bh).r ?_
    rintro _ c3 ⟨cd, bU, a9, rfl⟩
    refine G ?_
    rcases Qs j with ⟨aM, j⟩ | ⟨aM, j⟩
    ·cases j
     refine G ?_
     exact fq
    refine G ?_
    refine Exec.build Z (Qc (c := [O (d.Var)]) (Qe Z Z) (Qc (c := [O (d.Val)]) (Qe Z Z) Qi)) (v := Value.agg #[O (d.Var), O (d.Val)]) (fun _ => by kernel_rfl) (G ?_)
    refine Exec.buildSlice (Te := 36) (cs := [O (d.Var), O (d.Val)]) a9 Z (Qc (c := [O (d.Var), O (d.Val)]) (Qe Z Z) Qi) (fun _ => by kernel_rfl) ?_
    intro bq c4 aA
    have aB := St.boxArr (E := encFact) (xs := [(⟨d.Var, d.Val⟩ : Fact)]) aA ⟨[O (d.Var), O (d.Val)], [], rfl, ⟨[O (d.Var)], [O (d.Val)], rfl, rfl, rfl⟩, rfl⟩ (by simp [maxLen])
    obtain ⟨ce, bV, aC, bi⟩ := aB.freezeArr
    obtain ⟨cC, bg, j⟩ := V j
    refine G ?_
    refine Tc Z Z Z Z (QaH bg aC rq bi).r ?_
    rintro _ c5 ⟨cf, bW, bI, rfl⟩
    cases j
    refine G ?_
    exact fq
   intro b6 c6 a3
   obtain ⟨cg, bX, bJ, ⟨b7, rfl⟩⟩ := a3
   refine G ?_
   rcases Qs i with ⟨aN, i⟩ | ⟨aN, i⟩
   ·cases i
    have aS := aU _ (aX (by intro _ h; cases h))
    cases aS
    refine G ?_
    exact fr
   cases i
   refine G ?_
   exact ⟨_, Z, fq⟩
  intro cn b8 c7 az aY
  obtain ⟨ch, bY, bK, ⟨b9, rfl⟩⟩ := az
  refine G ?_
  exact ⟨_, .inl aY, fq⟩
 rintro bA c8 ⟨co, ac, a4⟩
 have hm := ac.elim (aQ _) (aE _)
 clear ac
 obtain ⟨ci, bZ, bL, ⟨bB, rfl⟩⟩ := a4
 cases hm
 refine G ?_
 exact fr
theorem Qi5 {w0 w : World} {s : PHeap} {H : List Res} {b : Task} {c : Value} {l : Value} {m : Value} {d : Value} {r : Bool} (hm : Qcc b = some r) (hS : St w0 s (H) w) (aY : SliceRep (U .i64) s c b.Vars) (aZ : SliceRep (U .i64) s l b.Init) (ba : SliceRep encFact s m b.Goal) (bb : SliceRep encOp s d b.Ops) :
  Calls Tryz.prog 31 #[Value.agg #[c, l, m, d]] w fun e w' => ∃ v, e = .returned v ∧ ((fun (aX : Bool) => ∃ (ab : PHeap) , PHeap.le s ab ∧ St w0 ab (H) w' ∧ v = Value.bool (aX)) r) := by
 unfold Qcc at hm
 refine Qd Tryz.func31 Z Z (G ?_)
 refine Kq Z Z ?_
 intro a cj b0
 refine g ?_
 refine Zc (Zc (Qp (M := fun f' w' => ∃ (ac : PHeap) , PHeap.le s ac ∧ St w0 ac (Res.box a 26 [c, l, m, d] :: H) w' ∧ Fx f' [(1, Vq a), (16, Vb (((decide (64 < (b.Vars.length : Int))) || decide (4096 < (b.Ops.length : Int)))))]) ?_ ?_))
 ·refine G ?_
  rcases tf (decide (64 < (b.Vars.length : Int))) with a6 | a6
  ·refine G ?_
   exact fq
  refine G ?_
  exact fq
 intro bh ck av
 obtain ⟨ad, bD, b1, ⟨bi, rfl⟩⟩ := av
 refine G ?_
 rcases Qs hm with ⟨x, hm⟩ | ⟨x, hm⟩
 ·cases hm
  refine G ?_
  exact fr
 obtain ⟨q, an, aF, aB, a4⟩ := Qr hm
 refine W_c Z x (Qa4 (Jt (Ze (Zc (Zc (Zd (g ?_)))))))
 refine Qp (M := fun f' w' => ∃ s', (q = .next s' ∨ q = .brk s') ∧ (fun (_ : Unit) => ∃ (ae : PHeap) , PHeap.le ad ae ∧ St w0 ae (Res.box a 26 [c, l, m, d] :: H) w' ∧ Fx f' [(1, Vq a), (18, c), (19, O ((b.Vars.length : Int)))]) s') ?_ ?_
 ·refine G ?_
  refine QF (fun k' s' f' w' => (fun (_ : Unit) => ∃ (af : PHeap) , PHeap.le ad af ∧ St w0 af (Res.box a 26 [c, l, m, d] :: H) w' ∧ Fx f' [(20, O (k' : Int)), (1, Vq a), (18, c), (19, O ((b.Vars.length : Int)))]) s') an ?_ ?_ ?_
  ·exact fq
  ·intro aL bZ bf bj cl bA ap n aH
   obtain ⟨aV, bE, a0, ⟨bk, rfl⟩⟩ := ap
   obtain ⟨o, aM, n⟩ := V n
   refine G ?_
   refine Jk Z Z Z aM ?_
   intro bc bP al
   refine G ?_
   refine Zw (E := (U .i64)) a0 A3.h Z Z Z al ?_
   intro ch aN
   obtain rfl := Qg.1 aN
   refine g ?_
   refine Zc (Qp (M := fun f' w' => ∃ (ag : PHeap) , PHeap.le aV ag ∧ St w0 ag (Res.box a 26 [c, l, m, d] :: H) w' ∧ Fx f' [(1, Vq a), (18, c), (19, O ((b.Vars.length : Int))), (20, O ((aL : Int))), (29, Vb (((decide (o < 1)) || decide (64 < o))))]) ?_ ?_)
   ·refine G ?_
    rcases tf (decide (o < 1)) with a7 | a7
    ·refine G ?_
     exact fq
    refine G ?_
    exact fq
   intro bl cm aw
   obtain ⟨bR, bF, b2, ⟨bm, rfl⟩⟩ := aw
   refine G ?_
   rcases Qs n with ⟨a8, n⟩ | ⟨a8, n⟩
   ·cases n
    have aD := aF _ (aH (by intro _ h; cases h))
    cases aD
    refine G ?_
    exact fr
   cases n
   refine G ?_
   exact ⟨_, Z, fq⟩
  intro ca bn cn aq aI
  obtain ⟨bS, bG, b3, ⟨bo, rfl⟩⟩ := aq
  refine G ?_
  exact ⟨_, .inl aI, fq⟩
 rintro bp co ⟨cb, y, ax⟩
 have hm := y.elim (aB _) (a4 _)
 clear y
 obtain ⟨aW, bH, a1, ⟨bq, rfl⟩⟩ := ax
 obtain ⟨p, j, hm⟩ := V hm
 refine g ?_
 refine Zc (Zc (Qp (M := fun f' w' => (fun (p : Bool) => ∃ (ah : PHeap) , PHeap.le aW ah ∧ St w0 ah (Res.box a 26 [c, l, m, d] :: H) w' ∧ Fx f' [(1, Vq a), (44, Vb p)]) p) ?_ ?_))
 ·obtain ⟨c0, aO, j⟩ := V j
  refine G ?_
  refine Tc Z Z Z Z (Qif aO a1 rq rq).r ?_
  rintro _ cp ⟨bT, bI, a2, rfl⟩
  refine G ?_
  rcases Qs j with ⟨a9, j⟩ | ⟨a9, j⟩
  ·cases j
   refine G ?_
   exact fq
  obtain ⟨c1, aP, j⟩ := V j
  refine G ?_
  refine Tc Z Z Z Z (QaH aP a2 rq rq).r ?_
  rintro _ cq ⟨bU, bJ, b4, rfl⟩
  cases j
  refine G ?_
  exact fq
 intro br cr ay
 obtain ⟨ai, bK, b5, ⟨bs, rfl⟩⟩ := ay
 refine G ?_
 rcases Qs hm with ⟨z, hm⟩ | ⟨z, hm⟩
 ·cases hm
  refine G ?_
  exact fr
 obtain ⟨t, ao, aG, aC, a5⟩ := Qr hm
 refine W_c Z z (Qa4 (Jt (Ze (Zc (Zc (Zd (g ?_)))))))
 refine Qp (M := fun f' w' => ∃ s', (t = .next s' ∨ t = .brk s') ∧ (fun (_ : Unit) => ∃ (aj : PHeap) , PHeap.le ai aj ∧ St w0 aj (Res.box a 26 [c, l, m, d] :: H) w' ∧ Fx f' [(1, Vq a), (46, d), (47, O ((b.Ops.length : Int)))]) s') ?_ ?_
 ·refine G ?_
  refine QF (fun k' s' f' w' => (fun (_ : Unit) => ∃ (ak : PHeap) , PHeap.le ai ak ∧ St w0 ak (Res.box a 26 [c, l, m, d] :: H) w' ∧ Fx f' [(48, O (k' : Int)), (1, Vq a), (46, d), (47, O ((b.Ops.length : Int)))]) s') ao ?_ ?_ ?_
  ·exact fq
  ·intro bC cc bg bt ct bB ar i aJ
   obtain ⟨bV, bL, u, ⟨bu, rfl⟩⟩ := ar
   obtain ⟨cz, aQ, i⟩ := V i
   refine G ?_
   refine Jk Z Z Z aQ ?_
   intro bd bQ am
   refine G ?_
   refine Zw (E := encOp) u A32.h Z Z Z am ?_
   intro ci aR
   obtain ⟨cf, cg, rfl, aT, aU⟩ := KX.1 aR
   refine G ?_
   refine Exec.alloc (cs := [Value.string (⟨#[]⟩), O 0, Vn, Vn]) u Z32 Z Z ?_
   intro be cu b6
   refine G ?_
   refine KJ Z Z Z ?_
   intro cv a3
   obtain ⟨c2, aS, i⟩ := V i
   refine G ?_
   refine Tc Z Z Z Z (QfW aS a3 rq aT aU).r ?_
   rintro _ cw ⟨bW, bM, b7, rfl⟩
   refine G ?_
   rcases Qs i with ⟨aA, i⟩ | ⟨aA, i⟩
   ·cases i
    have aE := aG _ (aJ (by intro _ h; cases h))
    cases aE
    refine G ?_
    exact fr
   cases i
   refine G ?_
   exact ⟨_, Z, fq⟩
  intro cd bv cx au aK
  obtain ⟨bX, bN, b8, ⟨bw, rfl⟩⟩ := au
  refine G ?_
  exact ⟨_, .inl aK, fq⟩
 rintro bx cy ⟨ce, aa, az⟩
 have hm := aa.elim (aC _) (a5 _)
 clear aa
 obtain ⟨bY, bO, b9, ⟨bz, rfl⟩⟩ := az
 cases hm
 refine G ?_
 exact fr
theorem Qi3 {w0 w : World} {s : PHeap} {H : List Res} {d : (List Int)} {b : Int} {c : Value} {r : Int} (hm : Qcb d b = some r) (hS : St w0 s (H) w) (ak : SliceRep (U .i64) s c d) :
  Calls Tryz.prog 32 #[c, O b] w fun e w' => ∃ v, e = .returned v ∧ ((fun (aj : Int) => ∃ (n : PHeap) , PHeap.le s n ∧ St w0 n (H) w' ∧ v = O aj) r) := by
 unfold Qcb at hm
 refine Qd Tryz.func32 Z Z ?_
 obtain ⟨j, t, ae, ac, aa⟩ := Qr hm
 refine Zc (Zd (g ?_))
 refine Zc (Zd (g ?_))
 refine Zc (Zc (Zd (g ?_)))
 refine Qp (M := fun f' w' => ∃ s', (j = .next s' ∨ j = .brk s') ∧ (fun (m : Int) => ∃ (o : PHeap) , PHeap.le s o ∧ St w0 o (H) w' ∧ Fx f' [(1, O b), (5, O m), (8, c), (9, O ((d.length : Int)))]) s') ?_ ?_
 ·refine G ?_
  refine QF (fun k' s' f' w' => (fun (i : Int) => ∃ (p : PHeap) , PHeap.le s p ∧ St w0 p (H) w' ∧ Fx f' [(10, O (k' : Int)), (1, O b), (5, O i), (8, c), (9, O ((d.length : Int)))]) s') t ?_ ?_ ?_
  ·exact fq
  ·intro ay i am an a7 ax u a af
   obtain ⟨a3, az, z, ⟨ao, rfl⟩⟩ := u
   obtain ⟨aA, ah, a⟩ := V a
   refine G ?_
   refine Jk Z Z Z ah ?_
   intro al a2 q
   refine G ?_
   refine Zw (E := (U .i64)) z A3.h Z Z Z q ?_
   intro a6 ai
   obtain rfl := Qg.1 ai
   refine G ?_
   refine QbE Z Z Z (G ?_)
   refine Qd2 Z Z Z (G ?_)
   rcases Qs a with ⟨ab, a⟩ | ⟨ab, a⟩
   ·cases a
    have ad := ae _ (af (by intro _ h; cases h))
    cases ad
    refine G ?_
    exact fr
   cases a
   refine G ?_
   exact ⟨_, Z, fq⟩
  intro i ap a8 x ag
  obtain ⟨a4, a0, av, ⟨aq, rfl⟩⟩ := x
  refine G ?_
  exact ⟨_, .inl ag, fq⟩
 rintro ar a9 ⟨m, l, y⟩
 have hm := l.elim (ac _) (aa _)
 clear l
 obtain ⟨a5, a1, aw, ⟨au, rfl⟩⟩ := y
 cases hm
 refine G ?_
 exact fr
theorem Qig {w0 w : World} {s : PHeap} {H : List Res} {t39 : Task} {v40 : Value} {v42 : Value} {v44 : Value} {v46 : Value} {r : Bool} (hm : Qbo t39 = some r) (hS : St w0 s (H) w) (a41 : SliceRep (U .i64) s v40 t39.Vars) (a43 : SliceRep (U .i64) s v42 t39.Init) (a45 : SliceRep encFact s v44 t39.Goal) (a47 : SliceRep encOp s v46 t39.Ops) :
  Calls Tryz.prog 14 #[Value.agg #[v40, v42, v44, v46]] w fun e w' => ∃ v, e = .returned v ∧ ((fun (y49 : Bool) => ∃ (n : PHeap) , PHeap.le s n ∧ St w0 n (H) w' ∧ v = Value.bool (y49)) r) := by
 unfold Qbo at hm
 refine Qd Tryz.func14 Z Z (G ?_)
 refine Kq Z Z ?_
 intro c bd a9
 refine g ?_
 refine Zc (Zc (Qp (M := fun f' w' => ∃ (o : PHeap) , PHeap.le s o ∧ St w0 o (Res.box c 26 [v40, v42, v44, v46] :: H) w' ∧ Fx f' [(1, Vq c), (14, Vb (((decide (12 < (t39.Vars.length : Int))) || decide (20 < (t39.Ops.length : Int)))))]) ?_ ?_))
 ·refine G ?_
  rcases tf (decide (12 < (t39.Vars.length : Int))) with ah | ah
  ·refine G ?_
   exact fq
  refine G ?_
  exact fq
 intro az be ab
 obtain ⟨p, aI, aA, ⟨a0, rfl⟩⟩ := ab
 refine G ?_
 rcases Qs hm with ⟨l, hm⟩ | ⟨l, hm⟩
 ·cases hm
  refine G ?_
  exact fr
 obtain ⟨i, y, am, ak, ag⟩ := Qr hm
 refine W_c Z l (Qa4 (Jt (Ze (Zc (Zc (Zd (g ?_)))))))
 refine Qp (M := fun f' w' => ∃ s', (i = .next s' ∨ i = .brk s') ∧ (fun (_ : Unit) => ∃ (q : PHeap) , PHeap.le p q ∧ St w0 q (Res.box c 26 [v40, v42, v44, v46] :: H) w' ∧ Fx f' [(1, Vq c), (16, v46), (17, O ((t39.Ops.length : Int)))]) s') ?_ ?_
 ·refine G ?_
  refine QF (fun k' s' f' w' => (fun (_ : Unit) => ∃ (t : PHeap) , PHeap.le p t ∧ St w0 t (Res.box c 26 [v40, v42, v44, v46] :: H) w' ∧ Fx f' [(18, O (k' : Int)), (1, Vq c), (16, v46), (17, O ((t39.Ops.length : Int)))]) s') y ?_ ?_ ?_
  ·exact fq
  ·intro aH aX ay a1 bf aG z b an
   obtain ⟨aS, aJ, j, ⟨a2, rfl⟩⟩ := z
   obtain ⟨bn, ap, b⟩ := V b
   refine G ?_
   refine Jk Z Z Z ap ?_
   intro aw aP x
   refine G ?_
   refine Zw (E := encOp) j A32.h Z Z Z x ?_
   intro bc aq
   obtain ⟨ba, bb, rfl, aQ, aR⟩ := KX.1 aq
   refine G ?_
   refine Exec.alloc (cs := [Value.string (⟨#[]⟩), O 0, Vn, Vn]) j Z32 Z Z ?_
   intro ax bg aB
   refine G ?_
   refine KJ Z Z Z ?_
   intro bh aC
   refine G ?_
   rcases Qs b with ⟨ai, b⟩ | ⟨ai, b⟩
   ·cases b
    have al := am _ (an (by intro _ h; cases h))
    cases al
    refine G ?_
    exact fr
   cases b
   refine G ?_
   exact ⟨_, Z, fq⟩
  intro aY a3 bi aa ao
  obtain ⟨aT, aK, aD, ⟨a4, rfl⟩⟩ := aa
  refine G ?_
  exact ⟨_, .inl ao, fq⟩
 rintro a5 bj ⟨aZ, m, ac⟩
 have hm := m.elim (ak _) (ag _)
 clear m
 obtain ⟨av, aL, ae, ⟨a6, rfl⟩⟩ := ac
 obtain ⟨d, a, hm⟩ := V hm
 refine g ?_
 refine Zc (Qp (M := fun f' w' => (fun (d : Bool) => ∃ (u : PHeap) , PHeap.le av u ∧ St w0 u (H) w' ∧ Fx f' [(2, Vb d)]) d) ?_ ?_)
 ·obtain ⟨bo, ar, a⟩ := V a
  refine G ?_
  refine Tc Z Z Z Z (Qi5 ar ae rq rq rq rq).r ?_
  rintro _ bk ⟨aU, aM, af, rfl⟩
  refine G ?_
  rcases Qs a with ⟨aj, a⟩ | ⟨aj, a⟩
  ·obtain ⟨bp, au, a⟩ := V a
   refine G ?_
   refine Tc Z Z Z Z (Qi3 au af rq).r ?_
   rintro _ bl ⟨aV, aN, aE, rfl⟩
   cases a
   refine G ?_
   exact fq
  cases a
  refine G ?_
  exact fq
 intro a7 bm ad
 obtain ⟨aW, aO, aF, ⟨a8, rfl⟩⟩ := ad
 cases hm
 refine G ?_
 exact fr
theorem Qi1 {w0 w : World} {s : PHeap} {H : List Res} {t22 : Task} {v23 : Value} {v25 : Value} {v27 : Value} {v29 : Value} {r : Bool} (hm : QbZ t22 = some r) (hS : St w0 s (H) w) (a24 : SliceRep (U .i64) s v23 t22.Vars) (a26 : SliceRep (U .i64) s v25 t22.Init) (a28 : SliceRep encFact s v27 t22.Goal) (a30 : SliceRep encOp s v29 t22.Ops) :
  Calls Tryz.prog 4 #[Value.agg #[v23, v25, v27, v29]] w fun e w' => ∃ v, e = .returned v ∧ ((fun (y32 : Bool) => ∃ (ah : PHeap) , PHeap.le s ah ∧ St w0 ah (H) w' ∧ v = Value.bool (y32)) r) := by
 unfold QbZ at hm
 refine Qd Tryz.func4 Z Z (G ?_)
 refine Kq Z Z ?_
 intro d c8 aC
 obtain ⟨cQ, bd, hm⟩ := V hm
 refine G ?_
 refine Tc Z Z Z Z (Qig bd aC a24 a26 a28 a30).r ?_
 rintro _ c9 ⟨ai, bX, bH, rfl⟩
 refine G ?_
 rcases Qs hm with ⟨z, hm⟩ | ⟨z, hm⟩
 ·cases hm
  refine G ?_
  exact fr
 obtain ⟨q, ay, aU, aN, aG⟩ := Qr hm
 refine W_c Z z (Qa4 (Jt (Ze (Zc (Zc (Zd (g ?_)))))))
 refine Qp (M := fun f' w' => ∃ s', (q = .next s' ∨ q = .brk s') ∧ (fun (_ : Unit) => ∃ (aj : PHeap) , PHeap.le ai aj ∧ St w0 aj (Res.box d 26 [v23, v25, v27, v29] :: H) w' ∧ Fx f' [(1, Vq d), (14, v23), (15, O ((t22.Vars.length : Int)))]) s') ?_ ?_
 ·refine G ?_
  refine QF (fun k' s' f' w' => (fun (_ : Unit) => ∃ (ak : PHeap) , PHeap.le ai ak ∧ St w0 ak (Res.box d 26 [v23, v25, v27, v29] :: H) w' ∧ Fx f' [(16, O (k' : Int)), (1, Vq d), (14, v23), (15, O ((t22.Vars.length : Int)))]) s') ay ?_ ?_ ?_
  ·exact fq
  ·intro bb cx br bu cA bU a1 c aW
   obtain ⟨bk, bY, aD, ⟨bv, rfl⟩⟩ := a1
   obtain ⟨o, be, c⟩ := V c
   refine G ?_
   refine Jk Z Z Z be ?_
   intro bm cj av
   refine G ?_
   refine Zw (E := (U .i64)) aD A3.h Z Z Z av ?_
   intro c5 bf
   obtain rfl := Qg.1 bf
   refine g ?_
   refine Zc (Qp (M := fun f' w' => ∃ (al : PHeap) , PHeap.le bk al ∧ St w0 al (Res.box d 26 [v23, v25, v27, v29] :: H) w' ∧ Fx f' [(1, Vq d), (14, v23), (15, O ((t22.Vars.length : Int))), (16, O ((bb : Int))), (25, Vb (((decide (o < 2)) || decide (4 < o))))]) ?_ ?_)
   ·refine G ?_
    rcases tf (decide (o < 2)) with aJ | aJ
    ·refine G ?_
     exact fq
    refine G ?_
    exact fq
   intro bw cB a7
   obtain ⟨cp, bZ, bI, ⟨bx, rfl⟩⟩ := a7
   refine G ?_
   rcases Qs c with ⟨aK, c⟩ | ⟨aK, c⟩
   ·cases c
    have aQ := aU _ (aW (by intro _ h; cases h))
    cases aQ
    refine G ?_
    exact fr
   cases c
   refine G ?_
   exact ⟨_, Z, fq⟩
  intro cy bz cC a2 aX
  obtain ⟨cq, ca, bJ, ⟨b0, rfl⟩⟩ := a2
  refine G ?_
  exact ⟨_, .inl aX, fq⟩
 rintro b1 cD ⟨cz, aa, a8⟩
 have hm := aa.elim (aN _) (aG _)
 clear aa
 obtain ⟨am, cb, aE, ⟨b2, rfl⟩⟩ := a8
 obtain ⟨t, az, ae, aO, aH⟩ := Qr hm
 refine g ?_
 refine Zc (Zc (Zd (g ?_)))
 refine Qp (M := fun f' w' => ∃ s', (t = .next s' ∨ t = .brk s') ∧ (fun (_ : Unit) => ∃ (an : PHeap) , PHeap.le am an ∧ St w0 an (H) w' ∧ Fx f' [(28, v29), (29, O ((t22.Ops.length : Int)))]) s') ?_ ?_
 ·refine G ?_
  refine QF (fun k' s' f' w' => (fun (_ : Unit) => ∃ (ao : PHeap) , PHeap.le am ao ∧ St w0 ao (H) w' ∧ Fx f' [(30, O (k' : Int)), (28, v29), (29, O ((t22.Ops.length : Int)))]) s') az ?_ ?_ ?_
  ·have bK := aE.drop
   exact fq
  ·intro j c0 bs b3 cE bV a3 a af
   obtain ⟨ap, cc, x, ⟨b4, rfl⟩⟩ := a3
   obtain ⟨p, bg, a⟩ := V a
   refine G ?_
   refine Jk Z Z Z bg ?_
   intro bn ck aw
   refine G ?_
   refine Zw (E := encOp) x A32.h Z Z Z aw ?_
   intro c6 bh
   obtain ⟨c3, n, rfl, cm, cn⟩ := KX.1 bh
   refine G ?_
   refine Exec.alloc (cs := [Value.string (⟨#[]⟩), O 0, Vn, Vn]) x Z32 Z Z ?_
   intro bo cF bL
   refine G ?_
   refine KJ Z Z Z ?_
   intro cG aF
   obtain ⟨u, a0, aV, aP, aI⟩ := Qr a
   refine g ?_
   refine Zc (Zd (g ?_))
   refine Zc (Zc (Zd (g ?_)))
   refine Qp (M := fun f' w' => ∃ s', (u = .next s' ∨ u = .brk s') ∧ (fun (ag : Int) => ∃ (aq : PHeap) , PHeap.le ap aq ∧ St w0 aq (H) w' ∧ Fx f' [(7, O ag), (28, v29), (29, O ((t22.Ops.length : Int))), (30, O ((j : Int))), (35, n), (36, O ((p.Effs.length : Int)))]) s') ?_ ?_
   ·refine G ?_
    refine QF (fun k' s' f' w' => (fun (l : Int) => ∃ (ar : PHeap) , PHeap.le ap ar ∧ St w0 ar (H) w' ∧ Fx f' [(37, O (k' : Int)), (7, O l), (28, v29), (29, O ((t22.Ops.length : Int))), (30, O ((j : Int))), (35, n), (36, O ((p.Effs.length : Int)))]) s') a0 ?_ ?_ ?_
    ·have bM := aF.drop
     exact fq
    ·intro bc l bt b5 cH bW a4 b aY
     obtain ⟨bl, cd, y, ⟨b6, rfl⟩⟩ := a4
     obtain ⟨cP, bi, b⟩ := V b
     refine G ?_
     refine Jk Z Z Z bi ?_
     intro bp cl ax
     refine G ?_
     refine Zw (E := encEffect) y A34.h Z Z Z ax ?_
     intro c7 bj
     obtain ⟨c4, rfl, co⟩ := KG.1 bj
     refine G ?_
     refine Exec.alloc (cs := [Vn, O 0, O 0]) y Z34 Z Z ?_
     intro bq cI bN
     refine G ?_
     refine KJ Z Z Z ?_
     intro cJ bO
     refine G ?_
     rcases Qs b with ⟨ab, b⟩ | ⟨ab, b⟩
     ·cases b
      have aR := aV _ (aY (by intro _ h; cases h))
      cases aR
      have aS := ae _ (af (by intro _ h; cases h))
      cases aS
      refine G ?_
      exact fr
     obtain ⟨m, i, b⟩ := V b
     refine W_c Z ab (Qa4 (Jt (Ze (Zc (Zd (g ?_))))))
     refine Qp (M := fun f' w' => (fun (m : Int) => ∃ (au : PHeap) , PHeap.le bl au ∧ St w0 au (H) w' ∧ Fx f' [(7, O m), (28, v29), (29, O ((t22.Ops.length : Int))), (30, O ((j : Int))), (35, n), (36, O ((p.Effs.length : Int))), (37, O ((bc : Int)))]) m) ?_ ?_
     ·rcases Qs i with ⟨aL, i⟩ | ⟨aL, i⟩
      ·cases i
       refine G ?_
       exact fq
      cases i
      refine G ?_
      exact fq
     intro b7 cK a9
     obtain ⟨cr, ce, bP, ⟨b8, rfl⟩⟩ := a9
     cases b
     refine G ?_
     exact ⟨_, Z, fq⟩
    intro l b9 cL a5 aZ
    obtain ⟨ct, cf, bQ, ⟨bA, rfl⟩⟩ := a5
    refine G ?_
    exact ⟨_, .inl aZ, fq⟩
   rintro bB cM ⟨ag, ac, aA⟩
   have a := ac.elim (aP _) (aI _)
   clear ac
   obtain ⟨cu, cg, bR, ⟨bC, rfl⟩⟩ := aA
   refine G ?_
   rcases Qs a with ⟨aM, a⟩ | ⟨aM, a⟩
   ·cases a
    have aT := ae _ (af (by intro _ h; cases h))
    cases aT
    refine G ?_
    exact fr
   cases a
   refine G ?_
   exact ⟨_, Z, fq⟩
  intro c1 bD cN a6 ba
  obtain ⟨cv, ch, bS, ⟨bE, rfl⟩⟩ := a6
  refine G ?_
  exact ⟨_, .inl ba, fq⟩
 rintro bF cO ⟨c2, ad, aB⟩
 have hm := ad.elim (aO _) (aH _)
 clear ad
 obtain ⟨cw, ci, bT, ⟨bG, rfl⟩⟩ := aB
 cases hm
 refine G ?_
 exact fr
theorem Z26 : Ji Tryz.prog 26 = some (Value.agg #[Value.slice none 0 0, Value.slice none 0 0, Value.slice none 0 0, Value.slice none 0 0]) := by kernel_rfl
instance S86 : STy Tryz.prog 86 23 1 24 := ⟨by kernel_rfl⟩
theorem Z23 : Ji Tryz.prog 23 = some (Value.slice none 0 0) := by kernel_rfl
theorem Qcp {w0 w : World} {s : PHeap} {H : List Res} {a : Task} {ac : Value} {ad : Value} {g : Value} {i : Value} {r : (List (List Fact))} (hm : K3 a = some r) (hS : St w0 s (H) w) (a9 : SliceRep (U .i64) s ac a.Vars) (aA : SliceRep (U .i64) s ad a.Init) (t : SliceRep encFact s g a.Goal) (aB : SliceRep encOp s i a.Ops) :
  Calls Tryz.prog 37 #[Value.agg #[ac, ad, g, i]] w fun e w' => ∃ v, e = .returned v ∧ ((fun (a8 : (List (List Fact))) => ∃ (o : PHeap) (ae : Value), PHeap.le s o ∧ St w0 o (H) w' ∧ v = ae ∧ SliceRep (Qm encFact) o ae a8) r) := by
 unfold K3 at hm
 refine Qd Tryz.func37 Z Z (G ?_)
 refine Kq Z Z ?_
 intro aC bx ao
 refine G ?_
 refine Exec.buildSlice (Te := 23) (cs := [g]) ao Z (Qc (c := [g]) (Qe Z (Qz t.one)) Qi) (fun _ => by kernel_rfl) ?_
 intro aD bz ap
 obtain ⟨n, ai, hm⟩ := V hm
 refine G ?_
 refine QO (fun k' s' f' w' => (fun (n : (List (List Fact))) => ∃ (aa : PHeap) (j : Value), PHeap.le s aa ∧ St w0 aa (Res.arr (Qm encFact) 23 j n :: H) w' ∧ Fx f' [(14, O (k' : Int)), (3, j), (12, i), (13, O ((a.Ops.length : Int)))]) s') ai ?_ ?_ ?_
 ·have aS := St.boxArr (E := (Qm encFact)) (xs := [a.Goal]) ap ⟨[g], [], rfl, ⟨_, rfl, t⟩, rfl⟩ (by simp [maxLen])
  exact fq
 ·intro ay n bn aK b0 aZ ak b
  obtain ⟨a5, j, bc, u, ⟨aL, rfl⟩⟩ := ak
  obtain ⟨af, az, b⟩ := V b
  refine G ?_
  refine Jk Z Z Z az ?_
  intro aE bj ag
  refine G ?_
  refine Zw (E := encOp) u A32.h Z Z Z ag ?_
  intro bt a0
  obtain ⟨p, a6, rfl, y, bl⟩ := KX.1 a0
  refine G ?_
  refine Exec.alloc (cs := [Value.string (⟨#[]⟩), O 0, Vn, Vn]) u Z32 Z Z ?_
  intro aF b1 aT
  refine G ?_
  refine KJ Z Z Z ?_
  intro b2 aq
  refine G ?_
  refine Exec.buildSlice (Te := 23) (cs := [p]) aq Z (Qc (c := [p]) (Qe Z (Qz y.one)) Qi) (fun _ => by kernel_rfl) ?_
  intro aG b3 ar
  obtain ⟨bd, a1, b⟩ := V b
  refine G ?_
  refine Q5 (E := (Qm encFact)) (ys := [af.Pre]) ar.f2 S86.h Z23 Z (by decide) Z Z Z Z ⟨[p], [], Z, ⟨_, Z, y⟩, Z⟩ Z a1 ?_
  intro bu b4 au
  obtain ⟨m, aj, b⟩ := V b
  refine G ?_
  refine QO (fun k' s' f' w' => (fun (m : (List (List Fact))) => ∃ (ab : PHeap) (l : Value), PHeap.le a5 ab ∧ St w0 ab (Res.arr (Qm encFact) 23 l m :: H) w' ∧ Fx f' [(26, O (k' : Int)), (3, l), (12, i), (13, O ((a.Ops.length : Int))), (14, O ((ay : Int))), (24, a6), (25, O ((af.Effs.length : Int)))]) s') aj ?_ ?_ ?_
  ·have aU := (au.f1).drop
   exact fq
  ·intro bb m bo aM b5 ba al d
   obtain ⟨bp, l, be, x, ⟨aN, rfl⟩⟩ := al
   obtain ⟨a7, a2, d⟩ := V d
   refine G ?_
   refine Jk Z Z Z a2 ?_
   intro aH bk ah
   refine G ?_
   refine Zw (E := encEffect) x A34.h Z Z Z ah ?_
   intro bv a3
   obtain ⟨q, rfl, z⟩ := KG.1 a3
   refine G ?_
   refine Exec.alloc (cs := [Vn, O 0, O 0]) x Z34 Z Z ?_
   intro aI b6 aV
   refine G ?_
   refine KJ Z Z Z ?_
   intro b7 av
   refine G ?_
   refine Exec.buildSlice (Te := 23) (cs := [q]) av Z (Qc (c := [q]) (Qe Z (Qz z.one)) Qi) (fun _ => by kernel_rfl) ?_
   intro aJ b8 aw
   obtain ⟨bf, a4, d⟩ := V d
   refine G ?_
   refine Q5 (E := (Qm encFact)) (ys := [a7.When]) aw.f2 S86.h Z23 Z (by decide) Z Z Z Z ⟨[q], [], Z, ⟨_, Z, z⟩, Z⟩ Z a4 ?_
   intro bw b9 aW
   cases d
   refine G ?_
   exact fq
  intro aO bA am
  obtain ⟨bq, l, bg, aX, ⟨aP, rfl⟩⟩ := am
  cases b
  refine G ?_
  exact fq
 intro aQ bB an
 obtain ⟨br, j, bh, ax, ⟨aR, rfl⟩⟩ := an
 cases hm
 refine G ?_
 refine ⟨_, KR Z, ?_⟩
 obtain ⟨bs, bi, aY, bm⟩ := ax.freezeArr
 exact fq
theorem N70 : (Tryz.f70.name == "runtime.NumGoroutine") = false := by kernel_rfl
theorem QfM {w0 w : World} {s : PHeap} {H : List Res} {a : (List Fact)} {c : Value} {r : Bool} (hm : YF a = some r) (hS : St w0 s (H) w) (f : SliceRep encFact s c a) :
  Calls Tryz.prog 70 #[c] w fun e w' => ∃ v, e = .returned v ∧ ((fun (d : Bool) => ∃ (b : PHeap) , PHeap.le s b ∧ St w0 b (H) w' ∧ v = Value.bool (d)) r) := by
 unfold YF at hm
 refine Qd Tryz.func70 Z Z ?_
 cases hm
 refine G ?_
 exact fr
theorem Qe2 {w0 w : World} {s : PHeap} {H : List Res} {b : (List (List Fact))} {c : Value} {r : Int} (hm : KO b = some r) (hS : St w0 s (H) w) (aj : SliceRep (Qm encFact) s c b) :
  Calls Tryz.prog 99 #[c, Value.func (.func 70) #[] #[]] w fun e w' => ∃ v, e = .returned v ∧ ((fun (ai : Int) => ∃ (l : PHeap) , PHeap.le s l ∧ St w0 l (H) w' ∧ v = O ai) r) := by
 unfold KO at hm
 refine Qd Tryz.func99 Z Z ?_
 obtain ⟨d, p, ab, z, x⟩ := Qr hm
 refine Zc (Zd (g ?_))
 refine Zc (Zc (Zd (g ?_)))
 refine Qp (M := fun f' w' => ∃ s', (d = .next s' ∨ d = .brk s') ∧ (fun (_ : Unit) => ∃ (m : PHeap) , PHeap.le s m ∧ St w0 m (H) w' ∧ Fx f' [(0, c), (1, Value.func (.func 70) #[] #[]), (7, O ((b.length : Int)))]) s') ?_ ?_
 ·refine G ?_
  refine QF (fun k' s' f' w' => (fun (_ : Unit) => ∃ (n : PHeap) , PHeap.le s n ∧ St w0 n (H) w' ∧ Fx f' [(8, O (k' : Int)), (0, c), (1, Value.func (.func 70) #[] #[]), (7, O ((b.length : Int)))]) s') p ?_ ?_ ?_
  ·exact fq
  ·intro ay a8 al am aC ax q a ac
   obtain ⟨a4, az, i, ⟨an, rfl⟩⟩ := q
   obtain ⟨ah, ae, a⟩ := V a
   refine G ?_
   refine Jk Z Z Z ae ?_
   intro ak a3 o
   refine G ?_
   refine Zw (E := (Qm encFact)) i A23.h Z Z Z o ?_
   intro aB af
   have ag := QH.1 af
   refine G ?_
   refine Qia Z Z Tryz.func70 Z N70 (Zi Z Qw) ((QfM (Qdc ah) i ag).mono ?_)
   rintro _ aD ⟨_, rfl, ⟨a5, a0, au, rfl⟩⟩
   refine ⟨_, Z, ?_⟩
   refine G ?_
   rcases Qs a with ⟨y, a⟩ | ⟨y, a⟩
   ·cases a
    have aa := ab _ (ac (by intro _ h; cases h))
    cases aa
    refine G ?_
    exact fr
   cases a
   refine G ?_
   exact ⟨_, Z, fq⟩
  intro a9 ao aE t ad
  obtain ⟨a6, a1, av, ⟨ap, rfl⟩⟩ := t
  refine G ?_
  exact ⟨_, .inl ad, fq⟩
 rintro aq aF ⟨aA, j, u⟩
 have hm := j.elim (z _) (x _)
 clear j
 obtain ⟨a7, a2, aw, ⟨ar, rfl⟩⟩ := u
 cases hm
 refine G ?_
 exact fr
theorem QfX {w0 w : World} {s : PHeap} {H : List Res} {b : (List (List Fact))} {c : Value} {r : Bool} (hm : YS b = some r) (hS : St w0 s (H) w) (d : SliceRep (Qm encFact) s c b) :
  Calls Tryz.prog 69 #[c, Value.func (.func 70) #[] #[]] w fun e w' => ∃ v, e = .returned v ∧ ((fun (g : Bool) => ∃ (a : PHeap) , PHeap.le s a ∧ St w0 a (H) w' ∧ v = Value.bool (g)) r) := by
 unfold YS at hm
 refine Qd Tryz.func69 Z Z ?_
 obtain ⟨l, f, hm⟩ := V hm
 refine G ?_
 refine Tc Z Z Z Z (Qe2 f hS d).r ?_
 rintro _ k ⟨j, i, h, rfl⟩
 cases hm
 refine G ?_
 exact fr
theorem Qid {w0 w : World} {s : PHeap} {H : List Res} {a : Task} {i : Value} {j : Value} {l : Value} {c : Value} {r : Bool} (hm : Qbm a = some r) (hS : St w0 s (H) w) (ax : SliceRep (U .i64) s i a.Vars) (ay : SliceRep (U .i64) s j a.Init) (az : SliceRep encFact s l a.Goal) (a0 : SliceRep encOp s c a.Ops) :
  Calls Tryz.prog 36 #[Value.agg #[i, j, l, c]] w fun e w' => ∃ v, e = .returned v ∧ ((fun (aw : Bool) => ∃ (q : PHeap) , PHeap.le s q ∧ St w0 q (H) w' ∧ v = Value.bool (aw)) r) := by
 unfold Qbm at hm
 refine Qd Tryz.func36 Z Z (G ?_)
 refine Kq Z Z ?_
 intro d bf aC
 refine g ?_
 refine Zc (Zc (Qp (M := fun f' w' => ∃ (t : PHeap) , PHeap.le s t ∧ St w0 t (Res.box d 26 [i, j, l, c] :: H) w' ∧ Fx f' [(1, Vq d), (14, Vb (((decide (64 < (a.Vars.length : Int))) || decide (4096 < (a.Ops.length : Int)))))]) ?_ ?_))
 ·refine G ?_
  rcases tf (decide (64 < (a.Vars.length : Int))) with ai | ai
  ·refine G ?_
   exact fq
  refine G ?_
  exact fq
 intro a4 bg ad
 obtain ⟨u, aK, aD, ⟨a5, rfl⟩⟩ := ad
 refine G ?_
 rcases Qs hm with ⟨o, hm⟩ | ⟨o, hm⟩
 ·cases hm
  refine G ?_
  exact fr
 obtain ⟨m, aa, am, ak, ah⟩ := Qr hm
 refine W_c Z o (Qa4 (Jt (Ze (Zc (Zc (Zd (g ?_)))))))
 refine Qp (M := fun f' w' => ∃ s', (m = .next s' ∨ m = .brk s') ∧ (fun (_ : Unit) => ∃ (x : PHeap) , PHeap.le u x ∧ St w0 x (Res.box d 26 [i, j, l, c] :: H) w' ∧ Fx f' [(1, Vq d), (16, c), (17, O ((a.Ops.length : Int)))]) s') ?_ ?_
 ·refine G ?_
  refine QF (fun k' s' f' w' => (fun (_ : Unit) => ∃ (y : PHeap) , PHeap.le u y ∧ St w0 y (Res.box d 26 [i, j, l, c] :: H) w' ∧ Fx f' [(18, O (k' : Int)), (1, Vq d), (16, c), (17, O ((a.Ops.length : Int)))]) s') aa ?_ ?_ ?_
  ·exact fq
  ·intro aJ aY a3 a6 bh aI ab b an
   obtain ⟨aT, aL, n, ⟨a7, rfl⟩⟩ := ab
   obtain ⟨bo, ap, b⟩ := V b
   refine G ?_
   refine Jk Z Z Z ap ?_
   intro a1 aQ z
   refine G ?_
   refine Zw (E := encOp) n A32.h Z Z Z z ?_
   intro bd aq
   obtain ⟨bb, bc, rfl, aR, aS⟩ := KX.1 aq
   refine G ?_
   refine Exec.alloc (cs := [Value.string (⟨#[]⟩), O 0, Vn, Vn]) n Z32 Z Z ?_
   intro a2 bi aE
   refine G ?_
   refine KJ Z Z Z ?_
   intro bj aF
   refine G ?_
   rcases Qs b with ⟨aj, b⟩ | ⟨aj, b⟩
   ·cases b
    have al := am _ (an (by intro _ h; cases h))
    cases al
    refine G ?_
    exact fr
   cases b
   refine G ?_
   exact ⟨_, Z, fq⟩
  intro aZ a8 bk ac ao
  obtain ⟨aU, aM, aG, ⟨a9, rfl⟩⟩ := ac
  refine G ?_
  exact ⟨_, .inl ao, fq⟩
 rintro aA bl ⟨ba, p, ae⟩
 have hm := p.elim (ak _) (ah _)
 clear p
 obtain ⟨aV, aN, af, ⟨aB, rfl⟩⟩ := ae
 obtain ⟨bp, ar, hm⟩ := V hm
 refine G ?_
 refine Tc Z Z Z Z (Qcp ar af rq rq rq rq).r ?_
 rintro be bm ⟨aW, _, aO, ag, rfl, av⟩
 obtain ⟨bq, au, hm⟩ := V hm
 refine G ?_
 refine Tc Z Z Z Z (QfX au ag av).r ?_
 rintro _ bn ⟨aX, aP, aH, rfl⟩
 cases hm
 refine G ?_
 exact fr
theorem C52 : Tryz.prog.concrete 52 = true := by kernel_rfl
theorem QgJ {w0 w : World} {s : PHeap} {H : List Res} {x : (List Int)} {c : (List Int)} {d : Value} {i : Value} {r : Bool} (hm : Qa8 x c = some r) (hS : St w0 s (H) w) (aw : SliceRep (U .i64) s d x) (ax : SliceRep (U .i64) s i c) :
  Calls Tryz.prog 30 #[d, i] w fun e w' => ∃ v, e = .returned v ∧ ((fun (av : Bool) => ∃ (p : PHeap) , PHeap.le s p ∧ St w0 p (H) w' ∧ v = Value.bool (av)) r) := by
 unfold Qa8 at hm
 refine Qd Tryz.func30 Z Z (G ?_)
 rcases Qs hm with ⟨n, hm⟩ | ⟨n, hm⟩
 ·cases hm
  refine G ?_
  exact fr
 obtain ⟨l, aa, ak, ai, af⟩ := Qr hm
 refine W_c Z n (Qa4 (Jt (Ze (Zc (Zc (Zd (g ?_)))))))
 refine Qp (M := fun f' w' => ∃ s', (l = .next s' ∨ l = .brk s') ∧ (fun (_ : Unit) => ∃ (q : PHeap) , PHeap.le s q ∧ St w0 q (H) w' ∧ Fx f' [(0, d), (12, i), (13, O ((c.length : Int)))]) s') ?_ ?_
 ·refine G ?_
  refine QF (fun k' s' f' w' => (fun (_ : Unit) => ∃ (t : PHeap) , PHeap.le s t ∧ St w0 t (H) w' ∧ Fx f' [(14, O (k' : Int)), (0, d), (12, i), (13, O ((c.length : Int)))]) s') aa ?_ ?_ ?_
  ·exact fq
  ·intro an aM a0 a1 aR aC ab a al
   obtain ⟨au, aD, m, ⟨a2, rfl⟩⟩ := ab
   obtain ⟨aV, ao, a⟩ := V a
   refine G ?_
   refine Jk Z Z Z ao ?_
   intro ay aH y
   refine G ?_
   refine Zw (E := (U .i64)) m A3.h Z Z Z y ?_
   intro aP ap
   obtain rfl := Qg.1 ap
   obtain ⟨j, b, a⟩ := V a
   refine g ?_
   refine Zc (Qp (M := fun f' w' => (fun (j : Bool) => ∃ (u : PHeap) , PHeap.le au u ∧ St w0 u (H) w' ∧ Fx f' [(0, d), (12, i), (13, O ((c.length : Int))), (14, O ((an : Int))), (28, Vb j)]) j) ?_ ?_)
   ·refine G ?_
    rcases Qs b with ⟨ag, b⟩ | ⟨ag, b⟩
    ·cases b
     refine G ?_
     exact fq
    obtain ⟨aW, aq, b⟩ := V b
    refine G ?_
    refine Jk Z Z Z aq ?_
    intro az aI z
    refine G ?_
    refine Zw (E := (U .i64)) m A3.h Z Z Z z ?_
    intro aQ ar
    obtain rfl := Qg.1 ar
    cases b
    refine G ?_
    exact fq
   intro a3 aS ad
   obtain ⟨aJ, aE, a9, ⟨a4, rfl⟩⟩ := ad
   refine G ?_
   rcases Qs a with ⟨ah, a⟩ | ⟨ah, a⟩
   ·cases a
    have aj := ak _ (al (by intro _ h; cases h))
    cases aj
    refine G ?_
    exact fr
   cases a
   refine G ?_
   exact ⟨_, Z, fq⟩
  intro aN a5 aT ac am
  obtain ⟨aK, aF, aA, ⟨a6, rfl⟩⟩ := ac
  refine G ?_
  exact ⟨_, .inl am, fq⟩
 rintro a7 aU ⟨aO, o, ae⟩
 have hm := o.elim (ai _) (af _)
 clear o
 obtain ⟨aL, aG, aB, ⟨a8, rfl⟩⟩ := ae
 cases hm
 refine G ?_
 exact fr
theorem Qad {w0 w : World} {s : PHeap} {H : List Res} {z : (List Int)} {c : (List Fact)} {d : Value} {i : Value} {r : Bool} (hm : KB z c = some r) (hS : St w0 s (H) w) (ab : SliceRep (U .i64) s d z) (a5 : SliceRep encFact s i c) :
  Calls Tryz.prog 38 #[d, i] w fun e w' => ∃ v, e = .returned v ∧ ((fun (a4 : Bool) => ∃ (t : PHeap) , PHeap.le s t ∧ St w0 t (H) w' ∧ v = Value.bool (a4)) r) := by
 unfold KB at hm
 refine Qd Tryz.func38 Z Z ?_
 obtain ⟨n, ae, au, aq, al⟩ := Qr hm
 refine Zc (Zd (g ?_))
 refine Zc (Zd (g ?_))
 refine Zc (Zc (Zd (g ?_)))
 refine Qp (M := fun f' w' => ∃ s', (n = .next s' ∨ n = .brk s') ∧ (fun (q : Int) => ∃ (u : PHeap) , PHeap.le s u ∧ St w0 u (H) w' ∧ Fx f' [(0, d), (5, O q), (8, i), (9, O ((c.length : Int)))]) s') ?_ ?_
 ·refine G ?_
  refine QF (fun k' s' f' w' => (fun (j : Int) => ∃ (x : PHeap) , PHeap.le s x ∧ St w0 x (H) w' ∧ Fx f' [(10, O (k' : Int)), (0, d), (5, O j), (8, i), (9, O ((c.length : Int)))]) s') ae ?_ ?_ ?_
  ·exact fq
  ·intro ax j a8 aA aX aM af b av
   obtain ⟨a3, ay, o, ⟨aB, rfl⟩⟩ := af
   obtain ⟨aa, az, b⟩ := V b
   refine G ?_
   refine Jk Z Z Z az ?_
   intro a6 aQ ac
   refine G ?_
   refine Zw (E := encFact) o A36.h Z Z Z ac ?_
   intro aV a0
   obtain rfl := JH.1 a0
   refine G ?_
   refine Exec.alloc (cs := [O 0, O 0]) o Z36 Z Z ?_
   intro m aY aI
   refine G ?_
   refine KJ Z Z Z ?_
   intro aZ aj
   obtain ⟨l, a, b⟩ := V b
   refine g ?_
   refine Zc (Zc (Qp (M := fun f' w' => (fun (l : Bool) => ∃ (y : PHeap) , PHeap.le a3 y ∧ St w0 y (Res.box m 36 [O (aa.Var), O (aa.Val)] :: H) w' ∧ Fx f' [(0, d), (7, Vq m), (8, i), (9, O ((c.length : Int))), (10, O ((ax : Int))), (39, Vb l)]) l) ?_ ?_))
   ·refine JE (n0 := 26) (qs 0 26 .done) JM (by kernel_rfl) (by kernel_rfl) ?_
    have ak := aj.drew
    refine G ?_
    rcases Qs a with ⟨am, a⟩ | ⟨am, a⟩
    ·cases a
     refine G ?_
     exact fq
    refine G ?_
    rcases Qs a with ⟨an, a⟩ | ⟨an, a⟩
    ·cases a
     refine G ?_
     exact fq
    refine G ?_
    rcases Qs a with ⟨ao, a⟩ | ⟨ao, a⟩
    ·cases a
     refine G ?_
     exact fq
    obtain ⟨bd, a1, a⟩ := V a
    refine G ?_
    refine Qy S22.h Z Z Z (ab.mono ay) a1 ?_
    intro a7 aR ad a9
    refine ⟨Z, ?_⟩
    refine G ?_
    refine Zw (E := (U .i64)) ak A3.h Z Z Z ad ?_
    intro aW a2
    obtain rfl := Qg.1 a2
    refine ⟨Z, ?_⟩
    cases a
    refine G ?_
    exact fq
   intro aC ba ah
   obtain ⟨aS, aN, aJ, ⟨aD, rfl⟩⟩ := ah
   refine G ?_
   rcases Qs b with ⟨ap, b⟩ | ⟨ap, b⟩
   ·cases b
    have ar := au _ (av (by intro _ h; cases h))
    cases ar
    refine G ?_
    exact fr
   cases b
   refine G ?_
   exact ⟨_, Z, fq⟩
  intro j aE bb ag aw
  obtain ⟨aT, aO, aK, ⟨aF, rfl⟩⟩ := ag
  refine G ?_
  exact ⟨_, .inl aw, fq⟩
 rintro aG bc ⟨q, p, ai⟩
 have hm := p.elim (aq _) (al _)
 clear p
 obtain ⟨aU, aP, aL, ⟨aH, rfl⟩⟩ := ai
 cases hm
 refine G ?_
 exact fr
theorem Qic {w0 w : World} {s : PHeap} {H : List Res} {a : ByteArray} {r : Bool} (hm : Qbl a = some r) (hS : St w0 s (H) w) :
  Calls Tryz.prog 39 #[Value.string (a)] w fun e w' => ∃ v, e = .returned v ∧ ((fun (an : Bool) => ∃ (m : PHeap) , PHeap.le s m ∧ St w0 m (H) w' ∧ v = Value.bool (an)) r) := by
 unfold Qbl at hm
 refine Qd Tryz.func39 Z Z (G ?_)
 refine Qbs Tryz.underlying9 Z Z ?_
 obtain ⟨aB, ak, hm⟩ := V hm
 obtain ⟨i, q, ag, ae, aa⟩ := Qr hm
 refine g ?_
 refine Qp (M := fun f' w' => ∃ s', (i = .next s' ∨ i = .brk s') ∧ (fun (_ : Unit) => ∃ (n : PHeap) , PHeap.le s n ∧ St w0 n (H) w' ∧ Fx f' [(0, Value.string (a)), (5, O ((a.size : Int)))]) s') ?_ ?_
 ·refine G ?_
  refine QF (fun k' s' f' w' => (fun (_ : Unit) => ∃ (o : PHeap) , PHeap.le s o ∧ St w0 o (H) w' ∧ Fx f' [(6, O (k' : Int)), (0, Value.string (a)), (5, O ((a.size : Int)))]) s') q ?_ ?_ ?_
  ·exact fq
  ·intro aj a8 ao ap aC ad t b ah
   obtain ⟨al, a2, az, ⟨aq, rfl⟩⟩ := t
   obtain ⟨d, c, b⟩ := V b
   refine Zc (Zd (g ?_))
   refine Zc (QcA (Zx (decide_eq_true (by omega))) (Jt (Ze (Zc (Qcv (Zc (Zd (g ?_))))))))
   refine Zc (Qp (M := fun f' w' => (fun (d : Bool) => ∃ (p : PHeap) , PHeap.le al p ∧ St w0 p (H) w' ∧ Fx f' [(0, Value.string (a)), (5, O ((a.size : Int))), (6, O ((aj : Int))), (18, Vb d)]) d) ?_ ?_)
   ·obtain ⟨aG, l, c⟩ := V c
    refine G ?_
    refine Qby Tryz.underlying9 Z Z Z l (G ?_)
    rcases Qs c with ⟨ab, c⟩ | ⟨ab, c⟩
    ·cases c
     refine G ?_
     exact fq
    refine G ?_
    refine Qby Tryz.underlying9 Z Z Z l ?_
    cases c
    refine G ?_
    exact fq
   intro ar aD x
   obtain ⟨am, a3, z, ⟨au, rfl⟩⟩ := x
   refine G ?_
   rcases Qs b with ⟨ac, b⟩ | ⟨ac, b⟩
   ·cases b
    have af := ag _ (ah (by intro _ h; cases h))
    cases af
    refine G ?_
    exact fr
   cases b
   refine G ?_
   refine ⟨_, Z, ?_⟩; exact ⟨am, lq, z, (Fx.mk (FxL.cons (QM ad (by have h := Ql ak; simp at h; simp only [maxLen]; omega)) fxl))⟩
  intro a9 av aE u ai
  obtain ⟨a6, a4, a0, ⟨aw, rfl⟩⟩ := u
  refine G ?_
  exact ⟨_, .inl ai, fq⟩
 rintro ax aF ⟨aA, j, y⟩
 have hm := j.elim (ae _) (aa _)
 clear j
 obtain ⟨a7, a5, a1, ⟨ay, rfl⟩⟩ := y
 refine G ?_
 refine Qbs Tryz.underlying9 Z Z ?_
 cases hm
 refine G ?_
 exact fr
theorem Qae {w0 w : World} {s : PHeap} {H : List Res} {d : Task} {i : Value} {j : Value} {l : Value} {b : Value} {r : (Option Int)} (hm : Kr d = some r) (hS : St w0 s (H) w) (aJ : SliceRep (U .i64) s i d.Vars) (aK : SliceRep (U .i64) s j d.Init) (aL : SliceRep encFact s l d.Goal) (aM : SliceRep encOp s b d.Ops) :
  Calls Tryz.prog 16 #[Value.agg #[i, j, l, b]] w fun e w' => ∃ v, e = .returned v ∧ ((fun (cC : (Option Int)) => ∃ (au : PHeap) , PHeap.le s au ∧ St w0 au (H) w' ∧ v = K4 52 (cC)) r) := by
 unfold Kr at hm
 refine Qd Tryz.func16 Z Z (G ?_)
 refine Kq Z Z ?_
 intro a fB bt
 obtain ⟨go, cp, hm⟩ := V hm
 refine G ?_
 refine Tc Z Z Z Z (Qid cp bt aJ aK aL aM).r ?_
 rintro _ fC ⟨av, eg, d9, rfl⟩
 refine G ?_
 rcases Qs hm with ⟨ak, hm⟩ | ⟨ak, hm⟩
 ·refine G ?_
  refine Exec.makeInterface C52 Z Z ?_
  cases hm
  refine G ?_
  exact fr
 obtain ⟨z, aT, bV, bJ, b5⟩ := Qr hm
 refine W_c Z ak (Qa4 (Jt (Ze (Zc (Zc (Zd (g ?_)))))))
 refine Qp (M := fun f' w' => ∃ s', (z = .next s' ∨ z = .brk s') ∧ (fun (_ : Unit) => ∃ (aw : PHeap) , PHeap.le av aw ∧ St w0 aw (Res.box a 26 [i, j, l, b] :: H) w' ∧ Fx f' [(1, Vq a), (19, i), (20, O ((d.Vars.length : Int)))]) s') ?_ ?_
 ·refine G ?_
  refine QF (fun k' s' f' w' => (fun (_ : Unit) => ∃ (ax : PHeap) , PHeap.le av ax ∧ St w0 ax (Res.box a 26 [i, j, l, b] :: H) w' ∧ Fx f' [(21, O (k' : Int)), (1, Vq a), (19, i), (20, O ((d.Vars.length : Int)))]) s') aT ?_ ?_ ?_
  ·exact fq
  ·intro cn ff cO cU fD dX aZ q cb
   obtain ⟨cA, eh, bu, ⟨cV, rfl⟩⟩ := aZ
   obtain ⟨x, cq, q⟩ := V q
   refine G ?_
   refine Jk Z Z Z cq ?_
   intro cD e8 aN
   refine G ?_
   refine Zw (E := (U .i64)) bu A3.h Z Z Z aN ?_
   intro f5 cr
   obtain rfl := Qg.1 cr
   refine g ?_
   refine Zc (Qp (M := fun f' w' => ∃ (ay : PHeap) , PHeap.le cA ay ∧ St w0 ay (Res.box a 26 [i, j, l, b] :: H) w' ∧ Fx f' [(1, Vq a), (19, i), (20, O ((d.Vars.length : Int))), (21, O ((cn : Int))), (30, Vb (((decide (x < 1)) || decide (64 < x))))]) ?_ ?_)
   ·refine G ?_
    rcases tf (decide (x < 1)) with bB | bB
    ·refine G ?_
     exact fq
    refine G ?_
    exact fq
   intro cW fE bl
   obtain ⟨eM, ei, dA, ⟨cX, rfl⟩⟩ := bl
   refine G ?_
   rcases Qs q with ⟨bC, q⟩ | ⟨bC, q⟩
   ·refine G ?_
    refine Exec.makeInterface C52 Z Z ?_
    cases q
    have bP := bV _ (cb (by intro _ h; cases h))
    cases bP
    refine G ?_
    exact fr
   cases q
   refine G ?_
   exact ⟨_, Z, fq⟩
  intro fg cY fF ba cc
  obtain ⟨eN, ej, dB, ⟨cZ, rfl⟩⟩ := ba
  refine G ?_
  exact ⟨_, .inl cc, fq⟩
 rintro da fG ⟨fh, al, bm⟩
 have hm := al.elim (bJ _) (b5 _)
 clear al
 obtain ⟨az, ek, dC, ⟨db, rfl⟩⟩ := bm
 obtain ⟨aa, aU, bW, bK, b6⟩ := Qr hm
 refine g ?_
 refine Zc (Zc (Zd (g ?_)))
 refine Qp (M := fun f' w' => ∃ s', (aa = .next s' ∨ aa = .brk s') ∧ (fun (_ : Unit) => ∃ (a0 : PHeap) , PHeap.le az a0 ∧ St w0 a0 (Res.box a 26 [i, j, l, b] :: H) w' ∧ Fx f' [(1, Vq a), (34, b), (35, O ((d.Ops.length : Int)))]) s') ?_ ?_
 ·refine G ?_
  refine QF (fun k' s' f' w' => (fun (_ : Unit) => ∃ (a1 : PHeap) , PHeap.le az a1 ∧ St w0 a1 (Res.box a 26 [i, j, l, b] :: H) w' ∧ Fx f' [(36, O (k' : Int)), (1, Vq a), (34, b), (35, O ((d.Ops.length : Int)))]) s') aU ?_ ?_ ?_
  ·exact fq
  ·intro co fi cP dc fH dY bb t cd
   obtain ⟨cB, el, af, ⟨dd, rfl⟩⟩ := bb
   obtain ⟨y, ct, t⟩ := V t
   refine G ?_
   refine Jk Z Z Z ct ?_
   intro cE e9 aO
   refine G ?_
   refine Zw (E := encOp) af A32.h Z Z Z aO ?_
   intro f6 cu
   obtain ⟨fz, f0, rfl, eE, eF⟩ := KX.1 cu
   refine G ?_
   refine Exec.alloc (cs := [Value.string (⟨#[]⟩), O 0, Vn, Vn]) af Z32 Z Z ?_
   intro cF fI dD
   refine G ?_
   refine KJ Z Z Z ?_
   intro fJ dE
   refine g ?_
   refine Zc (Qp (M := fun f' w' => ∃ (a2 : PHeap) , PHeap.le cB a2 ∧ St w0 a2 (Res.box a 26 [i, j, l, b] :: H) w' ∧ Fx f' [(1, Vq a), (34, b), (35, O ((d.Ops.length : Int))), (36, O ((co : Int))), (47, Vb (((decide (y.Cost < 0)) || decide (1048576 < y.Cost))))]) ?_ ?_)
   ·refine G ?_
    rcases tf (decide (y.Cost < 0)) with bD | bD
    ·refine G ?_
     exact fq
    refine G ?_
    exact fq
   intro de fK bn
   obtain ⟨eO, em, dF, ⟨df, rfl⟩⟩ := bn
   refine G ?_
   rcases Qs t with ⟨bE, t⟩ | ⟨bE, t⟩
   ·refine G ?_
    refine Exec.makeInterface C52 Z Z ?_
    cases t
    have bQ := bW _ (cd (by intro _ h; cases h))
    cases bQ
    refine G ?_
    exact fr
   cases t
   refine G ?_
   exact ⟨_, Z, fq⟩
  intro fj dg fL bc ce
  obtain ⟨eP, en, dG, ⟨dh, rfl⟩⟩ := bc
  refine G ?_
  exact ⟨_, .inl ce, fq⟩
 rintro di fM ⟨fk, am, bo⟩
 have hm := am.elim (bK _) (b6 _)
 clear am
 obtain ⟨eQ, eo, bv, ⟨dj, rfl⟩⟩ := bo
 obtain ⟨gp, cv, hm⟩ := V hm
 refine G ?_
 refine Tc Z Z Z Z (QgJ cv bv rq rq).r ?_
 rintro _ fN ⟨eR, ep, bw, rfl⟩
 refine G ?_
 rcases Qs hm with ⟨bF, hm⟩ | ⟨bF, hm⟩
 ·refine G ?_
  refine Exec.makeInterface C52 Z Z ?_
  cases hm
  refine G ?_
  exact fr
 obtain ⟨aI, cw, hm⟩ := V hm
 refine G ?_
 refine Tc Z Z Z Z (Qcp cw bw rq rq rq rq).r ?_
 rintro aG fO ⟨a3, _, er, dH, rfl, eG⟩
 obtain ⟨ab, aV, bX, bL, b7⟩ := Qr hm
 refine g ?_
 refine Qp (M := fun f' w' => ∃ s', (ab = .next s' ∨ ab = .brk s') ∧ (fun (_ : Unit) => ∃ (a4 : PHeap) , PHeap.le a3 a4 ∧ St w0 a4 (Res.box a 26 [i, j, l, b] :: H) w' ∧ Fx f' [(1, Vq a), (58, aG), (59, O ((aI.length : Int)))]) s') ?_ ?_
 ·refine G ?_
  refine QF (fun k' s' f' w' => (fun (_ : Unit) => ∃ (a5 : PHeap) , PHeap.le a3 a5 ∧ St w0 a5 (Res.box a 26 [i, j, l, b] :: H) w' ∧ Fx f' [(60, O (k' : Int)), (1, Vq a), (58, aG), (59, O ((aI.length : Int)))]) s') aV ?_ ?_ ?_
  ·exact fq
  ·intro ed fl cQ dk fP dZ bd n cf
   obtain ⟨eS, es, ag, ⟨dl, rfl⟩⟩ := bd
   obtain ⟨gm, cx, n⟩ := V n
   refine G ?_
   refine Jk Z Z Z cx ?_
   intro cG eA aP
   refine G ?_
   refine Zw (E := (Qm encFact)) ag A23.h Z Z Z aP ?_
   intro f7 cy
   have c8 := QH.1 cy
   obtain ⟨gq, cz, n⟩ := V n
   refine G ?_
   refine Tc Z Z Z Z (Qad cz ag rq c8).r ?_
   rintro _ fQ ⟨eT, et, dI, rfl⟩
   refine G ?_
   rcases Qs n with ⟨bG, n⟩ | ⟨bG, n⟩
   ·refine G ?_
    refine Exec.makeInterface C52 Z Z ?_
    cases n
    have bR := bX _ (cf (by intro _ h; cases h))
    cases bR
    refine G ?_
    exact fr
   cases n
   refine G ?_
   exact ⟨_, Z, fq⟩
  intro fm dm fR be cg
  obtain ⟨eU, eu, dJ, ⟨dn, rfl⟩⟩ := be
  refine G ?_
  exact ⟨_, .inl cg, fq⟩
 rintro dp fS ⟨fn, an, bp⟩
 have hm := an.elim (bL _) (b7 _)
 clear an
 obtain ⟨a6, ev, dK, ⟨dq, rfl⟩⟩ := bp
 obtain ⟨ac, aW, bY, bM, b8⟩ := Qr hm
 refine g ?_
 refine Zc (Zc (Zd (g ?_)))
 refine Qp (M := fun f' w' => ∃ s', (ac = .next s' ∨ ac = .brk s') ∧ (fun (_ : Unit) => ∃ (a7 : PHeap) , PHeap.le a6 a7 ∧ St w0 a7 (Res.box a 26 [i, j, l, b] :: H) w' ∧ Fx f' [(1, Vq a), (72, b), (73, O ((d.Ops.length : Int)))]) s') ?_ ?_
 ·refine G ?_
  refine QF (fun k' s' f' w' => (fun (_ : Unit) => ∃ (a8 : PHeap) , PHeap.le a6 a8 ∧ St w0 a8 (Res.box a 26 [i, j, l, b] :: H) w' ∧ Fx f' [(74, O (k' : Int)), (1, Vq a), (72, b), (73, O ((d.Ops.length : Int)))]) s') aW ?_ ?_ ?_
  ·exact fq
  ·intro ar fo cR dr fT ea bf u ch
   obtain ⟨a9, ew, ah, ⟨ds, rfl⟩⟩ := bf
   obtain ⟨aH, c0, u⟩ := V u
   refine G ?_
   refine Jk Z Z Z c0 ?_
   intro cH eB aQ
   refine G ?_
   refine Zw (E := encOp) ah A32.h Z Z Z aQ ?_
   intro f8 c1
   obtain ⟨f1, aF, rfl, eH, eI⟩ := KX.1 c1
   refine G ?_
   refine Exec.alloc (cs := [Value.string (⟨#[]⟩), O 0, Vn, Vn]) ah Z32 Z Z ?_
   intro cI fU dL
   refine G ?_
   refine KJ Z Z Z ?_
   intro fV bx
   obtain ⟨ad, aX, bZ, bN, b9⟩ := Qr u
   refine g ?_
   refine Zc (Zd (g ?_))
   refine Qp (M := fun f' w' => ∃ s', (ad = .next s' ∨ ad = .brk s') ∧ (fun (_ : Unit) => ∃ (aA : PHeap) , PHeap.le a9 aA ∧ St w0 aA (Res.box a 26 [i, j, l, b] :: H) w' ∧ Fx f' [(1, Vq a), (72, b), (73, O ((d.Ops.length : Int))), (74, O ((ar : Int))), (79, aF), (80, O ((aH.Effs.length : Int)))]) s') ?_ ?_
   ·refine G ?_
    refine QF (fun k' s' f' w' => (fun (_ : Unit) => ∃ (aB : PHeap) , PHeap.le a9 aB ∧ St w0 aB (Res.box a 26 [i, j, l, b] :: H) w' ∧ Fx f' [(81, O (k' : Int)), (1, Vq a), (72, b), (73, O ((d.Ops.length : Int))), (74, O ((ar : Int))), (79, aF), (80, O ((aH.Effs.length : Int)))]) s') aX ?_ ?_ ?_
    ·have dM := bx.drop
     exact fq
    ·intro ee fp cS dt fW eb bg o ci
     obtain ⟨eV, ex, ai, ⟨du, rfl⟩⟩ := bg
     obtain ⟨m, c2, o⟩ := V o
     refine G ?_
     refine Jk Z Z Z c2 ?_
     intro cJ eC aR
     refine G ?_
     refine Zw (E := encEffect) ai A34.h Z Z Z aR ?_
     intro f9 c3
     obtain ⟨f2, rfl, eJ⟩ := KG.1 c3
     refine G ?_
     refine Exec.alloc (cs := [Vn, O 0, O 0]) ai Z34 Z Z ?_
     intro cK fX dN
     refine G ?_
     refine KJ Z Z Z ?_
     intro fY bz
     refine G ?_
     refine Exec.build Z (Qc (c := [O (m.Var)]) (Qe Z Z) (Qc (c := [O (m.Val)]) (Qe Z Z) Qi)) (v := Value.agg #[O (m.Var), O (m.Val)]) (fun _ => by kernel_rfl) (G ?_)
     refine Exec.buildSlice (Te := 36) (cs := [O (m.Var), O (m.Val)]) bz Z (Qc (c := [O (m.Var), O (m.Val)]) (Qe Z Z) Qi) (fun _ => by kernel_rfl) ?_
     intro cL fZ b0
     have b1 := St.boxArr (E := encFact) (xs := [(⟨m.Var, m.Val⟩ : Fact)]) b0 ⟨[O (m.Var), O (m.Val)], [], rfl, ⟨[O (m.Var)], [O (m.Val)], rfl, rfl, rfl⟩, rfl⟩ (by simp [maxLen])
     obtain ⟨eW, ey, b2, c9⟩ := b1.freezeArr
     obtain ⟨gr, c4, o⟩ := V o
     refine G ?_
     refine Tc Z Z Z Z (Qad c4 b2 rq c9).r ?_
     rintro _ ga ⟨eX, ez, dO, rfl⟩
     refine G ?_
     rcases Qs o with ⟨bH, o⟩ | ⟨bH, o⟩
     ·refine G ?_
      refine Exec.makeInterface C52 Z Z ?_
      cases o
      have bS := bZ _ (ci (by intro _ h; cases h))
      cases bS
      have bT := bY _ (ch (by intro _ h; cases h))
      cases bT
      refine G ?_
      exact fr
     cases o
     refine G ?_
     exact ⟨_, Z, fq⟩
    intro fs dv gb bh cj
    obtain ⟨eY, e0, dP, ⟨dw, rfl⟩⟩ := bh
    refine G ?_
    exact ⟨_, .inl cj, fq⟩
   rintro dx gc ⟨ft, ao, bq⟩
   have u := ao.elim (bN _) (b9 _)
   clear ao
   obtain ⟨eZ, e1, dQ, ⟨dy, rfl⟩⟩ := bq
   cases u
   refine G ?_
   exact ⟨_, Z, fq⟩
  intro fu dz gd bi ck
  obtain ⟨fa, e2, dR, ⟨d0, rfl⟩⟩ := bi
  refine G ?_
  exact ⟨_, .inl ck, fq⟩
 rintro d1 gf ⟨fv, ap, br⟩
 have hm := ap.elim (bM _) (b8 _)
 clear ap
 obtain ⟨aC, e3, b3, ⟨d2, rfl⟩⟩ := br
 obtain ⟨ae, aY, ca, bO, bA⟩ := Qr hm
 refine g ?_
 refine Zc (Zc (Zd (g ?_)))
 refine Qp (M := fun f' w' => ∃ s', (ae = .next s' ∨ ae = .brk s') ∧ (fun (_ : Unit) => ∃ (aD : PHeap) , PHeap.le aC aD ∧ St w0 aD (H) w' ∧ Fx f' [(99, b), (100, O ((d.Ops.length : Int)))]) s') ?_ ?_
 ·refine G ?_
  refine QF (fun k' s' f' w' => (fun (_ : Unit) => ∃ (aE : PHeap) , PHeap.le aC aE ∧ St w0 aE (H) w' ∧ Fx f' [(101, O (k' : Int)), (99, b), (100, O ((d.Ops.length : Int)))]) s') aY ?_ ?_ ?_
  ·have dS := b3.drop
   exact fq
  ·intro ef fw cT d3 gg ec bj p cl
   obtain ⟨fb, e4, aj, ⟨d4, rfl⟩⟩ := bj
   obtain ⟨gn, c5, p⟩ := V p
   refine G ?_
   refine Jk Z Z Z c5 ?_
   intro cM eD aS
   refine G ?_
   refine Zw (E := encOp) aj A32.h Z Z Z aS ?_
   intro fA c6
   obtain ⟨f3, f4, rfl, eK, eL⟩ := KX.1 c6
   refine G ?_
   refine Exec.alloc (cs := [Value.string (⟨#[]⟩), O 0, Vn, Vn]) aj Z32 Z Z ?_
   intro cN gh dT
   refine G ?_
   refine KJ Z Z Z ?_
   intro gi b4
   obtain ⟨gs, c7, p⟩ := V p
   refine G ?_
   refine Tc Z Z Z Z (Qic c7 b4).r ?_
   rintro _ gj ⟨fc, e5, dU, rfl⟩
   refine G ?_
   rcases Qs p with ⟨bI, p⟩ | ⟨bI, p⟩
   ·refine G ?_
    refine Exec.makeInterface C52 Z Z ?_
    cases p
    have bU := ca _ (cl (by intro _ h; cases h))
    cases bU
    refine G ?_
    exact fr
   cases p
   refine G ?_
   exact ⟨_, Z, fq⟩
  intro fx d5 gk bk cm
  obtain ⟨fd, e6, dV, ⟨d6, rfl⟩⟩ := bk
  refine G ?_
  exact ⟨_, .inl cm, fq⟩
 rintro d7 gl ⟨fy, aq, bs⟩
 have hm := aq.elim (bO _) (bA _)
 clear aq
 obtain ⟨fe, e7, dW, ⟨d8, rfl⟩⟩ := bs
 cases hm
 refine G ?_
 exact fr
end Go.Pw
