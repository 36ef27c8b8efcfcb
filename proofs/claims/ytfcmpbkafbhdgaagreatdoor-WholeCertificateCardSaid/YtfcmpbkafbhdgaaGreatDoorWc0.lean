/- -/
import Derived.Test.YtfcmpbkafbhdgaaGreatDoorLD
import Derived.Test.YtfcmpbkafbhdgaaGreatDoorLC
import Derived.Test.YtfcmpbkafbhdgaaGreatDoorWcP
import Derived.Test.YtfcmpbkafbhdgaaGreatDoorLE
import Derived.Test.YtfcmpbkafbhdgaaGreatDoorLF
import Derived.Test.YtfcmpbkafbhdgaaGreatDoorLG
import Derived.Test.YtfcmpbkafbhdgaaGreatDoorProg
import Derived.KernelRfl
set_option maxRecDepth 100000
set_option maxHeartbeats 4000000
set_option linter.unusedVariables false
namespace Go.Pw
open Go.Proofs
attribute [local irreducible] Exec WL W andThen Y0 DL QB
theorem Qms : Qgu Tryz.prog 200 [0, 1, 86, 119, 123, 138, 149, 153, 169, 170, 171, 172, 173, 174, 175, 176, 177, 178, 179, 180, 181, 182, 183, 184, 185, 190, 191, 192, 193, 194, 195, 196, 197, 198] = true := by kernel_rfl
theorem Tc {ρ : Operand → Value} {o : Oper} {w : World} {K : Value → World → Prop} {Q : Value → World → Prop} {f : FuncId} {args : List Operand} {ts : Array TypeId} {vs : List Value} (ho : o.op = .call { callee := .value (.func f), args := args.toArray, argTypes := ts }) (hc : ρ (.func f) = .func (.func f) #[] #[]) (hlt : QlE 200 [0, 1, 86, 119, 123, 138, 149, 153, 169, 170, 171, 172, 173, 174, 175, 176, 177, 178, 179, 180, 181, 182, 183, 184, 185, 190, 191, 192, 193, 194, 195, 196, 197, 198] f = true) (hargs : List.map ρ args = vs) (h : Calls Tryz.prog f vs.toArray w fun e w' => ∃ v, e = .returned v ∧ Q v w') (hk : ∀ v w', Q v w' → K v w') : Exec Tryz.prog ρ o w K := Qi5 Qms ho hc hlt hargs h hk
instance A26 : ATy Tryz.prog 26 true 4 := ⟨by kernel_rfl⟩
instance F26_0 : FTy Tryz.prog 26 0 0 := ⟨by kernel_rfl⟩
instance A22 : ATy Tryz.prog 22 false 1 := ⟨by kernel_rfl⟩
instance S22 : STy Tryz.prog 22 3 1 8 := ⟨by kernel_rfl⟩
instance F26_3 : FTy Tryz.prog 26 3 3 := ⟨by kernel_rfl⟩
instance A24 : ATy Tryz.prog 24 false 1 := ⟨by kernel_rfl⟩
instance S24 : STy Tryz.prog 24 48 4 72 := ⟨by kernel_rfl⟩
instance A48 : ATy Tryz.prog 48 true 4 := ⟨by kernel_rfl⟩
theorem Z48 : Jl Tryz.prog 48 = some (Value.agg #[Value.string ⟨#[]⟩, U 0, Value.slice none 0 0, Value.slice none 0 0]) := by kernel_rfl
instance F48_3 : FTy Tryz.prog 48 3 3 := ⟨by kernel_rfl⟩
instance A46 : ATy Tryz.prog 46 false 1 := ⟨by kernel_rfl⟩
instance S46 : STy Tryz.prog 46 50 3 40 := ⟨by kernel_rfl⟩
instance A3 : ATy Tryz.prog 3 false 1 := ⟨by kernel_rfl⟩
instance F26_1 : FTy Tryz.prog 26 1 1 := ⟨by kernel_rfl⟩
theorem Yp : Tryz.prog.follows .mixedOrders = true := by kernel_rfl
theorem QfR {w0 w : World} {s : PHeap} {H : List Res} {ab : (List Int)} {d : (List Int)} {i : Value} {j : Value} {r : Bool} (hm : Yt ab d = some r) (hS : St w0 s (H) w) (af : SliceRep (Qc .i64) s i ab) (o : SliceRep (Qc .i64) s j d) :
  Calls Tryz.prog 67 #[i, j] w fun e w' => ∃ v, e = .returned v ∧ ((fun (a0 : Bool) => ∃ (aa : PHeap) , PHeap.le s aa ∧ St w0 aa (H) w' ∧ v = Value.bool (a0)) r) := by
 unfold Yt at hm
 refine Qb Tryz.func67 Z Z (G ?_)
 rcases Qk hm with ⟨t, hm⟩ | ⟨t, hm⟩
 ·cases hm
  refine G ?_
  exact fr
 obtain ⟨p, ag, aq, ao, al⟩ := Qo hm
 refine W_c Z t (Qa0 (QT (Ze (Zc (Zc (Zd (g ?_)))))))
 refine Qm (M := fun f' w' => ∃ s', (p = .next s' ∨ p = .brk s') ∧ (fun (_ : Unit) => ∃ (x : PHeap) , PHeap.le s x ∧ St w0 x (H) w' ∧ Fx f' [(0, i), (1, j), (12, U ((d.length : Int)))]) s') ?_ ?_
 ·refine G ?_
  refine Q2 (fun k' s' f' w' => (fun (_ : Unit) => ∃ (y : PHeap) , PHeap.le s y ∧ St w0 y (H) w' ∧ Fx f' [(13, U (k' : Int)), (0, i), (1, j), (12, U ((d.length : Int)))]) s') ag ?_ ?_ ?_
  ·exact V
  ·intro av aT a4 a8 aZ aJ ah b ar
   obtain ⟨m, l, c, ⟨a9, rfl⟩⟩ := ah
   obtain ⟨n, a, b⟩ := Zg b
   refine Zc (Zd (g ?_))
   refine Zc (KB (Zx (decide_eq_true (by omega))) (QT (Ze (Zc (Qbe (Zc (Zd (g ?_))))))))
   refine Zc (Qm (M := fun f' w' => (fun (n : Bool) => ∃ (z : PHeap) , PHeap.le m z ∧ St w0 z (H) w' ∧ Fx f' [(0, i), (1, j), (12, U ((d.length : Int))), (13, U ((av : Int))), (31, Vb n)]) n) ?_ ?_)
   ·refine KG (n0 := 16) (qs 0 16 .done) Yp (by kernel_rfl) (by kernel_rfl) ?_
    obtain ⟨bd, u, a⟩ := Zg a
    refine G ?_
    refine Q6 S22.h Z Z Z (o.mono l) u ?_
    intro a1 aN ac a5
    refine ⟨Z, ?_⟩
    refine G ?_
    refine Zw (E := (Qc .i64)) c.drew A3.h Z Z Z ac ?_
    intro aW aw
    obtain rfl := Qt.1 aw
    refine ⟨Z, ?_⟩
    refine G ?_
    rcases Qk a with ⟨am, a⟩ | ⟨am, a⟩
    ·cases a
     refine G ?_
     exact ⟨m, (Zv _), c.drew, (Fx.mk)⟩
    refine G ?_
    refine Q6 S22.h Z Z Z (o.mono l) u ?_
    intro a2 aO ad a6
    refine ⟨Z, ?_⟩
    refine G ?_
    refine Zw (E := (Qc .i64)) c.drew A3.h Z Z Z ad ?_
    intro aX ax
    obtain rfl := Qt.1 ax
    refine ⟨Z, ?_⟩
    obtain ⟨be, ay, a⟩ := Zg a
    refine G ?_
    refine Q6 S22.h Z Z Z (af.mono l) ay ?_
    intro a3 aP ae a7
    refine ⟨Z, ?_⟩
    refine G ?_
    refine Zw (E := (Qc .i64)) c.drew A3.h Z Z Z ae ?_
    intro aY az
    obtain rfl := Qt.1 az
    refine ⟨Z, ?_⟩
    cases a
    refine G ?_
    exact ⟨m, (Zv _), c.drew, (Fx.mk)⟩
   intro aA ba aj
   obtain ⟨aQ, aK, aG, ⟨aB, rfl⟩⟩ := aj
   refine G ?_
   rcases Qk b with ⟨an, b⟩ | ⟨an, b⟩
   ·cases b
    have ap := aq _ (ar (by intro _ h; cases h))
    cases ap
    refine G ?_
    exact fr
   cases b
   refine G ?_
   exact ⟨_, Z, V⟩
  intro aU aC bb ai au
  obtain ⟨aR, aL, aH, ⟨aD, rfl⟩⟩ := ai
  refine G ?_
  exact ⟨_, .inl au, V⟩
 rintro aE bc ⟨aV, q, ak⟩
 have hm := q.elim (ao _) (al _)
 clear q
 obtain ⟨aS, aM, aI, ⟨aF, rfl⟩⟩ := ak
 cases hm
 refine G ?_
 exact fr
instance F26_2 : FTy Tryz.prog 26 2 2 := ⟨by kernel_rfl⟩
instance A23 : ATy Tryz.prog 23 false 1 := ⟨by kernel_rfl⟩
instance S23 : STy Tryz.prog 23 52 2 16 := ⟨by kernel_rfl⟩
instance A52 : ATy Tryz.prog 52 true 2 := ⟨by kernel_rfl⟩
theorem Z52 : Jl Tryz.prog 52 = some (Value.agg #[U 0, U 0]) := by kernel_rfl
instance F52_0 : FTy Tryz.prog 52 0 0 := ⟨by kernel_rfl⟩
instance F52_1 : FTy Tryz.prog 52 1 1 := ⟨by kernel_rfl⟩
theorem YB {w0 w : World} {s : PHeap} {H : List Res} {y : (List Int)} {d : (List Fact)} {i : Value} {c : Value} {r : Bool} (hm : JX y d = some r) (hS : St w0 s (H) w) (z : SliceRep (Qc .i64) s i y) (aa : SliceRep encFact s c d) :
  Calls Tryz.prog 68 #[i, c] w fun e w' => ∃ v, e = .returned v ∧ ((fun (a6 : Bool) => ∃ (q : PHeap) , PHeap.le s q ∧ St w0 q (H) w' ∧ v = Value.bool (a6)) r) := by
 unfold JX at hm
 refine Qb Tryz.func68 Z Z ?_
 obtain ⟨l, ae, av, ar, ak⟩ := Qo hm
 refine Zc (Zd (g ?_))
 refine Zc (Zc (Zd (g ?_)))
 refine Qm (M := fun f' w' => ∃ s', (l = .next s' ∨ l = .brk s') ∧ (fun (_ : Unit) => ∃ (t : PHeap) , PHeap.le s t ∧ St w0 t (H) w' ∧ Fx f' [(0, i), (1, c), (7, c), (8, U ((d.length : Int)))]) s') ?_ ?_
 ·refine G ?_
  refine Q2 (fun k' s' f' w' => (fun (_ : Unit) => ∃ (u : PHeap) , PHeap.le s u ∧ St w0 u (H) w' ∧ Fx f' [(9, U (k' : Int)), (0, i), (1, c), (7, c), (8, U ((d.length : Int)))]) s') ae ?_ ?_ ?_
  ·exact V
  ·intro ay ba aB aE bg aQ af b aw
   obtain ⟨a5, p, m, ⟨aF, rfl⟩⟩ := af
   obtain ⟨bm, az, b⟩ := Zg b
   refine G ?_
   refine Jk Z Z Z az ?_
   intro a7 aU ab
   refine G ?_
   refine Zw (E := encFact) m A52.h Z Z Z ab ?_
   intro bd a0
   obtain rfl := Q9.1 a0
   refine G ?_
   refine Exec.alloc (cs := [U 0, U 0]) m Z52 Z Z ?_
   intro a8 bh aM
   refine G ?_
   refine Yo Z Z Z ?_
   intro bi aj
   obtain ⟨j, a, b⟩ := Zg b
   refine g ?_
   refine Zc (Qm (M := fun f' w' => (fun (j : Bool) => ∃ (x : PHeap) , PHeap.le a5 x ∧ St w0 x (H) w' ∧ Fx f' [(0, i), (1, c), (7, c), (8, U ((d.length : Int))), (9, U ((ay : Int))), (53, Vb j)]) j) ?_ ?_)
   ·refine KG (n0 := 40) (qs 0 40 .done) Yp (by kernel_rfl) (by kernel_rfl) ?_
    have n := aj.drew
    refine G ?_
    rcases Qk a with ⟨al, a⟩ | ⟨al, a⟩
    ·cases a
     refine G ?_
     exact V
    refine G ?_
    rcases Qk a with ⟨am, a⟩ | ⟨am, a⟩
    ·cases a
     refine G ?_
     exact V
    refine G ?_
    rcases Qk a with ⟨an, a⟩ | ⟨an, a⟩
    ·cases a
     refine G ?_
     exact V
    obtain ⟨bn, a1, a⟩ := Zg a
    refine G ?_
    refine Q6 S22.h Z Z Z (z.mono p) a1 ?_
    intro a9 aV ac aC
    refine ⟨Z, ?_⟩
    refine G ?_
    refine Zw (E := (Qc .i64)) n A3.h Z Z Z ac ?_
    intro be a2
    obtain rfl := Qt.1 a2
    refine ⟨Z, ?_⟩
    refine G ?_
    rcases Qk a with ⟨ao, a⟩ | ⟨ao, a⟩
    ·cases a
     refine G ?_
     exact V
    refine G ?_
    rcases Qk a with ⟨ap, a⟩ | ⟨ap, a⟩
    ·obtain ⟨bo, a3, a⟩ := Zg a
     refine G ?_
     refine Q6 S23.h Z Z Z (aa.mono p) a3 ?_
     intro aA aW ad aD
     refine ⟨Z, ?_⟩
     refine G ?_
     refine Zw (E := (Qc .i64)) n A3.h Z Z Z (ad.sub (Sub.iso (Sub.fst (Sub.refl _))) Z) ?_
     intro bf a4
     obtain rfl := Qt.1 a4
     refine ⟨Z, ?_⟩
     cases a
     refine G ?_
     exact V
    cases a
    refine G ?_
    exact V
   intro aG bj ah
   obtain ⟨aX, aR, aN, ⟨aH, rfl⟩⟩ := ah
   refine G ?_
   rcases Qk b with ⟨aq, b⟩ | ⟨aq, b⟩
   ·cases b
    have au := av _ (aw (by intro _ h; cases h))
    cases au
    refine G ?_
    exact fr
   cases b
   refine G ?_
   exact ⟨_, Z, V⟩
  intro bb aI bk ag ax
  obtain ⟨aY, aS, aO, ⟨aJ, rfl⟩⟩ := ag
  refine G ?_
  exact ⟨_, .inl ax, V⟩
 rintro aK bl ⟨bc, o, ai⟩
 have hm := o.elim (ar _) (ak _)
 clear o
 obtain ⟨aZ, aT, aP, ⟨aL, rfl⟩⟩ := ai
 cases hm
 refine G ?_
 exact fr
instance F48_1 : FTy Tryz.prog 48 1 1 := ⟨by kernel_rfl⟩
instance F48_0 : FTy Tryz.prog 48 0 0 := ⟨by kernel_rfl⟩
instance A9 : ATy Tryz.prog 9 false 1 := ⟨by kernel_rfl⟩
instance F48_2 : FTy Tryz.prog 48 2 2 := ⟨by kernel_rfl⟩
instance A50 : ATy Tryz.prog 50 true 3 := ⟨by kernel_rfl⟩
theorem Z50 : Jl Tryz.prog 50 = some (Value.agg #[Value.slice none 0 0, U 0, U 0]) := by kernel_rfl
instance F50_0 : FTy Tryz.prog 50 0 0 := ⟨by kernel_rfl⟩
instance F50_1 : FTy Tryz.prog 50 1 1 := ⟨by kernel_rfl⟩
instance F50_2 : FTy Tryz.prog 50 2 2 := ⟨by kernel_rfl⟩
theorem QdU {w0 w : World} {s : PHeap} {H : List Res} {ao : (List Int)} {b : Op} {l : Value} {q : Value} {m : Value} {r : Bool} (hm : KV ao b = some r) (hS : St w0 s (H) w) (ap : SliceRep (Qc .i64) s l ao) (aq : SliceRep encFact s q b.Pre) (bn : SliceRep encEffect s m b.Effs) :
  Calls Tryz.prog 69 #[l, Value.agg #[Value.string (b.Name), U (b.Cost), q, m]] w fun e w' => ∃ v, e = .returned v ∧ ((fun (bm : Bool) => ∃ (ae : PHeap) , PHeap.le s ae ∧ St w0 ae (H) w' ∧ v = Value.bool (bm)) r) := by
 unfold KV at hm
 refine Qb Tryz.func69 Z Z (G ?_)
 refine Yz Z Z ?_
 intro n ct a5
 obtain ⟨t, a, hm⟩ := Zg hm
 refine g ?_
 refine Zc (Zc (Qm (M := fun f' w' => (fun (t : Bool) => ∃ (af : PHeap) , PHeap.le s af ∧ St w0 af (Res.box n 48 [Value.string (b.Name), U (b.Cost), q, m] :: H) w' ∧ Fx f' [(0, l), (3, Vq n), (34, Vb t)]) t) ?_ ?_))
 ·refine G ?_
  rcases Qk a with ⟨aF, a⟩ | ⟨aF, a⟩
  ·cases a
   refine G ?_
   exact V
  refine G ?_
  rcases Qk a with ⟨aG, a⟩ | ⟨aG, a⟩
  ·cases a
   refine G ?_
   exact V
  refine G ?_
  rcases Qk a with ⟨aH, a⟩ | ⟨aH, a⟩
  ·cases a
   refine G ?_
   exact V
  refine G ?_
  refine QC Tryz.underlying9 Z Z (G ?_)
  rcases Qk a with ⟨aI, a⟩ | ⟨aI, a⟩
  ·cases a
   refine G ?_
   exact V
  obtain ⟨cA, bb, a⟩ := Zg a
  refine G ?_
  refine Tc Z Z Z Z (YB bb a5 ap aq).r ?_
  rintro _ cu ⟨cb, bN, bC, rfl⟩
  cases a
  refine G ?_
  exact V
 intro bt cv a0
 obtain ⟨ag, bO, bD, ⟨bu, rfl⟩⟩ := a0
 refine G ?_
 rcases Qk hm with ⟨aJ, hm⟩ | ⟨aJ, hm⟩
 ·cases hm
  refine G ?_
  exact fr
 refine G ?_
 refine QC Tryz.underlying9 Z Z ?_
 obtain ⟨cp, bc, hm⟩ := Zg hm
 obtain ⟨y, au, aT, aP, aD⟩ := Qo hm
 refine g ?_
 refine Qm (M := fun f' w' => ∃ s', (y = .next s' ∨ y = .brk s') ∧ (fun (_ : Unit) => ∃ (ah : PHeap) , PHeap.le ag ah ∧ St w0 ah (Res.box n 48 [Value.string (b.Name), U (b.Cost), q, m] :: H) w' ∧ Fx f' [(0, l), (3, Vq n), (37, U ((b.Name.size : Int)))]) s') ?_ ?_
 ·refine G ?_
  refine Q2 (fun k' s' f' w' => (fun (_ : Unit) => ∃ (ai : PHeap) , PHeap.le ag ai ∧ St w0 ai (Res.box n 48 [Value.string (b.Name), U (b.Cost), q, m] :: H) w' ∧ Fx f' [(38, U (k' : Int)), (0, l), (3, Vq n), (37, U ((b.Name.size : Int)))]) s') au ?_ ?_ ?_
  ·exact V
  ·intro aZ cj br bv cw aO aw o aV
   obtain ⟨bj, bP, bE, ⟨bw, rfl⟩⟩ := aw
   obtain ⟨u, p, o⟩ := Zg o
   refine Zc (Zd (g ?_))
   refine Zc (KB (Zx (decide_eq_true (by omega))) (QT (Ze (Zc (Qbe (Zc (Zd (g ?_))))))))
   refine Zc (Qm (M := fun f' w' => (fun (u : Bool) => ∃ (aj : PHeap) , PHeap.le bj aj ∧ St w0 aj (Res.box n 48 [Value.string (b.Name), U (b.Cost), q, m] :: H) w' ∧ Fx f' [(0, l), (3, Vq n), (37, U ((b.Name.size : Int))), (38, U ((aZ : Int))), (52, Vb u)]) u) ?_ ?_)
   ·obtain ⟨c9, ad, p⟩ := Zg p
    refine G ?_
    refine J9 Tryz.underlying9 Z Z Z ad (G ?_)
    rcases Qk p with ⟨aK, p⟩ | ⟨aK, p⟩
    ·cases p
     refine G ?_
     exact V
    refine G ?_
    refine J9 Tryz.underlying9 Z Z Z ad ?_
    cases p
    refine G ?_
    exact V
   intro bx cx a1
   obtain ⟨bk, bQ, a6, ⟨bz, rfl⟩⟩ := a1
   refine G ?_
   rcases Qk o with ⟨aL, o⟩ | ⟨aL, o⟩
   ·cases o
    have aR := aT _ (aV (by intro _ h; cases h))
    cases aR
    refine G ?_
    exact fr
   cases o
   refine G ?_
   refine ⟨_, Z, ?_⟩; exact ⟨bk, lq, a6, (Fx.mk (FxL.cons (Ja aO (by have h := YI bc; simp at h; simp only [maxLen]; omega)) fxl))⟩
  intro ck b0 cy ax aW
  obtain ⟨cc, bR, bF, ⟨b1, rfl⟩⟩ := ax
  refine G ?_
  exact ⟨_, .inl aW, V⟩
 rintro b2 cz ⟨cl, ab, a2⟩
 have hm := ab.elim (aP _) (aD _)
 clear ab
 obtain ⟨ak, bS, a7, ⟨b3, rfl⟩⟩ := a2
 obtain ⟨z, av, aU, aQ, aE⟩ := Qo hm
 refine g ?_
 refine Zc (Zc (Zd (g ?_)))
 refine Qm (M := fun f' w' => ∃ s', (z = .next s' ∨ z = .brk s') ∧ (fun (_ : Unit) => ∃ (al : PHeap) , PHeap.le ak al ∧ St w0 al (H) w' ∧ Fx f' [(0, l), (55, m), (56, U ((b.Effs.length : Int)))]) s') ?_ ?_
 ·refine G ?_
  refine Q2 (fun k' s' f' w' => (fun (_ : Unit) => ∃ (am : PHeap) , PHeap.le ak am ∧ St w0 am (H) w' ∧ Fx f' [(57, U (k' : Int)), (0, l), (55, m), (56, U ((b.Effs.length : Int)))]) s') av ?_ ?_ ?_
  ·have bG := a7.drop
   exact V
  ·intro ba cm bs b4 c0 bM ay i aX
   obtain ⟨bl, bT, aa, ⟨b5, rfl⟩⟩ := ay
   obtain ⟨d, bd, i⟩ := Zg i
   refine G ?_
   refine Jk Z Z Z bd ?_
   intro bo ca ar
   refine G ?_
   refine Zw (E := encEffect) aa A50.h Z Z Z ar ?_
   intro cr be
   obtain ⟨cq, rfl, bh⟩ := JW.1 be
   refine G ?_
   refine Exec.alloc (cs := [Vn, U 0, U 0]) aa Z50 Z Z ?_
   intro bp c1 bH
   refine G ?_
   refine Yo Z Z Z ?_
   intro c2 a8
   obtain ⟨x, j, i⟩ := Zg i
   refine g ?_
   refine Zc (Qm (M := fun f' w' => (fun (x : Bool) => ∃ (an : PHeap) , PHeap.le bl an ∧ St w0 an (H) w' ∧ Fx f' [(0, l), (55, m), (56, U ((b.Effs.length : Int))), (57, U ((ba : Int))), (76, Vb x)]) x) ?_ ?_)
   ·obtain ⟨cB, bf, j⟩ := Zg j
    refine G ?_
    refine Tc Z Z Z Z (YB bf a8 rq bh).r ?_
    rintro _ c3 ⟨cd, bU, a9, rfl⟩
    refine G ?_
    rcases Qk j with ⟨aM, j⟩ | ⟨aM, j⟩
    ·cases j
     refine G ?_
     exact V
    refine G ?_
    refine Exec.build Z (Qd (c := [U (d.Var)]) (Qi Z Z) (Qd (c := [U (d.Val)]) (Qi Z Z) Qg)) (v := Value.agg #[U (d.Var), U (d.Val)]) (fun _ => by kernel_rfl) (G ?_)
    refine Exec.buildSlice (Te := 52) (cs := [U (d.Var), U (d.Val)]) a9 Z (Qd (c := [U (d.Var), U (d.Val)]) (Qi Z Z) Qg) (fun _ => by kernel_rfl) ?_
    intro bq c4 aA
    have aB := St.boxArr (E := encFact) (xs := [(⟨d.Var, d.Val⟩ : Fact)]) aA ⟨[U (d.Var), U (d.Val)], [], rfl, ⟨[U (d.Var)], [U (d.Val)], rfl, rfl, rfl⟩, rfl⟩ (by simp [maxLen])
    obtain ⟨ce, bV, aC, bi⟩ := aB.freezeArr
    obtain ⟨cC, bg, j⟩ := Zg j
    refine G ?_
    refine Tc Z Z Z Z (YB bg aC rq bi).r ?_
    rintro _ c5 ⟨cf, bW, bI, rfl⟩
    cases j
    refine G ?_
    exact V
   intro b6 c6 a3
   obtain ⟨cg, bX, bJ, ⟨b7, rfl⟩⟩ := a3
   refine G ?_
   rcases Qk i with ⟨aN, i⟩ | ⟨aN, i⟩
   ·cases i
    have aS := aU _ (aX (by intro _ h; cases h))
    cases aS
    refine G ?_
    exact fr
   cases i
   refine G ?_
   exact ⟨_, Z, V⟩
  intro cn b8 c7 az aY
  obtain ⟨ch, bY, bK, ⟨b9, rfl⟩⟩ := az
  refine G ?_
  exact ⟨_, .inl aY, V⟩
 rintro bA c8 ⟨co, ac, a4⟩
 have hm := ac.elim (aQ _) (aE _)
 clear ac
 obtain ⟨ci, bZ, bL, ⟨bB, rfl⟩⟩ := a4
 cases hm
 refine G ?_
 exact fr
theorem Qgi {w0 w : World} {s : PHeap} {H : List Res} {b : Task} {c : Value} {l : Value} {m : Value} {d : Value} {r : Bool} (hm : Qax b = some r) (hS : St w0 s (H) w) (aY : SliceRep (Qc .i64) s c b.Vars) (aZ : SliceRep (Qc .i64) s l b.Init) (ba : SliceRep encFact s m b.Goal) (bb : SliceRep encOp s d b.Ops) :
  Calls Tryz.prog 39 #[Value.agg #[c, l, m, d]] w fun e w' => ∃ v, e = .returned v ∧ ((fun (aX : Bool) => ∃ (ab : PHeap) , PHeap.le s ab ∧ St w0 ab (H) w' ∧ v = Value.bool (aX)) r) := by
 unfold Qax at hm
 refine Qb Tryz.func39 Z Z (G ?_)
 refine Yz Z Z ?_
 intro a cj b0
 refine g ?_
 refine Zc (Zc (Qm (M := fun f' w' => ∃ (ac : PHeap) , PHeap.le s ac ∧ St w0 ac (Res.box a 26 [c, l, m, d] :: H) w' ∧ Fx f' [(1, Vq a), (16, Vb (((decide (64 < (b.Vars.length : Int))) || decide (4096 < (b.Ops.length : Int)))))]) ?_ ?_))
 ·refine G ?_
  rcases tf (decide (64 < (b.Vars.length : Int))) with a6 | a6
  ·refine G ?_
   exact V
  refine G ?_
  exact V
 intro bh ck av
 obtain ⟨ad, bD, b1, ⟨bi, rfl⟩⟩ := av
 refine G ?_
 rcases Qk hm with ⟨x, hm⟩ | ⟨x, hm⟩
 ·cases hm
  refine G ?_
  exact fr
 obtain ⟨q, an, aF, aB, a4⟩ := Qo hm
 refine W_c Z x (Qa0 (QT (Ze (Zc (Zc (Zd (g ?_)))))))
 refine Qm (M := fun f' w' => ∃ s', (q = .next s' ∨ q = .brk s') ∧ (fun (_ : Unit) => ∃ (ae : PHeap) , PHeap.le ad ae ∧ St w0 ae (Res.box a 26 [c, l, m, d] :: H) w' ∧ Fx f' [(1, Vq a), (18, c), (19, U ((b.Vars.length : Int)))]) s') ?_ ?_
 ·refine G ?_
  refine Q2 (fun k' s' f' w' => (fun (_ : Unit) => ∃ (af : PHeap) , PHeap.le ad af ∧ St w0 af (Res.box a 26 [c, l, m, d] :: H) w' ∧ Fx f' [(20, U (k' : Int)), (1, Vq a), (18, c), (19, U ((b.Vars.length : Int)))]) s') an ?_ ?_ ?_
  ·exact V
  ·intro aL bZ bf bj cl bA ap n aH
   obtain ⟨aV, bE, a0, ⟨bk, rfl⟩⟩ := ap
   obtain ⟨o, aM, n⟩ := Zg n
   refine G ?_
   refine Jk Z Z Z aM ?_
   intro bc bP al
   refine G ?_
   refine Zw (E := (Qc .i64)) a0 A3.h Z Z Z al ?_
   intro ch aN
   obtain rfl := Qt.1 aN
   refine g ?_
   refine Zc (Qm (M := fun f' w' => ∃ (ag : PHeap) , PHeap.le aV ag ∧ St w0 ag (Res.box a 26 [c, l, m, d] :: H) w' ∧ Fx f' [(1, Vq a), (18, c), (19, U ((b.Vars.length : Int))), (20, U ((aL : Int))), (29, Vb (((decide (o < 1)) || decide (64 < o))))]) ?_ ?_)
   ·refine G ?_
    rcases tf (decide (o < 1)) with a7 | a7
    ·refine G ?_
     exact V
    refine G ?_
    exact V
   intro bl cm aw
   obtain ⟨bR, bF, b2, ⟨bm, rfl⟩⟩ := aw
   refine G ?_
   rcases Qk n with ⟨a8, n⟩ | ⟨a8, n⟩
   ·cases n
    have aD := aF _ (aH (by intro _ h; cases h))
    cases aD
    refine G ?_
    exact fr
   cases n
   refine G ?_
   exact ⟨_, Z, V⟩
  intro ca bn cn aq aI
  obtain ⟨bS, bG, b3, ⟨bo, rfl⟩⟩ := aq
  refine G ?_
  exact ⟨_, .inl aI, V⟩
 rintro bp co ⟨cb, y, ax⟩
 have hm := y.elim (aB _) (a4 _)
 clear y
 obtain ⟨aW, bH, a1, ⟨bq, rfl⟩⟩ := ax
 obtain ⟨p, j, hm⟩ := Zg hm
 refine g ?_
 refine Zc (Zc (Qm (M := fun f' w' => (fun (p : Bool) => ∃ (ah : PHeap) , PHeap.le aW ah ∧ St w0 ah (Res.box a 26 [c, l, m, d] :: H) w' ∧ Fx f' [(1, Vq a), (44, Vb p)]) p) ?_ ?_))
 ·obtain ⟨c0, aO, j⟩ := Zg j
  refine G ?_
  refine Tc Z Z Z Z (QfR aO a1 rq rq).r ?_
  rintro _ cp ⟨bT, bI, a2, rfl⟩
  refine G ?_
  rcases Qk j with ⟨a9, j⟩ | ⟨a9, j⟩
  ·cases j
   refine G ?_
   exact V
  obtain ⟨c1, aP, j⟩ := Zg j
  refine G ?_
  refine Tc Z Z Z Z (YB aP a2 rq rq).r ?_
  rintro _ cq ⟨bU, bJ, b4, rfl⟩
  cases j
  refine G ?_
  exact V
 intro br cr ay
 obtain ⟨ai, bK, b5, ⟨bs, rfl⟩⟩ := ay
 refine G ?_
 rcases Qk hm with ⟨z, hm⟩ | ⟨z, hm⟩
 ·cases hm
  refine G ?_
  exact fr
 obtain ⟨t, ao, aG, aC, a5⟩ := Qo hm
 refine W_c Z z (Qa0 (QT (Ze (Zc (Zc (Zd (g ?_)))))))
 refine Qm (M := fun f' w' => ∃ s', (t = .next s' ∨ t = .brk s') ∧ (fun (_ : Unit) => ∃ (aj : PHeap) , PHeap.le ai aj ∧ St w0 aj (Res.box a 26 [c, l, m, d] :: H) w' ∧ Fx f' [(1, Vq a), (46, d), (47, U ((b.Ops.length : Int)))]) s') ?_ ?_
 ·refine G ?_
  refine Q2 (fun k' s' f' w' => (fun (_ : Unit) => ∃ (ak : PHeap) , PHeap.le ai ak ∧ St w0 ak (Res.box a 26 [c, l, m, d] :: H) w' ∧ Fx f' [(48, U (k' : Int)), (1, Vq a), (46, d), (47, U ((b.Ops.length : Int)))]) s') ao ?_ ?_ ?_
  ·exact V
  ·intro bC cc bg bt ct bB ar i aJ
   obtain ⟨bV, bL, u, ⟨bu, rfl⟩⟩ := ar
   obtain ⟨cz, aQ, i⟩ := Zg i
   refine G ?_
   refine Jk Z Z Z aQ ?_
   intro bd bQ am
   refine G ?_
   refine Zw (E := encOp) u A48.h Z Z Z am ?_
   intro ci aR
   obtain ⟨cf, cg, rfl, aT, aU⟩ := KY.1 aR
   refine G ?_
   refine Exec.alloc (cs := [Value.string (⟨#[]⟩), U 0, Vn, Vn]) u Z48 Z Z ?_
   intro be cu b6
   refine G ?_
   refine Yo Z Z Z ?_
   intro cv a3
   obtain ⟨c2, aS, i⟩ := Zg i
   refine G ?_
   refine Tc Z Z Z Z (QdU aS a3 rq aT aU).r ?_
   rintro _ cw ⟨bW, bM, b7, rfl⟩
   refine G ?_
   rcases Qk i with ⟨aA, i⟩ | ⟨aA, i⟩
   ·cases i
    have aE := aG _ (aJ (by intro _ h; cases h))
    cases aE
    refine G ?_
    exact fr
   cases i
   refine G ?_
   exact ⟨_, Z, V⟩
  intro cd bv cx au aK
  obtain ⟨bX, bN, b8, ⟨bw, rfl⟩⟩ := au
  refine G ?_
  exact ⟨_, .inl aK, V⟩
 rintro bx cy ⟨ce, aa, az⟩
 have hm := aa.elim (aC _) (a5 _)
 clear aa
 obtain ⟨bY, bO, b9, ⟨bz, rfl⟩⟩ := az
 cases hm
 refine G ?_
 exact fr
theorem QcV {w0 w : World} {s : PHeap} {H : List Res} {d : (List Int)} {b : Int} {c : Value} {r : Int} (hm : KI d b = some r) (hS : St w0 s (H) w) (ak : SliceRep (Qc .i64) s c d) :
  Calls Tryz.prog 5 #[c, U b] w fun e w' => ∃ v, e = .returned v ∧ ((fun (aj : Int) => ∃ (n : PHeap) , PHeap.le s n ∧ St w0 n (H) w' ∧ v = U aj) r) := by
 unfold KI at hm
 refine Qb Tryz.func5 Z Z ?_
 obtain ⟨j, t, ae, ac, aa⟩ := Qo hm
 refine Zc (Zd (g ?_))
 refine Zc (Zd (g ?_))
 refine Zc (Zc (Zd (g ?_)))
 refine Qm (M := fun f' w' => ∃ s', (j = .next s' ∨ j = .brk s') ∧ (fun (m : Int) => ∃ (o : PHeap) , PHeap.le s o ∧ St w0 o (H) w' ∧ Fx f' [(1, U b), (5, U m), (8, c), (9, U ((d.length : Int)))]) s') ?_ ?_
 ·refine G ?_
  refine Q2 (fun k' s' f' w' => (fun (i : Int) => ∃ (p : PHeap) , PHeap.le s p ∧ St w0 p (H) w' ∧ Fx f' [(10, U (k' : Int)), (1, U b), (5, U i), (8, c), (9, U ((d.length : Int)))]) s') t ?_ ?_ ?_
  ·exact V
  ·intro ay i am an a7 ax u a af
   obtain ⟨a3, az, z, ⟨ao, rfl⟩⟩ := u
   obtain ⟨aA, ah, a⟩ := Zg a
   refine G ?_
   refine Jk Z Z Z ah ?_
   intro al a2 q
   refine G ?_
   refine Zw (E := (Qc .i64)) z A3.h Z Z Z q ?_
   intro a6 ai
   obtain rfl := Qt.1 ai
   refine G ?_
   refine Qeo Z Z Z (G ?_)
   refine QcD Z Z Z (G ?_)
   rcases Qk a with ⟨ab, a⟩ | ⟨ab, a⟩
   ·cases a
    have ad := ae _ (af (by intro _ h; cases h))
    cases ad
    refine G ?_
    exact fr
   cases a
   refine G ?_
   exact ⟨_, Z, V⟩
  intro i ap a8 x ag
  obtain ⟨a4, a0, av, ⟨aq, rfl⟩⟩ := x
  refine G ?_
  exact ⟨_, .inl ag, V⟩
 rintro ar a9 ⟨m, l, y⟩
 have hm := l.elim (ac _) (aa _)
 clear l
 obtain ⟨a5, a1, aw, ⟨au, rfl⟩⟩ := y
 cases hm
 refine G ?_
 exact fr
theorem QfS {w0 w : World} {s : PHeap} {H : List Res} {t35 : Task} {v36 : Value} {v38 : Value} {v40 : Value} {v42 : Value} {r : Bool} (hm : YW t35 = some r) (hS : St w0 s (H) w) (a37 : SliceRep (Qc .i64) s v36 t35.Vars) (a39 : SliceRep (Qc .i64) s v38 t35.Init) (a41 : SliceRep encFact s v40 t35.Goal) (a43 : SliceRep encOp s v42 t35.Ops) :
  Calls Tryz.prog 14 #[Value.agg #[v36, v38, v40, v42]] w fun e w' => ∃ v, e = .returned v ∧ ((fun (y45 : Bool) => ∃ (n : PHeap) , PHeap.le s n ∧ St w0 n (H) w' ∧ v = Value.bool (y45)) r) := by
 unfold YW at hm
 refine Qb Tryz.func14 Z Z (G ?_)
 refine Yz Z Z ?_
 intro c bd a9
 refine g ?_
 refine Zc (Zc (Qm (M := fun f' w' => ∃ (o : PHeap) , PHeap.le s o ∧ St w0 o (Res.box c 26 [v36, v38, v40, v42] :: H) w' ∧ Fx f' [(1, Vq c), (14, Vb (((decide (12 < (t35.Vars.length : Int))) || decide (20 < (t35.Ops.length : Int)))))]) ?_ ?_))
 ·refine G ?_
  rcases tf (decide (12 < (t35.Vars.length : Int))) with ah | ah
  ·refine G ?_
   exact V
  refine G ?_
  exact V
 intro az be ab
 obtain ⟨p, aI, aA, ⟨a0, rfl⟩⟩ := ab
 refine G ?_
 rcases Qk hm with ⟨l, hm⟩ | ⟨l, hm⟩
 ·cases hm
  refine G ?_
  exact fr
 obtain ⟨i, y, am, ak, ag⟩ := Qo hm
 refine W_c Z l (Qa0 (QT (Ze (Zc (Zc (Zd (g ?_)))))))
 refine Qm (M := fun f' w' => ∃ s', (i = .next s' ∨ i = .brk s') ∧ (fun (_ : Unit) => ∃ (q : PHeap) , PHeap.le p q ∧ St w0 q (Res.box c 26 [v36, v38, v40, v42] :: H) w' ∧ Fx f' [(1, Vq c), (16, v42), (17, U ((t35.Ops.length : Int)))]) s') ?_ ?_
 ·refine G ?_
  refine Q2 (fun k' s' f' w' => (fun (_ : Unit) => ∃ (t : PHeap) , PHeap.le p t ∧ St w0 t (Res.box c 26 [v36, v38, v40, v42] :: H) w' ∧ Fx f' [(18, U (k' : Int)), (1, Vq c), (16, v42), (17, U ((t35.Ops.length : Int)))]) s') y ?_ ?_ ?_
  ·exact V
  ·intro aH aX ay a1 bf aG z b an
   obtain ⟨aS, aJ, j, ⟨a2, rfl⟩⟩ := z
   obtain ⟨bn, ap, b⟩ := Zg b
   refine G ?_
   refine Jk Z Z Z ap ?_
   intro aw aP x
   refine G ?_
   refine Zw (E := encOp) j A48.h Z Z Z x ?_
   intro bc aq
   obtain ⟨ba, bb, rfl, aQ, aR⟩ := KY.1 aq
   refine G ?_
   refine Exec.alloc (cs := [Value.string (⟨#[]⟩), U 0, Vn, Vn]) j Z48 Z Z ?_
   intro ax bg aB
   refine G ?_
   refine Yo Z Z Z ?_
   intro bh aC
   refine G ?_
   rcases Qk b with ⟨ai, b⟩ | ⟨ai, b⟩
   ·cases b
    have al := am _ (an (by intro _ h; cases h))
    cases al
    refine G ?_
    exact fr
   cases b
   refine G ?_
   exact ⟨_, Z, V⟩
  intro aY a3 bi aa ao
  obtain ⟨aT, aK, aD, ⟨a4, rfl⟩⟩ := aa
  refine G ?_
  exact ⟨_, .inl ao, V⟩
 rintro a5 bj ⟨aZ, m, ac⟩
 have hm := m.elim (ak _) (ag _)
 clear m
 obtain ⟨av, aL, ae, ⟨a6, rfl⟩⟩ := ac
 obtain ⟨d, a, hm⟩ := Zg hm
 refine g ?_
 refine Zc (Qm (M := fun f' w' => (fun (d : Bool) => ∃ (u : PHeap) , PHeap.le av u ∧ St w0 u (H) w' ∧ Fx f' [(2, Vb d)]) d) ?_ ?_)
 ·obtain ⟨bo, ar, a⟩ := Zg a
  refine G ?_
  refine Tc Z Z Z Z (Qgi ar ae rq rq rq rq).r ?_
  rintro _ bk ⟨aU, aM, af, rfl⟩
  refine G ?_
  rcases Qk a with ⟨aj, a⟩ | ⟨aj, a⟩
  ·obtain ⟨bp, au, a⟩ := Zg a
   refine G ?_
   refine Tc Z Z Z Z (QcV au af rq).r ?_
   rintro _ bl ⟨aV, aN, aE, rfl⟩
   cases a
   refine G ?_
   exact V
  cases a
  refine G ?_
  exact V
 intro a7 bm ad
 obtain ⟨aW, aO, aF, ⟨a8, rfl⟩⟩ := ad
 cases hm
 refine G ?_
 exact fr
theorem Qgh {w0 w : World} {s : PHeap} {H : List Res} {t18 : Task} {v19 : Value} {v21 : Value} {v23 : Value} {v25 : Value} {r : Bool} (hm : Qaw t18 = some r) (hS : St w0 s (H) w) (a20 : SliceRep (Qc .i64) s v19 t18.Vars) (a22 : SliceRep (Qc .i64) s v21 t18.Init) (a24 : SliceRep encFact s v23 t18.Goal) (a26 : SliceRep encOp s v25 t18.Ops) :
  Calls Tryz.prog 4 #[Value.agg #[v19, v21, v23, v25]] w fun e w' => ∃ v, e = .returned v ∧ ((fun (y28 : Bool) => ∃ (ah : PHeap) , PHeap.le s ah ∧ St w0 ah (H) w' ∧ v = Value.bool (y28)) r) := by
 unfold Qaw at hm
 refine Qb Tryz.func4 Z Z (G ?_)
 refine Yz Z Z ?_
 intro d c8 aC
 obtain ⟨cQ, bd, hm⟩ := Zg hm
 refine G ?_
 refine Tc Z Z Z Z (QfS bd aC a20 a22 a24 a26).r ?_
 rintro _ c9 ⟨ai, bX, bH, rfl⟩
 refine G ?_
 rcases Qk hm with ⟨z, hm⟩ | ⟨z, hm⟩
 ·cases hm
  refine G ?_
  exact fr
 obtain ⟨q, ay, aU, aN, aG⟩ := Qo hm
 refine W_c Z z (Qa0 (QT (Ze (Zc (Zc (Zd (g ?_)))))))
 refine Qm (M := fun f' w' => ∃ s', (q = .next s' ∨ q = .brk s') ∧ (fun (_ : Unit) => ∃ (aj : PHeap) , PHeap.le ai aj ∧ St w0 aj (Res.box d 26 [v19, v21, v23, v25] :: H) w' ∧ Fx f' [(1, Vq d), (14, v19), (15, U ((t18.Vars.length : Int)))]) s') ?_ ?_
 ·refine G ?_
  refine Q2 (fun k' s' f' w' => (fun (_ : Unit) => ∃ (ak : PHeap) , PHeap.le ai ak ∧ St w0 ak (Res.box d 26 [v19, v21, v23, v25] :: H) w' ∧ Fx f' [(16, U (k' : Int)), (1, Vq d), (14, v19), (15, U ((t18.Vars.length : Int)))]) s') ay ?_ ?_ ?_
  ·exact V
  ·intro bb cx br bu cA bU a1 c aW
   obtain ⟨bk, bY, aD, ⟨bv, rfl⟩⟩ := a1
   obtain ⟨o, be, c⟩ := Zg c
   refine G ?_
   refine Jk Z Z Z be ?_
   intro bm cj av
   refine G ?_
   refine Zw (E := (Qc .i64)) aD A3.h Z Z Z av ?_
   intro c5 bf
   obtain rfl := Qt.1 bf
   refine g ?_
   refine Zc (Qm (M := fun f' w' => ∃ (al : PHeap) , PHeap.le bk al ∧ St w0 al (Res.box d 26 [v19, v21, v23, v25] :: H) w' ∧ Fx f' [(1, Vq d), (14, v19), (15, U ((t18.Vars.length : Int))), (16, U ((bb : Int))), (25, Vb (((decide (o < 2)) || decide (4 < o))))]) ?_ ?_)
   ·refine G ?_
    rcases tf (decide (o < 2)) with aJ | aJ
    ·refine G ?_
     exact V
    refine G ?_
    exact V
   intro bw cB a7
   obtain ⟨cp, bZ, bI, ⟨bx, rfl⟩⟩ := a7
   refine G ?_
   rcases Qk c with ⟨aK, c⟩ | ⟨aK, c⟩
   ·cases c
    have aQ := aU _ (aW (by intro _ h; cases h))
    cases aQ
    refine G ?_
    exact fr
   cases c
   refine G ?_
   exact ⟨_, Z, V⟩
  intro cy bz cC a2 aX
  obtain ⟨cq, ca, bJ, ⟨b0, rfl⟩⟩ := a2
  refine G ?_
  exact ⟨_, .inl aX, V⟩
 rintro b1 cD ⟨cz, aa, a8⟩
 have hm := aa.elim (aN _) (aG _)
 clear aa
 obtain ⟨am, cb, aE, ⟨b2, rfl⟩⟩ := a8
 obtain ⟨t, az, ae, aO, aH⟩ := Qo hm
 refine g ?_
 refine Zc (Zc (Zd (g ?_)))
 refine Qm (M := fun f' w' => ∃ s', (t = .next s' ∨ t = .brk s') ∧ (fun (_ : Unit) => ∃ (an : PHeap) , PHeap.le am an ∧ St w0 an (H) w' ∧ Fx f' [(28, v25), (29, U ((t18.Ops.length : Int)))]) s') ?_ ?_
 ·refine G ?_
  refine Q2 (fun k' s' f' w' => (fun (_ : Unit) => ∃ (ao : PHeap) , PHeap.le am ao ∧ St w0 ao (H) w' ∧ Fx f' [(30, U (k' : Int)), (28, v25), (29, U ((t18.Ops.length : Int)))]) s') az ?_ ?_ ?_
  ·have bK := aE.drop
   exact V
  ·intro j c0 bs b3 cE bV a3 a af
   obtain ⟨ap, cc, x, ⟨b4, rfl⟩⟩ := a3
   obtain ⟨p, bg, a⟩ := Zg a
   refine G ?_
   refine Jk Z Z Z bg ?_
   intro bn ck aw
   refine G ?_
   refine Zw (E := encOp) x A48.h Z Z Z aw ?_
   intro c6 bh
   obtain ⟨c3, n, rfl, cm, cn⟩ := KY.1 bh
   refine G ?_
   refine Exec.alloc (cs := [Value.string (⟨#[]⟩), U 0, Vn, Vn]) x Z48 Z Z ?_
   intro bo cF bL
   refine G ?_
   refine Yo Z Z Z ?_
   intro cG aF
   obtain ⟨u, a0, aV, aP, aI⟩ := Qo a
   refine g ?_
   refine Zc (Zd (g ?_))
   refine Zc (Zc (Zd (g ?_)))
   refine Qm (M := fun f' w' => ∃ s', (u = .next s' ∨ u = .brk s') ∧ (fun (ag : Int) => ∃ (aq : PHeap) , PHeap.le ap aq ∧ St w0 aq (H) w' ∧ Fx f' [(7, U ag), (28, v25), (29, U ((t18.Ops.length : Int))), (30, U ((j : Int))), (35, n), (36, U ((p.Effs.length : Int)))]) s') ?_ ?_
   ·refine G ?_
    refine Q2 (fun k' s' f' w' => (fun (l : Int) => ∃ (ar : PHeap) , PHeap.le ap ar ∧ St w0 ar (H) w' ∧ Fx f' [(37, U (k' : Int)), (7, U l), (28, v25), (29, U ((t18.Ops.length : Int))), (30, U ((j : Int))), (35, n), (36, U ((p.Effs.length : Int)))]) s') a0 ?_ ?_ ?_
    ·have bM := aF.drop
     exact V
    ·intro bc l bt b5 cH bW a4 b aY
     obtain ⟨bl, cd, y, ⟨b6, rfl⟩⟩ := a4
     obtain ⟨cP, bi, b⟩ := Zg b
     refine G ?_
     refine Jk Z Z Z bi ?_
     intro bp cl ax
     refine G ?_
     refine Zw (E := encEffect) y A50.h Z Z Z ax ?_
     intro c7 bj
     obtain ⟨c4, rfl, co⟩ := JW.1 bj
     refine G ?_
     refine Exec.alloc (cs := [Vn, U 0, U 0]) y Z50 Z Z ?_
     intro bq cI bN
     refine G ?_
     refine Yo Z Z Z ?_
     intro cJ bO
     refine G ?_
     rcases Qk b with ⟨ab, b⟩ | ⟨ab, b⟩
     ·cases b
      have aR := aV _ (aY (by intro _ h; cases h))
      cases aR
      have aS := ae _ (af (by intro _ h; cases h))
      cases aS
      refine G ?_
      exact fr
     obtain ⟨m, i, b⟩ := Zg b
     refine W_c Z ab (Qa0 (QT (Ze (Zc (Zd (g ?_))))))
     refine Qm (M := fun f' w' => (fun (m : Int) => ∃ (au : PHeap) , PHeap.le bl au ∧ St w0 au (H) w' ∧ Fx f' [(7, U m), (28, v25), (29, U ((t18.Ops.length : Int))), (30, U ((j : Int))), (35, n), (36, U ((p.Effs.length : Int))), (37, U ((bc : Int)))]) m) ?_ ?_
     ·rcases Qk i with ⟨aL, i⟩ | ⟨aL, i⟩
      ·cases i
       refine G ?_
       exact V
      cases i
      refine G ?_
      exact V
     intro b7 cK a9
     obtain ⟨cr, ce, bP, ⟨b8, rfl⟩⟩ := a9
     cases b
     refine G ?_
     exact ⟨_, Z, V⟩
    intro l b9 cL a5 aZ
    obtain ⟨ct, cf, bQ, ⟨bA, rfl⟩⟩ := a5
    refine G ?_
    exact ⟨_, .inl aZ, V⟩
   rintro bB cM ⟨ag, ac, aA⟩
   have a := ac.elim (aP _) (aI _)
   clear ac
   obtain ⟨cu, cg, bR, ⟨bC, rfl⟩⟩ := aA
   refine G ?_
   rcases Qk a with ⟨aM, a⟩ | ⟨aM, a⟩
   ·cases a
    have aT := ae _ (af (by intro _ h; cases h))
    cases aT
    refine G ?_
    exact fr
   cases a
   refine G ?_
   exact ⟨_, Z, V⟩
  intro c1 bD cN a6 ba
  obtain ⟨cv, ch, bS, ⟨bE, rfl⟩⟩ := a6
  refine G ?_
  exact ⟨_, .inl ba, V⟩
 rintro bF cO ⟨c2, ad, aB⟩
 have hm := ad.elim (aO _) (aH _)
 clear ad
 obtain ⟨cw, ci, bT, ⟨bG, rfl⟩⟩ := aB
 cases hm
 refine G ?_
 exact fr
theorem Z26 : Jl Tryz.prog 26 = some (Value.agg #[Value.slice none 0 0, Value.slice none 0 0, Value.slice none 0 0, Value.slice none 0 0]) := by kernel_rfl
theorem Z33 : Jl Tryz.prog 33 = some (Value.agg #[U 0, Value.slice none 0 0]) := by kernel_rfl
instance S70 : STy Tryz.prog 70 23 1 24 := ⟨by kernel_rfl⟩
theorem Z23 : Jl Tryz.prog 23 = some (Value.slice none 0 0) := by kernel_rfl
theorem Qa4 {w0 w : World} {s : PHeap} {H : List Res} {a : Task} {ac : Value} {ad : Value} {g : Value} {i : Value} {r : (List (List Fact))} (hm : JK a = some r) (hS : St w0 s (H) w) (a9 : SliceRep (Qc .i64) s ac a.Vars) (aA : SliceRep (Qc .i64) s ad a.Init) (t : SliceRep encFact s g a.Goal) (aB : SliceRep encOp s i a.Ops) :
  Calls Tryz.prog 45 #[Value.agg #[ac, ad, g, i]] w fun e w' => ∃ v, e = .returned v ∧ ((fun (a8 : (List (List Fact))) => ∃ (o : PHeap) (ae : Value), PHeap.le s o ∧ St w0 o (H) w' ∧ v = ae ∧ SliceRep (Qa encFact) o ae a8) r) := by
 unfold JK at hm
 refine Qb Tryz.func45 Z Z (G ?_)
 refine Yz Z Z ?_
 intro aC bx ao
 refine G ?_
 refine Exec.buildSlice (Te := 23) (cs := [g]) ao Z (Qd (c := [g]) (Qi Z (Q5 t.one)) Qg) (fun _ => by kernel_rfl) ?_
 intro aD bz ap
 obtain ⟨n, ai, hm⟩ := Zg hm
 refine G ?_
 refine J8 (fun k' s' f' w' => (fun (n : (List (List Fact))) => ∃ (aa : PHeap) (j : Value), PHeap.le s aa ∧ St w0 aa (Res.arr (Qa encFact) 23 j n :: H) w' ∧ Fx f' [(14, U (k' : Int)), (3, j), (12, i), (13, U ((a.Ops.length : Int)))]) s') ai ?_ ?_ ?_
 ·have aS := St.boxArr (E := (Qa encFact)) (xs := [a.Goal]) ap ⟨[g], [], rfl, ⟨_, rfl, t⟩, rfl⟩ (by simp [maxLen])
  exact V
 ·intro ay n bn aK b0 aZ ak b
  obtain ⟨a5, j, bc, u, ⟨aL, rfl⟩⟩ := ak
  obtain ⟨af, az, b⟩ := Zg b
  refine G ?_
  refine Jk Z Z Z az ?_
  intro aE bj ag
  refine G ?_
  refine Zw (E := encOp) u A48.h Z Z Z ag ?_
  intro bt a0
  obtain ⟨p, a6, rfl, y, bl⟩ := KY.1 a0
  refine G ?_
  refine Exec.alloc (cs := [Value.string (⟨#[]⟩), U 0, Vn, Vn]) u Z48 Z Z ?_
  intro aF b1 aT
  refine G ?_
  refine Yo Z Z Z ?_
  intro b2 aq
  refine G ?_
  refine Exec.buildSlice (Te := 23) (cs := [p]) aq Z (Qd (c := [p]) (Qi Z (Q5 y.one)) Qg) (fun _ => by kernel_rfl) ?_
  intro aG b3 ar
  obtain ⟨bd, a1, b⟩ := Zg b
  refine G ?_
  refine Q0 (E := (Qa encFact)) (ys := [af.Pre]) ar.f2 S70.h Z23 Z (by decide) Z Z Z Z ⟨[p], [], Z, ⟨_, Z, y⟩, Z⟩ Z a1 ?_
  intro bu b4 au
  obtain ⟨m, aj, b⟩ := Zg b
  refine G ?_
  refine J8 (fun k' s' f' w' => (fun (m : (List (List Fact))) => ∃ (ab : PHeap) (l : Value), PHeap.le a5 ab ∧ St w0 ab (Res.arr (Qa encFact) 23 l m :: H) w' ∧ Fx f' [(26, U (k' : Int)), (3, l), (12, i), (13, U ((a.Ops.length : Int))), (14, U ((ay : Int))), (24, a6), (25, U ((af.Effs.length : Int)))]) s') aj ?_ ?_ ?_
  ·have aU := (au.f1).drop
   exact V
  ·intro bb m bo aM b5 ba al d
   obtain ⟨bp, l, be, x, ⟨aN, rfl⟩⟩ := al
   obtain ⟨a7, a2, d⟩ := Zg d
   refine G ?_
   refine Jk Z Z Z a2 ?_
   intro aH bk ah
   refine G ?_
   refine Zw (E := encEffect) x A50.h Z Z Z ah ?_
   intro bv a3
   obtain ⟨q, rfl, z⟩ := JW.1 a3
   refine G ?_
   refine Exec.alloc (cs := [Vn, U 0, U 0]) x Z50 Z Z ?_
   intro aI b6 aV
   refine G ?_
   refine Yo Z Z Z ?_
   intro b7 av
   refine G ?_
   refine Exec.buildSlice (Te := 23) (cs := [q]) av Z (Qd (c := [q]) (Qi Z (Q5 z.one)) Qg) (fun _ => by kernel_rfl) ?_
   intro aJ b8 aw
   obtain ⟨bf, a4, d⟩ := Zg d
   refine G ?_
   refine Q0 (E := (Qa encFact)) (ys := [a7.When]) aw.f2 S70.h Z23 Z (by decide) Z Z Z Z ⟨[q], [], Z, ⟨_, Z, z⟩, Z⟩ Z a4 ?_
   intro bw b9 aW
   cases d
   refine G ?_
   exact V
  intro aO bA am
  obtain ⟨bq, l, bg, aX, ⟨aP, rfl⟩⟩ := am
  cases b
  refine G ?_
  exact V
 intro aQ bB an
 obtain ⟨br, j, bh, ax, ⟨aR, rfl⟩⟩ := an
 cases hm
 refine G ?_
 refine ⟨_, Qaf Z, ?_⟩
 obtain ⟨bs, bi, aY, bm⟩ := ax.freezeArr
 exact V
theorem N72 : (Tryz.f72.name == "runtime.NumGoroutine") = false := by kernel_rfl
theorem QdO {w0 w : World} {s : PHeap} {H : List Res} {a : (List Fact)} {c : Value} {r : Bool} (hm : KP a = some r) (hS : St w0 s (H) w) (f : SliceRep encFact s c a) :
  Calls Tryz.prog 72 #[c] w fun e w' => ∃ v, e = .returned v ∧ ((fun (d : Bool) => ∃ (b : PHeap) , PHeap.le s b ∧ St w0 b (H) w' ∧ v = Value.bool (d)) r) := by
 unfold KP at hm
 refine Qb Tryz.func72 Z Z ?_
 cases hm
 refine G ?_
 exact fr
theorem Qc1 {w0 w : World} {s : PHeap} {H : List Res} {b : (List (List Fact))} {c : Value} {r : Int} (hm : Kh b = some r) (hS : St w0 s (H) w) (aj : SliceRep (Qa encFact) s c b) :
  Calls Tryz.prog 93 #[c, Value.func (.func 72) #[] #[]] w fun e w' => ∃ v, e = .returned v ∧ ((fun (ai : Int) => ∃ (l : PHeap) , PHeap.le s l ∧ St w0 l (H) w' ∧ v = U ai) r) := by
 unfold Kh at hm
 refine Qb Tryz.func93 Z Z ?_
 obtain ⟨d, p, ab, z, x⟩ := Qo hm
 refine Zc (Zd (g ?_))
 refine Zc (Zc (Zd (g ?_)))
 refine Qm (M := fun f' w' => ∃ s', (d = .next s' ∨ d = .brk s') ∧ (fun (_ : Unit) => ∃ (m : PHeap) , PHeap.le s m ∧ St w0 m (H) w' ∧ Fx f' [(0, c), (1, Value.func (.func 72) #[] #[]), (7, U ((b.length : Int)))]) s') ?_ ?_
 ·refine G ?_
  refine Q2 (fun k' s' f' w' => (fun (_ : Unit) => ∃ (n : PHeap) , PHeap.le s n ∧ St w0 n (H) w' ∧ Fx f' [(8, U (k' : Int)), (0, c), (1, Value.func (.func 72) #[] #[]), (7, U ((b.length : Int)))]) s') p ?_ ?_ ?_
  ·exact V
  ·intro ay a8 al am aC ax q a ac
   obtain ⟨a4, az, i, ⟨an, rfl⟩⟩ := q
   obtain ⟨ah, ae, a⟩ := Zg a
   refine G ?_
   refine Jk Z Z Z ae ?_
   intro ak a3 o
   refine G ?_
   refine Zw (E := (Qa encFact)) i A23.h Z Z Z o ?_
   intro aB af
   have ag := Qr.1 af
   refine G ?_
   refine QbM Z Z Tryz.func72 Z N72 (Zi Z Qw) ((QdO (Qbk ah) i ag).mono ?_)
   rintro _ aD ⟨_, rfl, ⟨a5, a0, au, rfl⟩⟩
   refine ⟨_, Z, ?_⟩
   refine G ?_
   rcases Qk a with ⟨y, a⟩ | ⟨y, a⟩
   ·cases a
    have aa := ab _ (ac (by intro _ h; cases h))
    cases aa
    refine G ?_
    exact fr
   cases a
   refine G ?_
   exact ⟨_, Z, V⟩
  intro a9 ao aE t ad
  obtain ⟨a6, a1, av, ⟨ap, rfl⟩⟩ := t
  refine G ?_
  exact ⟨_, .inl ad, V⟩
 rintro aq aF ⟨aA, j, u⟩
 have hm := j.elim (z _) (x _)
 clear j
 obtain ⟨a7, a2, aw, ⟨ar, rfl⟩⟩ := u
 cases hm
 refine G ?_
 exact fr
theorem QdW {w0 w : World} {s : PHeap} {H : List Res} {b : (List (List Fact))} {c : Value} {r : Bool} (hm : KX b = some r) (hS : St w0 s (H) w) (d : SliceRep (Qa encFact) s c b) :
  Calls Tryz.prog 71 #[c, Value.func (.func 72) #[] #[]] w fun e w' => ∃ v, e = .returned v ∧ ((fun (g : Bool) => ∃ (a : PHeap) , PHeap.le s a ∧ St w0 a (H) w' ∧ v = Value.bool (g)) r) := by
 unfold KX at hm
 refine Qb Tryz.func71 Z Z ?_
 obtain ⟨l, f, hm⟩ := Zg hm
 refine G ?_
 refine Tc Z Z Z Z (Qc1 f hS d).r ?_
 rintro _ k ⟨j, i, h, rfl⟩
 cases hm
 refine G ?_
 exact fr
theorem QfO {w0 w : World} {s : PHeap} {H : List Res} {a : Task} {i : Value} {j : Value} {l : Value} {c : Value} {r : Bool} (hm : YU a = some r) (hS : St w0 s (H) w) (ax : SliceRep (Qc .i64) s i a.Vars) (ay : SliceRep (Qc .i64) s j a.Init) (az : SliceRep encFact s l a.Goal) (a0 : SliceRep encOp s c a.Ops) :
  Calls Tryz.prog 43 #[Value.agg #[i, j, l, c]] w fun e w' => ∃ v, e = .returned v ∧ ((fun (aw : Bool) => ∃ (q : PHeap) , PHeap.le s q ∧ St w0 q (H) w' ∧ v = Value.bool (aw)) r) := by
 unfold YU at hm
 refine Qb Tryz.func43 Z Z (G ?_)
 refine Yz Z Z ?_
 intro d bf aC
 refine g ?_
 refine Zc (Zc (Qm (M := fun f' w' => ∃ (t : PHeap) , PHeap.le s t ∧ St w0 t (Res.box d 26 [i, j, l, c] :: H) w' ∧ Fx f' [(1, Vq d), (14, Vb (((decide (64 < (a.Vars.length : Int))) || decide (4096 < (a.Ops.length : Int)))))]) ?_ ?_))
 ·refine G ?_
  rcases tf (decide (64 < (a.Vars.length : Int))) with ai | ai
  ·refine G ?_
   exact V
  refine G ?_
  exact V
 intro a4 bg ad
 obtain ⟨u, aK, aD, ⟨a5, rfl⟩⟩ := ad
 refine G ?_
 rcases Qk hm with ⟨o, hm⟩ | ⟨o, hm⟩
 ·cases hm
  refine G ?_
  exact fr
 obtain ⟨m, aa, am, ak, ah⟩ := Qo hm
 refine W_c Z o (Qa0 (QT (Ze (Zc (Zc (Zd (g ?_)))))))
 refine Qm (M := fun f' w' => ∃ s', (m = .next s' ∨ m = .brk s') ∧ (fun (_ : Unit) => ∃ (x : PHeap) , PHeap.le u x ∧ St w0 x (Res.box d 26 [i, j, l, c] :: H) w' ∧ Fx f' [(1, Vq d), (16, c), (17, U ((a.Ops.length : Int)))]) s') ?_ ?_
 ·refine G ?_
  refine Q2 (fun k' s' f' w' => (fun (_ : Unit) => ∃ (y : PHeap) , PHeap.le u y ∧ St w0 y (Res.box d 26 [i, j, l, c] :: H) w' ∧ Fx f' [(18, U (k' : Int)), (1, Vq d), (16, c), (17, U ((a.Ops.length : Int)))]) s') aa ?_ ?_ ?_
  ·exact V
  ·intro aJ aY a3 a6 bh aI ab b an
   obtain ⟨aT, aL, n, ⟨a7, rfl⟩⟩ := ab
   obtain ⟨bo, ap, b⟩ := Zg b
   refine G ?_
   refine Jk Z Z Z ap ?_
   intro a1 aQ z
   refine G ?_
   refine Zw (E := encOp) n A48.h Z Z Z z ?_
   intro bd aq
   obtain ⟨bb, bc, rfl, aR, aS⟩ := KY.1 aq
   refine G ?_
   refine Exec.alloc (cs := [Value.string (⟨#[]⟩), U 0, Vn, Vn]) n Z48 Z Z ?_
   intro a2 bi aE
   refine G ?_
   refine Yo Z Z Z ?_
   intro bj aF
   refine G ?_
   rcases Qk b with ⟨aj, b⟩ | ⟨aj, b⟩
   ·cases b
    have al := am _ (an (by intro _ h; cases h))
    cases al
    refine G ?_
    exact fr
   cases b
   refine G ?_
   exact ⟨_, Z, V⟩
  intro aZ a8 bk ac ao
  obtain ⟨aU, aM, aG, ⟨a9, rfl⟩⟩ := ac
  refine G ?_
  exact ⟨_, .inl ao, V⟩
 rintro aA bl ⟨ba, p, ae⟩
 have hm := p.elim (ak _) (ah _)
 clear p
 obtain ⟨aV, aN, af, ⟨aB, rfl⟩⟩ := ae
 obtain ⟨bp, ar, hm⟩ := Zg hm
 refine G ?_
 refine Tc Z Z Z Z (Qa4 ar af rq rq rq rq).r ?_
 rintro be bm ⟨aW, _, aO, ag, rfl, av⟩
 obtain ⟨bq, au, hm⟩ := Zg hm
 refine G ?_
 refine Tc Z Z Z Z (QdW au ag av).r ?_
 rintro _ bn ⟨aX, aP, aH, rfl⟩
 cases hm
 refine G ?_
 exact fr
theorem C39 : Tryz.prog.concrete 39 = true := by kernel_rfl
theorem QeG {w0 w : World} {s : PHeap} {H : List Res} {x : (List Int)} {c : (List Int)} {d : Value} {i : Value} {r : Bool} (hm : Y2 x c = some r) (hS : St w0 s (H) w) (aw : SliceRep (Qc .i64) s d x) (ax : SliceRep (Qc .i64) s i c) :
  Calls Tryz.prog 44 #[d, i] w fun e w' => ∃ v, e = .returned v ∧ ((fun (av : Bool) => ∃ (p : PHeap) , PHeap.le s p ∧ St w0 p (H) w' ∧ v = Value.bool (av)) r) := by
 unfold Y2 at hm
 refine Qb Tryz.func44 Z Z (G ?_)
 rcases Qk hm with ⟨n, hm⟩ | ⟨n, hm⟩
 ·cases hm
  refine G ?_
  exact fr
 obtain ⟨l, aa, ak, ai, af⟩ := Qo hm
 refine W_c Z n (Qa0 (QT (Ze (Zc (Zc (Zd (g ?_)))))))
 refine Qm (M := fun f' w' => ∃ s', (l = .next s' ∨ l = .brk s') ∧ (fun (_ : Unit) => ∃ (q : PHeap) , PHeap.le s q ∧ St w0 q (H) w' ∧ Fx f' [(0, d), (12, i), (13, U ((c.length : Int)))]) s') ?_ ?_
 ·refine G ?_
  refine Q2 (fun k' s' f' w' => (fun (_ : Unit) => ∃ (t : PHeap) , PHeap.le s t ∧ St w0 t (H) w' ∧ Fx f' [(14, U (k' : Int)), (0, d), (12, i), (13, U ((c.length : Int)))]) s') aa ?_ ?_ ?_
  ·exact V
  ·intro an aM a0 a1 aR aC ab a al
   obtain ⟨au, aD, m, ⟨a2, rfl⟩⟩ := ab
   obtain ⟨aV, ao, a⟩ := Zg a
   refine G ?_
   refine Jk Z Z Z ao ?_
   intro ay aH y
   refine G ?_
   refine Zw (E := (Qc .i64)) m A3.h Z Z Z y ?_
   intro aP ap
   obtain rfl := Qt.1 ap
   obtain ⟨j, b, a⟩ := Zg a
   refine g ?_
   refine Zc (Qm (M := fun f' w' => (fun (j : Bool) => ∃ (u : PHeap) , PHeap.le au u ∧ St w0 u (H) w' ∧ Fx f' [(0, d), (12, i), (13, U ((c.length : Int))), (14, U ((an : Int))), (28, Vb j)]) j) ?_ ?_)
   ·refine G ?_
    rcases Qk b with ⟨ag, b⟩ | ⟨ag, b⟩
    ·cases b
     refine G ?_
     exact V
    obtain ⟨aW, aq, b⟩ := Zg b
    refine G ?_
    refine Jk Z Z Z aq ?_
    intro az aI z
    refine G ?_
    refine Zw (E := (Qc .i64)) m A3.h Z Z Z z ?_
    intro aQ ar
    obtain rfl := Qt.1 ar
    cases b
    refine G ?_
    exact V
   intro a3 aS ad
   obtain ⟨aJ, aE, a9, ⟨a4, rfl⟩⟩ := ad
   refine G ?_
   rcases Qk a with ⟨ah, a⟩ | ⟨ah, a⟩
   ·cases a
    have aj := ak _ (al (by intro _ h; cases h))
    cases aj
    refine G ?_
    exact fr
   cases a
   refine G ?_
   exact ⟨_, Z, V⟩
  intro aN a5 aT ac am
  obtain ⟨aK, aF, aA, ⟨a6, rfl⟩⟩ := ac
  refine G ?_
  exact ⟨_, .inl am, V⟩
 rintro a7 aU ⟨aO, o, ae⟩
 have hm := o.elim (ai _) (af _)
 clear o
 obtain ⟨aL, aG, aB, ⟨a8, rfl⟩⟩ := ae
 cases hm
 refine G ?_
 exact fr
theorem KC {w0 w : World} {s : PHeap} {H : List Res} {z : (List Int)} {c : (List Fact)} {d : Value} {i : Value} {r : Bool} (hm : J6 z c = some r) (hS : St w0 s (H) w) (ab : SliceRep (Qc .i64) s d z) (a5 : SliceRep encFact s i c) :
  Calls Tryz.prog 46 #[d, i] w fun e w' => ∃ v, e = .returned v ∧ ((fun (a4 : Bool) => ∃ (t : PHeap) , PHeap.le s t ∧ St w0 t (H) w' ∧ v = Value.bool (a4)) r) := by
 unfold J6 at hm
 refine Qb Tryz.func46 Z Z ?_
 obtain ⟨n, ae, au, aq, al⟩ := Qo hm
 refine Zc (Zd (g ?_))
 refine Zc (Zd (g ?_))
 refine Zc (Zc (Zd (g ?_)))
 refine Qm (M := fun f' w' => ∃ s', (n = .next s' ∨ n = .brk s') ∧ (fun (q : Int) => ∃ (u : PHeap) , PHeap.le s u ∧ St w0 u (H) w' ∧ Fx f' [(0, d), (5, U q), (8, i), (9, U ((c.length : Int)))]) s') ?_ ?_
 ·refine G ?_
  refine Q2 (fun k' s' f' w' => (fun (j : Int) => ∃ (x : PHeap) , PHeap.le s x ∧ St w0 x (H) w' ∧ Fx f' [(10, U (k' : Int)), (0, d), (5, U j), (8, i), (9, U ((c.length : Int)))]) s') ae ?_ ?_ ?_
  ·exact V
  ·intro ax j a8 aA aX aM af b av
   obtain ⟨a3, ay, o, ⟨aB, rfl⟩⟩ := af
   obtain ⟨aa, az, b⟩ := Zg b
   refine G ?_
   refine Jk Z Z Z az ?_
   intro a6 aQ ac
   refine G ?_
   refine Zw (E := encFact) o A52.h Z Z Z ac ?_
   intro aV a0
   obtain rfl := Q9.1 a0
   refine G ?_
   refine Exec.alloc (cs := [U 0, U 0]) o Z52 Z Z ?_
   intro m aY aI
   refine G ?_
   refine Yo Z Z Z ?_
   intro aZ aj
   obtain ⟨l, a, b⟩ := Zg b
   refine g ?_
   refine Zc (Zc (Qm (M := fun f' w' => (fun (l : Bool) => ∃ (y : PHeap) , PHeap.le a3 y ∧ St w0 y (Res.box m 52 [U (aa.Var), U (aa.Val)] :: H) w' ∧ Fx f' [(0, d), (7, Vq m), (8, i), (9, U ((c.length : Int))), (10, U ((ax : Int))), (39, Vb l)]) l) ?_ ?_))
   ·refine KG (n0 := 26) (qs 0 26 .done) Yp (by kernel_rfl) (by kernel_rfl) ?_
    have ak := aj.drew
    refine G ?_
    rcases Qk a with ⟨am, a⟩ | ⟨am, a⟩
    ·cases a
     refine G ?_
     exact V
    refine G ?_
    rcases Qk a with ⟨an, a⟩ | ⟨an, a⟩
    ·cases a
     refine G ?_
     exact V
    refine G ?_
    rcases Qk a with ⟨ao, a⟩ | ⟨ao, a⟩
    ·cases a
     refine G ?_
     exact V
    obtain ⟨bd, a1, a⟩ := Zg a
    refine G ?_
    refine Q6 S22.h Z Z Z (ab.mono ay) a1 ?_
    intro a7 aR ad a9
    refine ⟨Z, ?_⟩
    refine G ?_
    refine Zw (E := (Qc .i64)) ak A3.h Z Z Z ad ?_
    intro aW a2
    obtain rfl := Qt.1 a2
    refine ⟨Z, ?_⟩
    cases a
    refine G ?_
    exact V
   intro aC ba ah
   obtain ⟨aS, aN, aJ, ⟨aD, rfl⟩⟩ := ah
   refine G ?_
   rcases Qk b with ⟨ap, b⟩ | ⟨ap, b⟩
   ·cases b
    have ar := au _ (av (by intro _ h; cases h))
    cases ar
    refine G ?_
    exact fr
   cases b
   refine G ?_
   exact ⟨_, Z, V⟩
  intro j aE bb ag aw
  obtain ⟨aT, aO, aK, ⟨aF, rfl⟩⟩ := ag
  refine G ?_
  exact ⟨_, .inl aw, V⟩
 rintro aG bc ⟨q, p, ai⟩
 have hm := p.elim (aq _) (al _)
 clear p
 obtain ⟨aU, aP, aL, ⟨aH, rfl⟩⟩ := ai
 cases hm
 refine G ?_
 exact fr
theorem QfN {w0 w : World} {s : PHeap} {H : List Res} {a : ByteArray} {r : Bool} (hm : YT a = some r) (hS : St w0 s (H) w) :
  Calls Tryz.prog 47 #[Value.string (a)] w fun e w' => ∃ v, e = .returned v ∧ ((fun (an : Bool) => ∃ (m : PHeap) , PHeap.le s m ∧ St w0 m (H) w' ∧ v = Value.bool (an)) r) := by
 unfold YT at hm
 refine Qb Tryz.func47 Z Z (G ?_)
 refine QC Tryz.underlying9 Z Z ?_
 obtain ⟨aB, ak, hm⟩ := Zg hm
 obtain ⟨i, q, ag, ae, aa⟩ := Qo hm
 refine g ?_
 refine Qm (M := fun f' w' => ∃ s', (i = .next s' ∨ i = .brk s') ∧ (fun (_ : Unit) => ∃ (n : PHeap) , PHeap.le s n ∧ St w0 n (H) w' ∧ Fx f' [(0, Value.string (a)), (5, U ((a.size : Int)))]) s') ?_ ?_
 ·refine G ?_
  refine Q2 (fun k' s' f' w' => (fun (_ : Unit) => ∃ (o : PHeap) , PHeap.le s o ∧ St w0 o (H) w' ∧ Fx f' [(6, U (k' : Int)), (0, Value.string (a)), (5, U ((a.size : Int)))]) s') q ?_ ?_ ?_
  ·exact V
  ·intro aj a8 ao ap aC ad t b ah
   obtain ⟨al, a2, az, ⟨aq, rfl⟩⟩ := t
   obtain ⟨d, c, b⟩ := Zg b
   refine Zc (Zd (g ?_))
   refine Zc (KB (Zx (decide_eq_true (by omega))) (QT (Ze (Zc (Qbe (Zc (Zd (g ?_))))))))
   refine Zc (Qm (M := fun f' w' => (fun (d : Bool) => ∃ (p : PHeap) , PHeap.le al p ∧ St w0 p (H) w' ∧ Fx f' [(0, Value.string (a)), (5, U ((a.size : Int))), (6, U ((aj : Int))), (18, Vb d)]) d) ?_ ?_)
   ·obtain ⟨aG, l, c⟩ := Zg c
    refine G ?_
    refine J9 Tryz.underlying9 Z Z Z l (G ?_)
    rcases Qk c with ⟨ab, c⟩ | ⟨ab, c⟩
    ·cases c
     refine G ?_
     exact V
    refine G ?_
    refine J9 Tryz.underlying9 Z Z Z l ?_
    cases c
    refine G ?_
    exact V
   intro ar aD x
   obtain ⟨am, a3, z, ⟨au, rfl⟩⟩ := x
   refine G ?_
   rcases Qk b with ⟨ac, b⟩ | ⟨ac, b⟩
   ·cases b
    have af := ag _ (ah (by intro _ h; cases h))
    cases af
    refine G ?_
    exact fr
   cases b
   refine G ?_
   refine ⟨_, Z, ?_⟩; exact ⟨am, lq, z, (Fx.mk (FxL.cons (Ja ad (by have h := YI ak; simp at h; simp only [maxLen]; omega)) fxl))⟩
  intro a9 av aE u ai
  obtain ⟨a6, a4, a0, ⟨aw, rfl⟩⟩ := u
  refine G ?_
  exact ⟨_, .inl ai, V⟩
 rintro ax aF ⟨aA, j, y⟩
 have hm := j.elim (ae _) (aa _)
 clear j
 obtain ⟨a7, a5, a1, ⟨ay, rfl⟩⟩ := y
 refine G ?_
 refine QC Tryz.underlying9 Z Z ?_
 cases hm
 refine G ?_
 exact fr
theorem QaK {w0 w : World} {s : PHeap} {H : List Res} {d : Task} {i : Value} {j : Value} {l : Value} {b : Value} {r : (Option Int)} (hm : Ks d = some r) (hS : St w0 s (H) w) (aJ : SliceRep (Qc .i64) s i d.Vars) (aK : SliceRep (Qc .i64) s j d.Init) (aL : SliceRep encFact s l d.Goal) (aM : SliceRep encOp s b d.Ops) :
  Calls Tryz.prog 17 #[Value.agg #[i, j, l, b]] w fun e w' => ∃ v, e = .returned v ∧ ((fun (cC : (Option Int)) => ∃ (au : PHeap) , PHeap.le s au ∧ St w0 au (H) w' ∧ v = Yc 39 (cC)) r) := by
 unfold Ks at hm
 refine Qb Tryz.func17 Z Z (G ?_)
 refine Yz Z Z ?_
 intro a fB bt
 obtain ⟨go, cp, hm⟩ := Zg hm
 refine G ?_
 refine Tc Z Z Z Z (QfO cp bt aJ aK aL aM).r ?_
 rintro _ fC ⟨av, eg, d9, rfl⟩
 refine G ?_
 rcases Qk hm with ⟨ak, hm⟩ | ⟨ak, hm⟩
 ·refine G ?_
  refine Exec.makeInterface C39 Z Z ?_
  cases hm
  refine G ?_
  exact fr
 obtain ⟨z, aT, bV, bJ, b5⟩ := Qo hm
 refine W_c Z ak (Qa0 (QT (Ze (Zc (Zc (Zd (g ?_)))))))
 refine Qm (M := fun f' w' => ∃ s', (z = .next s' ∨ z = .brk s') ∧ (fun (_ : Unit) => ∃ (aw : PHeap) , PHeap.le av aw ∧ St w0 aw (Res.box a 26 [i, j, l, b] :: H) w' ∧ Fx f' [(1, Vq a), (19, i), (20, U ((d.Vars.length : Int)))]) s') ?_ ?_
 ·refine G ?_
  refine Q2 (fun k' s' f' w' => (fun (_ : Unit) => ∃ (ax : PHeap) , PHeap.le av ax ∧ St w0 ax (Res.box a 26 [i, j, l, b] :: H) w' ∧ Fx f' [(21, U (k' : Int)), (1, Vq a), (19, i), (20, U ((d.Vars.length : Int)))]) s') aT ?_ ?_ ?_
  ·exact V
  ·intro cn ff cO cU fD dX aZ q cb
   obtain ⟨cA, eh, bu, ⟨cV, rfl⟩⟩ := aZ
   obtain ⟨x, cq, q⟩ := Zg q
   refine G ?_
   refine Jk Z Z Z cq ?_
   intro cD e8 aN
   refine G ?_
   refine Zw (E := (Qc .i64)) bu A3.h Z Z Z aN ?_
   intro f5 cr
   obtain rfl := Qt.1 cr
   refine g ?_
   refine Zc (Qm (M := fun f' w' => ∃ (ay : PHeap) , PHeap.le cA ay ∧ St w0 ay (Res.box a 26 [i, j, l, b] :: H) w' ∧ Fx f' [(1, Vq a), (19, i), (20, U ((d.Vars.length : Int))), (21, U ((cn : Int))), (30, Vb (((decide (x < 1)) || decide (64 < x))))]) ?_ ?_)
   ·refine G ?_
    rcases tf (decide (x < 1)) with bB | bB
    ·refine G ?_
     exact V
    refine G ?_
    exact V
   intro cW fE bl
   obtain ⟨eM, ei, dA, ⟨cX, rfl⟩⟩ := bl
   refine G ?_
   rcases Qk q with ⟨bC, q⟩ | ⟨bC, q⟩
   ·refine G ?_
    refine Exec.makeInterface C39 Z Z ?_
    cases q
    have bP := bV _ (cb (by intro _ h; cases h))
    cases bP
    refine G ?_
    exact fr
   cases q
   refine G ?_
   exact ⟨_, Z, V⟩
  intro fg cY fF ba cc
  obtain ⟨eN, ej, dB, ⟨cZ, rfl⟩⟩ := ba
  refine G ?_
  exact ⟨_, .inl cc, V⟩
 rintro da fG ⟨fh, al, bm⟩
 have hm := al.elim (bJ _) (b5 _)
 clear al
 obtain ⟨az, ek, dC, ⟨db, rfl⟩⟩ := bm
 obtain ⟨aa, aU, bW, bK, b6⟩ := Qo hm
 refine g ?_
 refine Zc (Zc (Zd (g ?_)))
 refine Qm (M := fun f' w' => ∃ s', (aa = .next s' ∨ aa = .brk s') ∧ (fun (_ : Unit) => ∃ (a0 : PHeap) , PHeap.le az a0 ∧ St w0 a0 (Res.box a 26 [i, j, l, b] :: H) w' ∧ Fx f' [(1, Vq a), (34, b), (35, U ((d.Ops.length : Int)))]) s') ?_ ?_
 ·refine G ?_
  refine Q2 (fun k' s' f' w' => (fun (_ : Unit) => ∃ (a1 : PHeap) , PHeap.le az a1 ∧ St w0 a1 (Res.box a 26 [i, j, l, b] :: H) w' ∧ Fx f' [(36, U (k' : Int)), (1, Vq a), (34, b), (35, U ((d.Ops.length : Int)))]) s') aU ?_ ?_ ?_
  ·exact V
  ·intro co fi cP dc fH dY bb t cd
   obtain ⟨cB, el, af, ⟨dd, rfl⟩⟩ := bb
   obtain ⟨y, ct, t⟩ := Zg t
   refine G ?_
   refine Jk Z Z Z ct ?_
   intro cE e9 aO
   refine G ?_
   refine Zw (E := encOp) af A48.h Z Z Z aO ?_
   intro f6 cu
   obtain ⟨fz, f0, rfl, eE, eF⟩ := KY.1 cu
   refine G ?_
   refine Exec.alloc (cs := [Value.string (⟨#[]⟩), U 0, Vn, Vn]) af Z48 Z Z ?_
   intro cF fI dD
   refine G ?_
   refine Yo Z Z Z ?_
   intro fJ dE
   refine g ?_
   refine Zc (Qm (M := fun f' w' => ∃ (a2 : PHeap) , PHeap.le cB a2 ∧ St w0 a2 (Res.box a 26 [i, j, l, b] :: H) w' ∧ Fx f' [(1, Vq a), (34, b), (35, U ((d.Ops.length : Int))), (36, U ((co : Int))), (47, Vb (((decide (y.Cost < 0)) || decide (1048576 < y.Cost))))]) ?_ ?_)
   ·refine G ?_
    rcases tf (decide (y.Cost < 0)) with bD | bD
    ·refine G ?_
     exact V
    refine G ?_
    exact V
   intro de fK bn
   obtain ⟨eO, em, dF, ⟨df, rfl⟩⟩ := bn
   refine G ?_
   rcases Qk t with ⟨bE, t⟩ | ⟨bE, t⟩
   ·refine G ?_
    refine Exec.makeInterface C39 Z Z ?_
    cases t
    have bQ := bW _ (cd (by intro _ h; cases h))
    cases bQ
    refine G ?_
    exact fr
   cases t
   refine G ?_
   exact ⟨_, Z, V⟩
  intro fj dg fL bc ce
  obtain ⟨eP, en, dG, ⟨dh, rfl⟩⟩ := bc
  refine G ?_
  exact ⟨_, .inl ce, V⟩
 rintro di fM ⟨fk, am, bo⟩
 have hm := am.elim (bK _) (b6 _)
 clear am
 obtain ⟨eQ, eo, bv, ⟨dj, rfl⟩⟩ := bo
 obtain ⟨gp, cv, hm⟩ := Zg hm
 refine G ?_
 refine Tc Z Z Z Z (QeG cv bv rq rq).r ?_
 rintro _ fN ⟨eR, ep, bw, rfl⟩
 refine G ?_
 rcases Qk hm with ⟨bF, hm⟩ | ⟨bF, hm⟩
 ·refine G ?_
  refine Exec.makeInterface C39 Z Z ?_
  cases hm
  refine G ?_
  exact fr
 obtain ⟨aI, cw, hm⟩ := Zg hm
 refine G ?_
 refine Tc Z Z Z Z (Qa4 cw bw rq rq rq rq).r ?_
 rintro aG fO ⟨a3, _, er, dH, rfl, eG⟩
 obtain ⟨ab, aV, bX, bL, b7⟩ := Qo hm
 refine g ?_
 refine Qm (M := fun f' w' => ∃ s', (ab = .next s' ∨ ab = .brk s') ∧ (fun (_ : Unit) => ∃ (a4 : PHeap) , PHeap.le a3 a4 ∧ St w0 a4 (Res.box a 26 [i, j, l, b] :: H) w' ∧ Fx f' [(1, Vq a), (58, aG), (59, U ((aI.length : Int)))]) s') ?_ ?_
 ·refine G ?_
  refine Q2 (fun k' s' f' w' => (fun (_ : Unit) => ∃ (a5 : PHeap) , PHeap.le a3 a5 ∧ St w0 a5 (Res.box a 26 [i, j, l, b] :: H) w' ∧ Fx f' [(60, U (k' : Int)), (1, Vq a), (58, aG), (59, U ((aI.length : Int)))]) s') aV ?_ ?_ ?_
  ·exact V
  ·intro ed fl cQ dk fP dZ bd n cf
   obtain ⟨eS, es, ag, ⟨dl, rfl⟩⟩ := bd
   obtain ⟨gm, cx, n⟩ := Zg n
   refine G ?_
   refine Jk Z Z Z cx ?_
   intro cG eA aP
   refine G ?_
   refine Zw (E := (Qa encFact)) ag A23.h Z Z Z aP ?_
   intro f7 cy
   have c8 := Qr.1 cy
   obtain ⟨gq, cz, n⟩ := Zg n
   refine G ?_
   refine Tc Z Z Z Z (KC cz ag rq c8).r ?_
   rintro _ fQ ⟨eT, et, dI, rfl⟩
   refine G ?_
   rcases Qk n with ⟨bG, n⟩ | ⟨bG, n⟩
   ·refine G ?_
    refine Exec.makeInterface C39 Z Z ?_
    cases n
    have bR := bX _ (cf (by intro _ h; cases h))
    cases bR
    refine G ?_
    exact fr
   cases n
   refine G ?_
   exact ⟨_, Z, V⟩
  intro fm dm fR be cg
  obtain ⟨eU, eu, dJ, ⟨dn, rfl⟩⟩ := be
  refine G ?_
  exact ⟨_, .inl cg, V⟩
 rintro dp fS ⟨fn, an, bp⟩
 have hm := an.elim (bL _) (b7 _)
 clear an
 obtain ⟨a6, ev, dK, ⟨dq, rfl⟩⟩ := bp
 obtain ⟨ac, aW, bY, bM, b8⟩ := Qo hm
 refine g ?_
 refine Zc (Zc (Zd (g ?_)))
 refine Qm (M := fun f' w' => ∃ s', (ac = .next s' ∨ ac = .brk s') ∧ (fun (_ : Unit) => ∃ (a7 : PHeap) , PHeap.le a6 a7 ∧ St w0 a7 (Res.box a 26 [i, j, l, b] :: H) w' ∧ Fx f' [(1, Vq a), (72, b), (73, U ((d.Ops.length : Int)))]) s') ?_ ?_
 ·refine G ?_
  refine Q2 (fun k' s' f' w' => (fun (_ : Unit) => ∃ (a8 : PHeap) , PHeap.le a6 a8 ∧ St w0 a8 (Res.box a 26 [i, j, l, b] :: H) w' ∧ Fx f' [(74, U (k' : Int)), (1, Vq a), (72, b), (73, U ((d.Ops.length : Int)))]) s') aW ?_ ?_ ?_
  ·exact V
  ·intro ar fo cR dr fT ea bf u ch
   obtain ⟨a9, ew, ah, ⟨ds, rfl⟩⟩ := bf
   obtain ⟨aH, c0, u⟩ := Zg u
   refine G ?_
   refine Jk Z Z Z c0 ?_
   intro cH eB aQ
   refine G ?_
   refine Zw (E := encOp) ah A48.h Z Z Z aQ ?_
   intro f8 c1
   obtain ⟨f1, aF, rfl, eH, eI⟩ := KY.1 c1
   refine G ?_
   refine Exec.alloc (cs := [Value.string (⟨#[]⟩), U 0, Vn, Vn]) ah Z48 Z Z ?_
   intro cI fU dL
   refine G ?_
   refine Yo Z Z Z ?_
   intro fV bx
   obtain ⟨ad, aX, bZ, bN, b9⟩ := Qo u
   refine g ?_
   refine Zc (Zd (g ?_))
   refine Qm (M := fun f' w' => ∃ s', (ad = .next s' ∨ ad = .brk s') ∧ (fun (_ : Unit) => ∃ (aA : PHeap) , PHeap.le a9 aA ∧ St w0 aA (Res.box a 26 [i, j, l, b] :: H) w' ∧ Fx f' [(1, Vq a), (72, b), (73, U ((d.Ops.length : Int))), (74, U ((ar : Int))), (79, aF), (80, U ((aH.Effs.length : Int)))]) s') ?_ ?_
   ·refine G ?_
    refine Q2 (fun k' s' f' w' => (fun (_ : Unit) => ∃ (aB : PHeap) , PHeap.le a9 aB ∧ St w0 aB (Res.box a 26 [i, j, l, b] :: H) w' ∧ Fx f' [(81, U (k' : Int)), (1, Vq a), (72, b), (73, U ((d.Ops.length : Int))), (74, U ((ar : Int))), (79, aF), (80, U ((aH.Effs.length : Int)))]) s') aX ?_ ?_ ?_
    ·have dM := bx.drop
     exact V
    ·intro ee fp cS dt fW eb bg o ci
     obtain ⟨eV, ex, ai, ⟨du, rfl⟩⟩ := bg
     obtain ⟨m, c2, o⟩ := Zg o
     refine G ?_
     refine Jk Z Z Z c2 ?_
     intro cJ eC aR
     refine G ?_
     refine Zw (E := encEffect) ai A50.h Z Z Z aR ?_
     intro f9 c3
     obtain ⟨f2, rfl, eJ⟩ := JW.1 c3
     refine G ?_
     refine Exec.alloc (cs := [Vn, U 0, U 0]) ai Z50 Z Z ?_
     intro cK fX dN
     refine G ?_
     refine Yo Z Z Z ?_
     intro fY bz
     refine G ?_
     refine Exec.build Z (Qd (c := [U (m.Var)]) (Qi Z Z) (Qd (c := [U (m.Val)]) (Qi Z Z) Qg)) (v := Value.agg #[U (m.Var), U (m.Val)]) (fun _ => by kernel_rfl) (G ?_)
     refine Exec.buildSlice (Te := 52) (cs := [U (m.Var), U (m.Val)]) bz Z (Qd (c := [U (m.Var), U (m.Val)]) (Qi Z Z) Qg) (fun _ => by kernel_rfl) ?_
     intro cL fZ b0
     have b1 := St.boxArr (E := encFact) (xs := [(⟨m.Var, m.Val⟩ : Fact)]) b0 ⟨[U (m.Var), U (m.Val)], [], rfl, ⟨[U (m.Var)], [U (m.Val)], rfl, rfl, rfl⟩, rfl⟩ (by simp [maxLen])
     obtain ⟨eW, ey, b2, c9⟩ := b1.freezeArr
     obtain ⟨gr, c4, o⟩ := Zg o
     refine G ?_
     refine Tc Z Z Z Z (KC c4 b2 rq c9).r ?_
     rintro _ ga ⟨eX, ez, dO, rfl⟩
     refine G ?_
     rcases Qk o with ⟨bH, o⟩ | ⟨bH, o⟩
     ·refine G ?_
      refine Exec.makeInterface C39 Z Z ?_
      cases o
      have bS := bZ _ (ci (by intro _ h; cases h))
      cases bS
      have bT := bY _ (ch (by intro _ h; cases h))
      cases bT
      refine G ?_
      exact fr
     cases o
     refine G ?_
     exact ⟨_, Z, V⟩
    intro fs dv gb bh cj
    obtain ⟨eY, e0, dP, ⟨dw, rfl⟩⟩ := bh
    refine G ?_
    exact ⟨_, .inl cj, V⟩
   rintro dx gc ⟨ft, ao, bq⟩
   have u := ao.elim (bN _) (b9 _)
   clear ao
   obtain ⟨eZ, e1, dQ, ⟨dy, rfl⟩⟩ := bq
   cases u
   refine G ?_
   exact ⟨_, Z, V⟩
  intro fu dz gd bi ck
  obtain ⟨fa, e2, dR, ⟨d0, rfl⟩⟩ := bi
  refine G ?_
  exact ⟨_, .inl ck, V⟩
 rintro d1 gf ⟨fv, ap, br⟩
 have hm := ap.elim (bM _) (b8 _)
 clear ap
 obtain ⟨aC, e3, b3, ⟨d2, rfl⟩⟩ := br
 obtain ⟨ae, aY, ca, bO, bA⟩ := Qo hm
 refine g ?_
 refine Zc (Zc (Zd (g ?_)))
 refine Qm (M := fun f' w' => ∃ s', (ae = .next s' ∨ ae = .brk s') ∧ (fun (_ : Unit) => ∃ (aD : PHeap) , PHeap.le aC aD ∧ St w0 aD (H) w' ∧ Fx f' [(99, b), (100, U ((d.Ops.length : Int)))]) s') ?_ ?_
 ·refine G ?_
  refine Q2 (fun k' s' f' w' => (fun (_ : Unit) => ∃ (aE : PHeap) , PHeap.le aC aE ∧ St w0 aE (H) w' ∧ Fx f' [(101, U (k' : Int)), (99, b), (100, U ((d.Ops.length : Int)))]) s') aY ?_ ?_ ?_
  ·have dS := b3.drop
   exact V
  ·intro ef fw cT d3 gg ec bj p cl
   obtain ⟨fb, e4, aj, ⟨d4, rfl⟩⟩ := bj
   obtain ⟨gn, c5, p⟩ := Zg p
   refine G ?_
   refine Jk Z Z Z c5 ?_
   intro cM eD aS
   refine G ?_
   refine Zw (E := encOp) aj A48.h Z Z Z aS ?_
   intro fA c6
   obtain ⟨f3, f4, rfl, eK, eL⟩ := KY.1 c6
   refine G ?_
   refine Exec.alloc (cs := [Value.string (⟨#[]⟩), U 0, Vn, Vn]) aj Z48 Z Z ?_
   intro cN gh dT
   refine G ?_
   refine Yo Z Z Z ?_
   intro gi b4
   obtain ⟨gs, c7, p⟩ := Zg p
   refine G ?_
   refine Tc Z Z Z Z (QfN c7 b4).r ?_
   rintro _ gj ⟨fc, e5, dU, rfl⟩
   refine G ?_
   rcases Qk p with ⟨bI, p⟩ | ⟨bI, p⟩
   ·refine G ?_
    refine Exec.makeInterface C39 Z Z ?_
    cases p
    have bU := ca _ (cl (by intro _ h; cases h))
    cases bU
    refine G ?_
    exact fr
   cases p
   refine G ?_
   exact ⟨_, Z, V⟩
  intro fx d5 gk bk cm
  obtain ⟨fd, e6, dV, ⟨d6, rfl⟩⟩ := bk
  refine G ?_
  exact ⟨_, .inl cm, V⟩
 rintro d7 gl ⟨fy, aq, bs⟩
 have hm := aq.elim (bO _) (bA _)
 clear aq
 obtain ⟨fe, e7, dW, ⟨d8, rfl⟩⟩ := bs
 cases hm
 refine G ?_
 exact fr
instance A33 : ATy Tryz.prog 33 true 2 := ⟨by kernel_rfl⟩
theorem QcL {w0 w : World} {s : PHeap} {H : List Res} {a : Int} {r : Bool} (hm : Ky a = some r) (hS : St w0 s (H) w) :
  Calls Tryz.prog 18 #[U a] w fun e w' => ∃ v, e = .returned v ∧ ((fun (i : Bool) => ∃ (b : PHeap) , PHeap.le s b ∧ St w0 b (H) w' ∧ v = Value.bool (i)) r) := by
 unfold Ky at hm
 refine Qb Tryz.func18 Z Z (Zc (Zd (g ?_)))
 refine Zc (Qm (M := fun f' w' => ∃ (c : PHeap) , PHeap.le s c ∧ St w0 c (H) w' ∧ Fx f' [(2, Vb (((decide ((-1) ≤ a)) && decide (a ≤ 1099511627776))))]) ?_ ?_)
 ·refine G ?_
  rcases tf (decide ((-1) ≤ a)) with h | h
  ·refine G ?_
   exact V
  refine G ?_
  exact V
 intro j o d
 obtain ⟨n, m, l, ⟨k, rfl⟩⟩ := d
 cases hm
 refine G ?_
 exact fr
theorem JY {w0 w : World} {s : PHeap} {H : List Res} {b : (List Fact)} {g : Value} {r : (List Fact)} (hm : Jz b = some r) (hS : St w0 s (H) w) (c : SliceRep encFact s g b) :
  Calls Tryz.prog 19 #[g] w fun e w' => ∃ v, e = .returned v ∧ ((fun (q : (List Fact)) => ∃ (f : PHeap) (i : Value), PHeap.le s f ∧ St w0 f (Res.arr encFact 52 i q :: H) w' ∧ v = i) r) := by
 unfold Jz at hm
 refine Qb Tryz.func19 Z Z ?_
 obtain ⟨j, z, u, k, n⟩ := c.nilShape
 refine G ?_
 refine QaU Tryz.underlying23 Z k Z (G ?_)
 rcases tf (j.isNone) with a | a
 ·have o := n a
  replace hm := (show (some []) = ((app 16 [] b).bind fun d => some d) from by simp [o, app]).trans hm
  refine KB ((Zx a)) ?_
  cases hm
  refine G ?_
  refine ⟨_, Qaf Z, ?_⟩
  have x := hS.nilArr encFact 52
  exact V
 refine K6 ((Zx a)) (G ?_)
 refine Exec.buildSlice (Te := 52) (cs := []) hS Z Qg (fun _ => by kernel_rfl) ?_
 intro t ab l
 refine G ?_
 have m := St.boxArr (E := encFact) (xs := []) l rfl (by simp [maxLen])
 obtain ⟨d, p, hm⟩ := Zg hm
 refine G ?_
 refine Kp (E := encFact) (ys := b) m S23.h Z52 Z (by decide) Z Z Z c p ?_
 intro aa ac y
 cases hm
 refine G ?_
 exact fr
instance A62 : ATy Tryz.prog 62 false 1 := ⟨by kernel_rfl⟩
instance S62 : STy Tryz.prog 62 60 3 40 := ⟨by kernel_rfl⟩
theorem N20 : (Tryz.f20.name == "runtime.NumGoroutine") = false := by kernel_rfl
theorem Km {w0 w : World} {s : PHeap} {H : List Res} {a : (List certify_entry)} {b : Value} {r : Int} (hm : Jq a = some r) (hS : St w0 s (Res.arr enccertify_entry 60 b a :: H) w) :
  Calls Tryz.prog 20 #[b] w fun e w' => ∃ v, e = .returned v ∧ ((fun (d : Int) => ∃ (c : PHeap) , PHeap.le s c ∧ St w0 c (Res.arr enccertify_entry 60 b a :: H) w' ∧ v = U d) r) := by
 unfold Jq at hm
 refine Qb Tryz.func20 Z Z (G ?_)
 refine Qv (hS) S62.h Z Z ?_
 cases hm
 refine G ?_
 exact fr
theorem C57 : Tryz.prog.concrete 57 = true := by kernel_rfl
theorem QhG : Y1 Tryz.prog 57 "Len" = some (20, false) := by kernel_rfl
instance A60 : ATy Tryz.prog 60 true 3 := ⟨by kernel_rfl⟩
theorem QlL : (Tryz.f189.name == "runtime.NumGoroutine") = false := by kernel_rfl
theorem Ki {w0 w : World} {s : PHeap} {H : List Res} {n : (List certify_entry)} {l : Int} {m : Int} {d : Value} {r : (List certify_entry)} (hm : Q8 n l m = some r) (hS : St w0 s (Res.arr enccertify_entry 60 d n :: H) w) :
  Calls Tryz.prog 189 #[d, U l, U m] w fun e w' => ∃ v, e = .returned v ∧ ((fun (p : (List certify_entry)) => ∃ (o : PHeap) , PHeap.le s o ∧ St w0 o (Res.arr enccertify_entry 60 d p :: H) w' ∧ v = Value.tuple #[]) r) := by
 unfold Q8 at hm
 refine Qb Tryz.func189 Z Z (KG (n0 := 14) (qs 0 13 (.e 13 [2, 3] .done)) Yp (by kernel_rfl) (by kernel_rfl) ?_)
 obtain ⟨ar, b, hm⟩ := Zg hm
 obtain ⟨ae, aa, f⟩ := (hS.drew).arr_at b
 refine G ?_
 refine Qe S62.h Z f Z (Qf b).1 (Qf b).2.1 ⟨Z, ?_⟩
 refine G ?_
 refine Qs (F := enccertify_entry) (hS.drew) f A60.h Z Z Z b (Sub.refl _) ?_
 intro an q
 obtain ⟨al, rfl, y⟩ := JB.1 q
 refine ⟨Z, ?_⟩
 obtain ⟨au, a, hm⟩ := Zg hm
 obtain ⟨af, ab, g⟩ := (hS.drew).arr_at a
 refine G ?_
 refine Qe S62.h Z g Z (Qf a).1 (Qf a).2.1 ⟨Z, ?_⟩
 refine G ?_
 refine Qs (F := enccertify_entry) (hS.drew) g A60.h Z Z Z a (Sub.refl _) ?_
 intro ao t
 obtain ⟨am, rfl, z⟩ := JB.1 t
 refine ⟨Z, ?_⟩
 obtain ⟨ag, ac, i⟩ := (hS.drew).arr_at a
 refine G ?_
 refine Qe S62.h Z i Z (Qf a).1 (Qf a).2.1 ⟨Z, ?_⟩
 obtain ⟨aj, u, hm⟩ := Zg hm
 refine G ?_
 refine Jd hS.drew i A60.h Z Z Z Z (JB.2 ⟨_, Z, y⟩) u ?_
 intro ap k
 refine ⟨agq, ?_⟩
 obtain ⟨av, c, hm⟩ := Zg hm
 obtain ⟨ah, ad, j⟩ := k.arr_at c
 refine G ?_
 refine Qe S62.h Z j Z (Qf c).1 (Qf c).2.1 ?_
 obtain ⟨ak, x, hm⟩ := Zg hm
 refine G ?_
 refine Jd k j A60.h Z Z Z Z (JB.2 ⟨_, Z, z⟩) x ?_
 intro aq ai
 cases hm
 refine G ?_
 refine ⟨_, Qgn Z, ?_⟩
 exact V
theorem Qem : Y1 Tryz.prog 57 "Swap" = some (189, false) := by kernel_rfl
instance F60_1 : FTy Tryz.prog 60 1 1 := ⟨by kernel_rfl⟩
instance F60_2 : FTy Tryz.prog 60 2 2 := ⟨by kernel_rfl⟩
theorem QlM : (Tryz.f186.name == "runtime.NumGoroutine") = false := by kernel_rfl
end Go.Pw
