/- -/
import Derived.Test.YteiainhbhaodoaaGreatL33
import Derived.Test.YteiainhbhaodoaaGreatL29
import Derived.Test.YteiainhbhaodoaaGreatEgP
import Derived.Test.YteiainhbhaodoaaGreatL8
import Derived.Test.YteiainhbhaodoaaGreatL9
import Derived.Test.YteiainhbhaodoaaGreatL12
import Derived.Test.YteiainhbhaodoaaGreatL14
import Derived.Test.YteiainhbhaodoaaGreatL16
import Derived.Test.YteiainhbhaodoaaGreatL21
import Derived.Test.YteiainhbhaodoaaGreatL18
import Derived.Test.YteiainhbhaodoaaGreatL23
import Derived.Test.YteiainhbhaodoaaGreatL26
import Derived.Test.YteiainhbhaodoaaGreatL30
import Derived.Test.YteiainhbhaodoaaGreatL31
import Derived.Test.YteiainhbhaodoaaGreatL34
import Derived.Test.YteiainhbhaodoaaGreatL35
import Derived.Test.YteiainhbhaodoaaGreatL36
import Derived.Test.YteiainhbhaodoaaGreatL38
import Derived.Test.YteiainhbhaodoaaGreatL39
import Derived.Test.YteiainhbhaodoaaGreatLC
import Derived.Test.YteiainhbhaodoaaGreatL42
import Derived.Test.YteiainhbhaodoaaGreatProg
import Derived.KernelRfl
import Derived.Test.YteiainhbhaodoaaGreatL60
import Derived.Test.YteiainhbhaodoaaGreatL61
set_option maxRecDepth 100000
set_option maxHeartbeats 4000000
set_option linter.unusedVariables false
namespace Go.Pw
open Go.Proofs
attribute [local irreducible] Exec WL W andThen YR DL Jh
theorem QkS : QfC Tryz.prog 155 [0, 1, 138, 139, 140, 141, 142, 143, 144, 145, 146, 147, 148, 149, 150, 151, 152, 153, 154] = true := by kernel_rfl
theorem Tc {ρ : Operand → Value} {o : Oper} {w : World} {K : Value → World → Prop} {Q : Value → World → Prop} {f : FuncId} {args : List Operand} {ts : Array TypeId} {vs : List Value} (ho : o.op = .call { callee := .value (.func f), args := args.toArray, argTypes := ts }) (hc : ρ (.func f) = .func (.func f) #[] #[]) (hlt : Qkw 155 [0, 1, 138, 139, 140, 141, 142, 143, 144, 145, 146, 147, 148, 149, 150, 151, 152, 153, 154] f = true) (hargs : List.map ρ args = vs) (h : Calls Tryz.prog f vs.toArray w fun e w' => ∃ v, e = .returned v ∧ Q v w') (hk : ∀ v w', Q v w' → K v w') : Exec Tryz.prog ρ o w K := Qh3 QkS ho hc hlt hargs h hk
instance A44 : ATy Tryz.prog 44 true 5 := ⟨by kernel_rfl⟩
instance F44_0 : FTy Tryz.prog 44 0 0 := ⟨by kernel_rfl⟩
instance A39 : ATy Tryz.prog 39 false 1 := ⟨by kernel_rfl⟩
instance S39 : STy Tryz.prog 39 72 2 40 := ⟨by kernel_rfl⟩
instance F44_1 : FTy Tryz.prog 44 1 1 := ⟨by kernel_rfl⟩
instance A40 : ATy Tryz.prog 40 false 1 := ⟨by kernel_rfl⟩
instance S40 : STy Tryz.prog 40 74 5 64 := ⟨by kernel_rfl⟩
instance F44_2 : FTy Tryz.prog 44 2 2 := ⟨by kernel_rfl⟩
instance A22 : ATy Tryz.prog 22 false 1 := ⟨by kernel_rfl⟩
instance S22 : STy Tryz.prog 22 3 1 8 := ⟨by kernel_rfl⟩
instance F44_3 : FTy Tryz.prog 44 3 3 := ⟨by kernel_rfl⟩
instance A41 : ATy Tryz.prog 41 false 1 := ⟨by kernel_rfl⟩
instance S41 : STy Tryz.prog 41 85 3 72 := ⟨by kernel_rfl⟩
instance A85 : ATy Tryz.prog 85 true 3 := ⟨by kernel_rfl⟩
instance F85_0 : FTy Tryz.prog 85 0 0 := ⟨by kernel_rfl⟩
instance F85_1 : FTy Tryz.prog 85 1 1 := ⟨by kernel_rfl⟩
instance F85_2 : FTy Tryz.prog 85 2 2 := ⟨by kernel_rfl⟩
instance A83 : ATy Tryz.prog 83 false 1 := ⟨by kernel_rfl⟩
instance S83 : STy Tryz.prog 83 128 7 112 := ⟨by kernel_rfl⟩
theorem KL : Tryz.prog.follows .mixedOrders = true := by kernel_rfl
instance F128_1 : FTy Tryz.prog 128 1 1 := ⟨by kernel_rfl⟩
instance A106 : ATy Tryz.prog 106 true 3 := ⟨by kernel_rfl⟩
instance F128_2 : FTy Tryz.prog 128 2 4 := ⟨by kernel_rfl⟩
instance F106_2 : FTy Tryz.prog 106 2 2 := ⟨by kernel_rfl⟩
instance A104 : ATy Tryz.prog 104 false 1 := ⟨by kernel_rfl⟩
instance S104 : STy Tryz.prog 104 106 3 48 := ⟨by kernel_rfl⟩
theorem Qex {fu : Nat} (ih : ∀ {w0 w : World} {s : PHeap} {H : List Res} {a : GExpr} {c : Value} {r : Int} (hm : JI fu a = some r) (hS : St w0 s (H) w) (y : SliceRep encGExpr s c a.Kids), Calls Tryz.prog 43 #[Value.agg #[Value.string (a.Op), O (a.N), c]] w fun e w' => ∃ v, e = .returned v ∧ ((fun (l : Int) => ∃ (j : PHeap) , PHeap.le s j ∧ St w0 j (H) w' ∧ v = O l) r)) {w0 w : World} {s : PHeap} {H : List Res} {a : GExpr} {c : Value} {r : Int} (hm : JI (fu + 1) a = some r) (hS : St w0 s (H) w) (y : SliceRep encGExpr s c a.Kids) :
  Calls Tryz.prog 43 #[Value.agg #[Value.string (a.Op), O (a.N), c]] w fun e w' => ∃ v, e = .returned v ∧ ((fun (l : Int) => ∃ (j : PHeap) , PHeap.le s j ∧ St w0 j (H) w' ∧ v = O l) r) := by
 rw [JI] at hm
 refine Ql Tryz.func43 Z Z (G ?_)
 refine JH Z Z ?_
 intro d aF a0
 obtain ⟨m, aa, a4, ah, ae⟩ := Qu hm
 refine g ?_
 refine Zc (Zd (g ?_))
 refine Zc (Zc (Zd (g ?_)))
 refine Qs (M := fun f' w' => ∃ s', (m = .next s' ∨ m = .brk s') ∧ (QO fun (q : Int) (p : Int) => ∃ (u : PHeap) , PHeap.le s u ∧ St w0 u (Res.box d 106 [Value.string (a.Op), O (a.N), c] :: H) w' ∧ Fx f' [(1, Vq d), (3, O q), (4, O p)]) s') ?_ ?_
 ·refine G ?_
  refine Ym (fun s' f' w' => (QO fun (k : Int) (i : Int) => ∃ (t : PHeap) , PHeap.le s t ∧ St w0 t (Res.box d 106 [Value.string (a.Op), O (a.N), c] :: H) w' ∧ Fx f' [(1, Vq d), (3, O k), (4, O i)]) s') aa ?_ ?_
  ·exact fq
  intro ao ar au aG ab b ai
  obtain ⟨k, i⟩ := ao
  replace b := Q3 b
  obtain ⟨an, a5, a1, ⟨av, rfl⟩⟩ := ab
  refine Zc (Zc (Qs (M := fun f' w' => ∃ (x : PHeap) , PHeap.le an x ∧ St w0 x (Res.box d 106 [Value.string (a.Op), O (a.N), c] :: H) w' ∧ Fx f' [(1, Vq d), (3, O k), (4, O i), (13, Vb (((decide (i < (a.Kids.length : Int))) && decide (k < 2000))))]) ?_ ?_))
  ·refine G ?_
   rcases tf (decide (i < (a.Kids.length : Int))) with af | af
   ·refine G ?_
    exact fq
   refine G ?_
   exact fq
  intro aw aH ac
  obtain ⟨aA, a6, n, ⟨ax, rfl⟩⟩ := ac
  refine G ?_
  rcases Qv b with ⟨ag, b⟩ | ⟨ag, b⟩
  ·obtain ⟨aK, aj, b⟩ := Zg b
   refine G ?_
   refine QI Z Z Z aj ?_
   intro aq a9 z
   refine G ?_
   refine Zw (E := encGExpr) n A106.h Z Z Z z ?_
   intro aE ak
   obtain ⟨aD, rfl, am⟩ := Kc.1 ak
   obtain ⟨aL, al, b⟩ := Zg b
   refine G ?_
   refine Tc Z Z Z Z (ih al n am).r ?_
   rintro _ aI ⟨aB, a7, a2, rfl⟩
   cases b
   refine G ?_
   exact ⟨_, Z, fq⟩
  cases b
  refine G ?_
  exact ⟨_, .inr (ai (by intro _ h; cases h)), fq⟩
 rintro ay aJ ⟨ap, o, ad⟩
 have hm := o.elim (ah _) (ae _)
 clear o
 obtain ⟨q, p⟩ := ap
 replace hm := Q3 hm
 obtain ⟨aC, a8, a3, ⟨az, rfl⟩⟩ := ad
 cases hm
 refine G ?_
 exact fr
theorem Qbb {fu : Nat} : ∀ {w0 w : World} {s : PHeap} {H : List Res} {a : GExpr} {c : Value} {r : Int} (hm : JI fu a = some r) (hS : St w0 s (H) w) (f : SliceRep encGExpr s c a.Kids), Calls Tryz.prog 43 #[Value.agg #[Value.string (a.Op), O (a.N), c]] w fun e w' => ∃ v, e = .returned v ∧ ((fun (d : Int) => ∃ (b : PHeap) , PHeap.le s b ∧ St w0 b (H) w' ∧ v = O d) r) := by
 induction fu with
 | zero => intros; rename_i hm _ _; rw [JI] at hm; cases hm
 | succ fu ih => exact Qex ih
theorem Qa8 {w0 w : World} {s : PHeap} {H : List Res} {fu : Nat} {c76 : Cond} {v77 : Value} {v79 : Value} {v81 : Value} {r : Int} (hm : K4 fu c76 = some r) (hS : St w0 s (H) w) (a78 : SliceRep (Qc .i64) s v77 c76.Pos) (a80 : SliceRep (Qc .i64) s v79 c76.Neg) (a82 : SliceRep encGTest s v81 c76.Tests) :
  Calls Tryz.prog 42 #[Value.agg #[v77, v79, v81]] w fun e w' => ∃ v, e = .returned v ∧ ((fun (y84 : Int) => ∃ (t : PHeap) , PHeap.le s t ∧ St w0 t (H) w' ∧ v = O y84) r) := by
 unfold K4 at hm
 refine Ql Tryz.func42 Z Z (G ?_)
 refine JH Z Z ?_
 intro c aI a1
 obtain ⟨k, ac, a4, ah, af⟩ := Qu hm
 refine g ?_
 refine Zc (Zd (g ?_))
 refine Zc (Zc (Zd (g ?_)))
 refine Qs (M := fun f' w' => ∃ s', (k = .next s' ∨ k = .brk s') ∧ (QO fun (o : Int) (m : Int) => ∃ (u : PHeap) , PHeap.le s u ∧ St w0 u (Res.box c 85 [v77, v79, v81] :: H) w' ∧ Fx f' [(1, Vq c), (3, O o), (4, O m)]) s') ?_ ?_
 ·refine G ?_
  refine Ym (fun s' f' w' => (QO fun (j : Int) (i : Int) => ∃ (x : PHeap) , PHeap.le s x ∧ St w0 x (Res.box c 85 [v77, v79, v81] :: H) w' ∧ Fx f' [(1, Vq c), (3, O j), (4, O i)]) s') ac ?_ ?_
  ·exact fq
  intro ap av ax aJ ad a ai
  obtain ⟨j, i⟩ := ap
  replace a := Q3 a
  obtain ⟨aA, n, b, ⟨ay, rfl⟩⟩ := ad
  refine G ?_
  rcases Qv a with ⟨ag, a⟩ | ⟨ag, a⟩
  ·refine G ?_
   refine KM (n0 := 17) (qs 0 7 (qs 8 6 (.e 7 [0, 8, 9, 10, 11, 12, 13] (.e 14 [0] (.q 15 (.q 16 .done)))))) KL (by kernel_rfl) (by kernel_rfl) (G ?_)
   refine Zn (b.drew) A83.h Z Z Z ⟨Z, ?_⟩
   obtain ⟨aN, p, a⟩ := Zg a
   refine G ?_
   refine Q1 S83.h Z Z Z (a82.mono n) p ?_
   intro ar a7 y aw
   refine ⟨Z, ?_⟩
   refine G ?_
   refine Zw (E := encGExpr) b.drew A106.h Z Z Z (y.sub (Sub.iso (QD (Sub.fst (Sub.refl _)) Z)) Z) ?_
   intro aG ak
   obtain ⟨aE, rfl, ao⟩ := Kc.1 ak
   refine ⟨Z, ?_⟩
   refine G ?_
   refine Zn (b.drew) A83.h Z Z Z ⟨Z, ?_⟩
   refine G ?_
   refine Q1 S83.h Z Z Z (a82.mono n) p ?_
   intro au a8 z aa
   refine ⟨Z, ?_⟩
   refine G ?_
   refine QcV (E := encGExpr) b.drew A106.h Z Z Z (z.sub (Sub.iso (QD (QD (Sub.refl _) Z) Z)) Z) ?_
   intro aH al ab
   obtain ⟨aF, rfl, a9⟩ := Kc.1 al
   refine ⟨Z, ?_⟩
   obtain ⟨aO, am, a⟩ := Zg a
   refine G ?_
   refine Tc Z Z Z Z (Qbb am b.drew ao).r ?_
   rintro _ aK ⟨aB, aj, d, rfl⟩
   refine ⟨(Qa (U Z Z (Zm (v := O j) Z Z ⟨Z, Z⟩)) (Qa (U Z Z (Zp F85_2.h Z Z Z ⟨Z, Z⟩)) (Qa (U Z Z (Zn (d) A83.h Z Z Z ⟨Z, Z⟩)) (Qa (U Z Z (Zm (v := O i) Z Z ⟨Z, Z⟩)) (Qa (U Z Z (Qct Z Z Z aa ⟨Z, Z⟩)) (Qa (U Z Z (Zp F128_2.h Z Z Z ⟨Z, Z⟩)) (Qa (U Z Z (QcU Z Z (ab aj d) ⟨Z, Z⟩)) Qi))))))), ?_⟩
   obtain ⟨aP, an, a⟩ := Zg a
   refine G ?_
   refine Tc Z Z Z Z (Qbb an d rq).r ?_
   rintro _ aL ⟨aC, a5, a2, rfl⟩
   refine ⟨agq, ?_⟩
   cases a
   refine G ?_
   exact ⟨_, Z, fq⟩
  cases a
  refine G ?_
  exact ⟨_, .inr (ai (by intro _ h; cases h)), fq⟩
 rintro az aM ⟨aq, l, ae⟩
 have hm := l.elim (ah _) (af _)
 clear l
 obtain ⟨o, m⟩ := aq
 replace hm := Q3 hm
 obtain ⟨aD, a6, a3, ⟨a0, rfl⟩⟩ := ae
 cases hm
 refine G ?_
 exact fr
instance F44_4 : FTy Tryz.prog 44 4 4 := ⟨by kernel_rfl⟩
instance A42 : ATy Tryz.prog 42 false 1 := ⟨by kernel_rfl⟩
instance S42 : STy Tryz.prog 42 92 7 144 := ⟨by kernel_rfl⟩
instance A92 : ATy Tryz.prog 92 true 7 := ⟨by kernel_rfl⟩
theorem Z92 : JF Tryz.prog 92 = some (Value.agg #[Value.string ⟨#[]⟩, O 0, Value.slice none 0 0, Value.slice none 0 0, Value.slice none 0 0, Value.slice none 0 0, Value.slice none 0 0]) := by kernel_rfl
instance F92_2 : FTy Tryz.prog 92 2 2 := ⟨by kernel_rfl⟩
instance F92_0 : FTy Tryz.prog 92 0 0 := ⟨by kernel_rfl⟩
instance A9 : ATy Tryz.prog 9 false 1 := ⟨by kernel_rfl⟩
instance F92_3 : FTy Tryz.prog 92 3 5 := ⟨by kernel_rfl⟩
instance A89 : ATy Tryz.prog 89 false 1 := ⟨by kernel_rfl⟩
instance S89 : STy Tryz.prog 89 97 5 88 := ⟨by kernel_rfl⟩
instance F97_0 : FTy Tryz.prog 97 0 0 := ⟨by kernel_rfl⟩
instance F92_4 : FTy Tryz.prog 92 4 6 := ⟨by kernel_rfl⟩
instance A90 : ATy Tryz.prog 90 false 1 := ⟨by kernel_rfl⟩
instance S90 : STy Tryz.prog 90 108 4 56 := ⟨by kernel_rfl⟩
instance F108_1 : FTy Tryz.prog 108 1 1 := ⟨by kernel_rfl⟩
theorem Qey {w0 w : World} {s : PHeap} {H : List Res} {fu : Nat} {g42 : Ground} {v43 : Value} {v45 : Value} {v47 : Value} {v49 : Value} {v51 : Value} {r : Bool} (hm : YD fu g42 = some r) (hS : St w0 s (H) w) (a44 : SliceRep encAtom s v43 g42.Atoms) (a46 : SliceRep encGFluent s v45 g42.Fluents) (a48 : SliceRep (Qc .i64) s v47 g42.Init) (a50 : SliceRep encCond s v49 g42.Goal) (a52 : SliceRep encGOp s v51 g42.Ops) :
  Calls Tryz.prog 17 #[Value.agg #[v43, v45, v47, v49, v51]] w fun e w' => ∃ v, e = .returned v ∧ ((fun (y54 : Bool) => ∃ (a1 : PHeap) , PHeap.le s a1 ∧ St w0 a1 (H) w' ∧ v = Value.bool (y54)) r) := by
 unfold YD at hm
 refine Ql Tryz.func17 Z Z (G ?_)
 refine JH Z Z ?_
 intro b cU cd
 obtain ⟨y, aH, cn, bc, aU⟩ := Qu hm
 refine g ?_
 refine Zc (Zd (g ?_))
 refine Zc (Zc (Zd (g ?_)))
 refine Qs (M := fun f' w' => ∃ s', (y = .next s' ∨ y = .brk s') ∧ (QO fun (au : Int) (al : Int) => ∃ (a2 : PHeap) , PHeap.le s a2 ∧ St w0 a2 (Res.box b 44 [v43, v45, v47, v49, v51] :: H) w' ∧ Fx f' [(1, Vq b), (3, O au), (4, O al)]) s') ?_ ?_
 ·refine G ?_
  refine Ym (fun s' f' w' => (QO fun (av : Int) (am : Int) => ∃ (a3 : PHeap) , PHeap.le s a3 ∧ St w0 a3 (Res.box b 44 [v43, v45, v47, v49, v51] :: H) w' ∧ Fx f' [(1, Vq b), (3, O av), (4, O am)]) s') aH ?_ ?_
  ·exact fq
  intro b7 bJ bN cV aL c bg
  obtain ⟨av, am⟩ := b7
  replace c := Q3 c
  obtain ⟨cA, cr, ac, ⟨bO, rfl⟩⟩ := aL
  refine G ?_
  rcases Qv c with ⟨aY, c⟩ | ⟨aY, c⟩
  ·obtain ⟨dj, bk, c⟩ := Zg c
   refine G ?_
   refine QI Z Z Z bk ?_
   intro bF c4 aD
   refine G ?_
   refine Zw (E := encCond) ac A85.h Z Z Z aD ?_
   intro cQ bl
   obtain ⟨cJ, cK, cL, rfl, bw, bx, bz⟩ := KJ.1 bl
   obtain ⟨dm, bm, c⟩ := Zg c
   refine G ?_
   refine Tc Z Z Z Z (Qa8 bm ac bw bx bz).r ?_
   rintro _ cW ⟨cB, ct, ce, rfl⟩
   cases c
   refine G ?_
   exact ⟨_, Z, fq⟩
  cases c
  refine G ?_
  exact ⟨_, .inr (bg (by intro _ h; cases h)), fq⟩
 rintro bP cX ⟨b8, ah, aP⟩
 have hm := ah.elim (bc _) (aU _)
 clear ah
 obtain ⟨au, al⟩ := b8
 replace hm := Q3 hm
 obtain ⟨a4, cu, cf, ⟨bQ, rfl⟩⟩ := aP
 obtain ⟨z, aI, co, bd, aV⟩ := Qu hm
 refine g ?_
 refine Zc (Zc (Zd (g ?_)))
 refine Qs (M := fun f' w' => ∃ s', (z = .next s' ∨ z = .brk s') ∧ (QO fun (aw : Int) (an : Int) => ∃ (a5 : PHeap) , PHeap.le a4 a5 ∧ St w0 a5 (Res.box b 44 [v43, v45, v47, v49, v51] :: H) w' ∧ Fx f' [(1, Vq b), (3, O aw), (5, O an)]) s') ?_ ?_
 ·refine G ?_
  refine Ym (fun s' f' w' => (QO fun (x : Int) (l : Int) => ∃ (a6 : PHeap) , PHeap.le a4 a6 ∧ St w0 a6 (Res.box b 44 [v43, v45, v47, v49, v51] :: H) w' ∧ Fx f' [(1, Vq b), (3, O x), (5, O l)]) s') aI ?_ ?_
  ·exact fq
  intro b9 bK bR cY aM a bh
  obtain ⟨x, l⟩ := b9
  replace a := Q3 a
  obtain ⟨cC, cv, ad, ⟨bS, rfl⟩⟩ := aM
  refine G ?_
  rcases Qv a with ⟨aZ, a⟩ | ⟨aZ, a⟩
  ·obtain ⟨k, bn, a⟩ := Zg a
   refine G ?_
   refine QI Z Z Z bn ?_
   intro bG c5 aE
   refine G ?_
   refine Zw (E := encGOp) ad A92.h Z Z Z aE ?_
   intro cR bo
   obtain ⟨m, n, o, p, t, rfl, b0, b1, b2, c8, c9⟩ := Ys.1 bo
   refine G ?_
   refine Exec.alloc (cs := [Value.string (⟨#[]⟩), O 0, Vn, Vn, Vn, Vn, Vn]) ad Z92 Z Z ?_
   intro j cZ cg
   refine G ?_
   refine Xst Z Z Z ?_
   intro da u
   refine G ?_
   refine KM (n0 := 11) (qs 0 3 (qs 5 4 (.e 3 [0, 5, 6, 7, 8] (.q 4 (.q 9 (.q 10 .done)))))) KL (by kernel_rfl) (by kernel_rfl) (G ?_)
   refine Jy (ds := [m, n, o]) (u.drew) A85.h Z Z Z ⟨Z, ?_⟩
   refine G ?_
   refine Zn (u.drew) A9.h Z Z Z ⟨Z, ?_⟩
   refine G ?_
   refine Y0 Tryz.underlying9 Z Z ⟨Z, ?_⟩
   refine G ?_
   refine Exec.quo Z Z Z (by decide) ⟨Z, ?_⟩
   obtain ⟨dn, bp, a⟩ := Zg a
   refine G ?_
   refine Tc Z Z Z Z (Qa8 bp u.drew b0 b1 b2).r ?_
   rintro _ db ⟨a7, cw, ae, rfl⟩
   refine ⟨(Qa (U Z Z (Zm (v := O x) Z Z ⟨Z, Z⟩)) (Qa (U Z Z (Zp F92_0.h Z Z Z ⟨Z, Z⟩)) (Qa (U Z Z (Zn (ae) A9.h Z Z Z ⟨Z, Z⟩)) (Qa (U Z Z (Y0 Tryz.underlying9 Z Z ⟨Z, Z⟩)) (Qa (U Z Z (Exec.quo Z Z Z (by decide) ⟨Z, Z⟩)) Qi))))), ?_⟩
   obtain ⟨aa, aJ, cp, be, aW⟩ := Qu a
   refine g ?_
   refine Zc (Zc (Zd (g ?_)))
   refine Qs (M := fun f' w' => ∃ s', (aa = .next s' ∨ aa = .brk s') ∧ (QO fun (ax : Int) (ao : Int) => ∃ (a8 : PHeap) , PHeap.le a7 a8 ∧ St w0 a8 (Res.box b 44 [v43, v45, v47, v49, v51] :: Res.box j 92 [Value.string (k.Name), O (k.Cost), m, n, o, p, t] :: H) w' ∧ Fx f' [(1, Vq b), (3, O ax), (5, O l), (6, Vq j), (7, O ao)]) s') ?_ ?_
   ·refine G ?_
    refine Ym (fun s' f' w' => (QO fun (ay : Int) (ap : Int) => ∃ (a9 : PHeap) , PHeap.le a7 a9 ∧ St w0 a9 (Res.box b 44 [v43, v45, v47, v49, v51] :: Res.box j 92 [Value.string (k.Name), O (k.Cost), m, n, o, p, t] :: H) w' ∧ Fx f' [(1, Vq b), (3, O ay), (5, O l), (6, Vq j), (7, O ap)]) s') aJ ?_ ?_
    ·have ch := ae.f1
     exact fq
    intro bA bL bT dc aN d bi
    obtain ⟨ay, ap⟩ := bA
    replace d := Q3 d
    obtain ⟨cD, cx, af, ⟨bU, rfl⟩⟩ := aN
    refine G ?_
    rcases Qv d with ⟨ba, d⟩ | ⟨ba, d⟩
    ·obtain ⟨dk, bq, d⟩ := Zg d
     refine G ?_
     refine QI Z Z Z bq ?_
     intro bH c6 aF
     refine G ?_
     refine Zw (E := encCond) af A85.h Z Z Z (aF.sub (Sub.iso (Sub.fst (Sub.refl _))) Z) ?_
     intro cS br
     obtain ⟨cM, cN, cO, rfl, b3, b4, b5⟩ := KJ.1 br
     obtain ⟨dp, bs, d⟩ := Zg d
     refine G ?_
     refine Tc Z Z Z Z (Qa8 bs af b3 b4 b5).r ?_
     rintro _ dd ⟨cE, cy, ci, rfl⟩
     cases d
     refine G ?_
     exact ⟨_, Z, fq⟩
    cases d
    refine G ?_
    exact ⟨_, .inr (bi (by intro _ h; cases h)), fq⟩
   rintro bV de ⟨bB, ai, aQ⟩
   have a := ai.elim (be _) (aW _)
   clear ai
   obtain ⟨ax, ao⟩ := bB
   replace a := Q3 a
   obtain ⟨aA, cz, aT, ⟨bW, rfl⟩⟩ := aQ
   obtain ⟨ab, aK, cq, bf, aX⟩ := Qu a
   refine g ?_
   refine Zc (Zd (g ?_))
   refine Qs (M := fun f' w' => ∃ s', (ab = .next s' ∨ ab = .brk s') ∧ (QO fun (az : Int) (aq : Int) => ∃ (aB : PHeap) , PHeap.le aA aB ∧ St w0 aB (Res.box b 44 [v43, v45, v47, v49, v51] :: Res.box j 92 [Value.string (k.Name), O (k.Cost), m, n, o, p, t] :: H) w' ∧ Fx f' [(1, Vq b), (3, O az), (5, O l), (6, Vq j), (8, O aq)]) s') ?_ ?_
   ·refine G ?_
    refine Ym (fun s' f' w' => (QO fun (a0 : Int) (ar : Int) => ∃ (aC : PHeap) , PHeap.le aA aC ∧ St w0 aC (Res.box b 44 [v43, v45, v47, v49, v51] :: Res.box j 92 [Value.string (k.Name), O (k.Cost), m, n, o, p, t] :: H) w' ∧ Fx f' [(1, Vq b), (3, O a0), (5, O l), (6, Vq j), (8, O ar)]) s') aK ?_ ?_
    ·have cj := aT.f1
     exact fq
    intro bC bM bX df aO i bj
    obtain ⟨a0, ar⟩ := bC
    replace i := Q3 i
    obtain ⟨cF, c0, ag, ⟨bY, rfl⟩⟩ := aO
    refine G ?_
    rcases Qv i with ⟨bb, i⟩ | ⟨bb, i⟩
    ·obtain ⟨dl, bt, i⟩ := Zg i
     refine G ?_
     refine QI Z Z Z bt ?_
     intro bI c7 aG
     refine G ?_
     refine Zw (E := encGExpr) ag A106.h Z Z Z (aG.sub (Sub.iso (QD (Sub.refl _) Z)) Z) ?_
     intro cT bu
     obtain ⟨cP, rfl, b6⟩ := Kc.1 bu
     obtain ⟨dq, bv, i⟩ := Zg i
     refine G ?_
     refine Tc Z Z Z Z (Qbb bv ag b6).r ?_
     rintro _ dg ⟨cG, c1, ck, rfl⟩
     cases i
     refine G ?_
     exact ⟨_, Z, fq⟩
    cases i
    refine G ?_
    exact ⟨_, .inr (bj (by intro _ h; cases h)), fq⟩
   rintro bZ dh ⟨bD, aj, aR⟩
   have a := aj.elim (bf _) (aX _)
   clear aj
   obtain ⟨az, aq⟩ := bD
   replace a := Q3 a
   obtain ⟨cH, c2, cl, ⟨ca, rfl⟩⟩ := aR
   cases a
   refine G ?_
   exact ⟨_, Z, fq⟩
  cases a
  refine G ?_
  exact ⟨_, .inr (bh (by intro _ h; cases h)), fq⟩
 rintro cb di ⟨bE, ak, aS⟩
 have hm := ak.elim (bd _) (aV _)
 clear ak
 obtain ⟨aw, an⟩ := bE
 replace hm := Q3 hm
 obtain ⟨cI, c3, cm, ⟨cc, rfl⟩⟩ := aS
 cases hm
 refine G ?_
 exact fr
instance A74 : ATy Tryz.prog 74 true 5 := ⟨by kernel_rfl⟩
theorem Z74 : JF Tryz.prog 74 = some (Value.agg #[Value.string ⟨#[]⟩, Value.slice none 0 0, O 0, O 0, O 0]) := by kernel_rfl
instance F74_1 : FTy Tryz.prog 74 1 2 := ⟨by kernel_rfl⟩
instance A3 : ATy Tryz.prog 3 false 1 := ⟨by kernel_rfl⟩
instance F74_2 : FTy Tryz.prog 74 2 3 := ⟨by kernel_rfl⟩
instance A97 : ATy Tryz.prog 97 true 5 := ⟨by kernel_rfl⟩
theorem Z97 : JF Tryz.prog 97 = some (Value.agg #[Value.slice none 0 0, Value.slice none 0 0, Value.slice none 0 0, O 0, Value.bool false]) := by kernel_rfl
theorem Qev {w0 w : World} {s : PHeap} {H : List Res} {a : Ground} {x : Value} {i : Value} {y : Value} {z : Value} {d : Value} {r : Bool} (hm : YB a = some r) (hS : St w0 s (H) w) (bb : SliceRep encAtom s x a.Atoms) (bc : SliceRep encGFluent s i a.Fluents) (bd : SliceRep (Qc .i64) s y a.Init) (be : SliceRep encCond s z a.Goal) (bf : SliceRep encGOp s d a.Ops) :
  Calls Tryz.prog 18 #[Value.agg #[x, i, y, z, d]] w fun e w' => ∃ v, e = .returned v ∧ ((fun (ba : Bool) => ∃ (am : PHeap) , PHeap.le s am ∧ St w0 am (H) w' ∧ v = Value.bool (ba)) r) := by
 unfold YB at hm
 refine Ql Tryz.func18 Z Z (G ?_)
 refine JH Z Z ?_
 intro l cw b5
 obtain ⟨c, a3, hm⟩ := Zg hm
 refine G ?_
 refine QS (fun k' s' f' w' => (fun (c : Int) => ∃ (an : PHeap) , PHeap.le s an ∧ St w0 an (Res.box l 44 [x, i, y, z, d] :: H) w' ∧ Fx f' [(16, O (k' : Int)), (1, Vq l), (3, O c), (4, O 0), (14, i), (15, O ((a.Fluents.length : Int)))]) s') a3 ?_ ?_ ?_
 ·exact fq
 ·intro al c ci bk cx bJ a6 o
  obtain ⟨aT, bM, ai, ⟨bl, rfl⟩⟩ := a6
  obtain ⟨b, aN, o⟩ := Zg o
  refine G ?_
  refine QI Z Z Z aN ?_
  intro bg bW a0
  refine G ?_
  refine Zw (E := encGFluent) ai A74.h Z Z Z a0 ?_
  intro ct aO
  obtain ⟨aZ, rfl, bZ⟩ := Qad.1 aO
  refine G ?_
  refine Exec.alloc (cs := [Value.string (⟨#[]⟩), Vn, O 0, O 0, O 0]) ai Z74 Z Z ?_
  intro ah cy b6
  refine G ?_
  refine Xst Z Z Z ?_
  intro cz b7
  refine g ?_
  refine Zc (Zd (g ?_))
  refine Zc (Zc (Qs (M := fun f' w' => ∃ (ao : PHeap) , PHeap.le aT ao ∧ St w0 ao (Res.box l 44 [x, i, y, z, d] :: Res.box ah 74 [Value.string (b.Fluent.Name), aZ, O (b.Lo), O (b.Hi), O (b.Init)] :: H) w' ∧ Fx f' [(1, Vq l), (3, O c), (4, O 0), (6, Vq ah), (7, O 256), (14, i), (15, O ((a.Fluents.length : Int))), (16, O ((al : Int))), (34, Vb (((decide ((-1099511627776) ≤ b.Lo)) && ((decide (b.Lo ≤ b.Hi)) && decide (b.Hi ≤ 1099511627776)))))]) ?_ ?_))
  ·refine G ?_
   rcases tf (decide ((-1099511627776) ≤ b.Lo)) with aH | aH
   ·refine G ?_
    rcases tf (decide (b.Lo ≤ b.Hi)) with aI | aI
    ·refine G ?_
     exact fq
    refine G ?_
    exact fq
   refine G ?_
   exact fq
  intro bm c0 aC
  obtain ⟨aU, bN, b8, ⟨bn, rfl⟩⟩ := aC
  obtain ⟨ag, q, o⟩ := Zg o
  refine g ?_
  refine Qs (M := fun f' w' => (fun (ag : Int) => ∃ (ap : PHeap) , PHeap.le aU ap ∧ St w0 ap (Res.box l 44 [x, i, y, z, d] :: H) w' ∧ Fx f' [(1, Vq l), (3, O c), (4, O 0), (7, O ag), (14, i), (15, O ((a.Fluents.length : Int))), (16, O ((al : Int)))]) ag) ?_ ?_
  ·rcases Qv q with ⟨aJ, q⟩ | ⟨aJ, q⟩
   ·refine G ?_
    refine Qc7 Z Z Z ?_
    cases q
    refine G ?_
    exact fq
   cases q
   refine G ?_
   exact fq
  intro bo c1 aD
  obtain ⟨cj, bO, b9, ⟨bp, rfl⟩⟩ := aD
  refine G ?_
  refine Qc7 Z Z Z ?_
  cases o
  refine G ?_
  exact fq
 intro bq c2 a7
 obtain ⟨aV, bP, aG, ⟨br, rfl⟩⟩ := a7
 obtain ⟨m, a4, hm⟩ := Zg hm
 refine G ?_
 refine QS (fun k' s' f' w' => (fun (m : Int) => ∃ (aq : PHeap) , PHeap.le aV aq ∧ St w0 aq (H) w' ∧ Fx f' [(50, O (k' : Int)), (3, O c), (4, O m), (48, d), (49, O ((a.Ops.length : Int)))]) s') a4 ?_ ?_ ?_
 ·have bA := aG.drop
  exact fq
 ·intro af m ck bs c3 bK a8 j
  obtain ⟨aW, bQ, aj, ⟨bt, rfl⟩⟩ := a8
  obtain ⟨n, aP, j⟩ := Zg j
  refine G ?_
  refine QI Z Z Z aP ?_
  intro bh bX a1
  refine G ?_
  refine Zw (E := encGOp) aj A92.h Z Z Z a1 ?_
  intro cu aQ
  obtain ⟨aw, ax, ay, ab, az, rfl, ca, cb, cc, cd, ce⟩ := Ys.1 aQ
  refine G ?_
  refine Exec.alloc (cs := [Value.string (⟨#[]⟩), O 0, Vn, Vn, Vn, Vn, Vn]) aj Z92 Z Z ?_
  intro aa c4 bB
  refine G ?_
  refine Xst Z Z Z ?_
  intro c5 bC
  obtain ⟨ac, a5, j⟩ := Zg j
  refine G ?_
  refine QS (fun k' s' f' w' => (fun (ac : Int) => ∃ (ar : PHeap) , PHeap.le aW ar ∧ St w0 ar (Res.box aa 92 [Value.string (n.Name), O (n.Cost), aw, ax, ay, ab, az] :: H) w' ∧ Fx f' [(57, O (k' : Int)), (3, O c), (4, O m), (9, Vq aa), (10, O ac), (48, d), (49, O ((a.Ops.length : Int))), (50, O ((af : Int))), (55, ab), (56, O ((n.Changes.length : Int)))]) s') a5 ?_ ?_ ?_
  ·exact fq
  ·intro aM ac cl bu c6 bL a9 p
   obtain ⟨aX, bR, ak, ⟨bv, rfl⟩⟩ := a9
   obtain ⟨cD, aR, p⟩ := Zg p
   refine G ?_
   refine QI Z Z Z aR ?_
   intro bi bY a2
   refine G ?_
   refine Zw (E := encGChange) ak A97.h Z Z Z a2 ?_
   intro cv aS
   obtain ⟨cp, cq, cr, rfl, cf, cg, ch⟩ := Ji.1 aS
   refine G ?_
   refine Exec.alloc (cs := [Vn, Vn, Vn, O 0, Vb false]) ak Z97 Z Z ?_
   intro bj c7 bD
   refine G ?_
   refine Xst Z Z Z ?_
   intro c8 bE
   obtain ⟨ad, t, p⟩ := Zg p
   refine g ?_
   refine Zc (Zd (g ?_))
   refine Zc (Zd (g ?_))
   refine Qs (M := fun f' w' => (fun (ad : Int) => ∃ (au : PHeap) , PHeap.le aX au ∧ St w0 au (Res.box aa 92 [Value.string (n.Name), O (n.Cost), aw, ax, ay, ab, az] :: H) w' ∧ Fx f' [(3, O c), (4, O m), (9, Vq aa), (10, O ad), (48, d), (49, O ((a.Ops.length : Int))), (50, O ((af : Int))), (55, ab), (56, O ((n.Changes.length : Int))), (57, O ((aM : Int)))]) ad) ?_ ?_
   ·rcases Qv t with ⟨aK, t⟩ | ⟨aK, t⟩
    ·cases t
     refine G ?_
     exact fq
    cases t
    refine G ?_
    exact fq
   intro bw c9 aE
   obtain ⟨cm, bS, bF, ⟨bx, rfl⟩⟩ := aE
   cases p
   refine G ?_
   exact fq
  intro bz cA aA
  obtain ⟨aY, bT, bG, ⟨b0, rfl⟩⟩ := aA
  obtain ⟨ae, u, j⟩ := Zg j
  refine Zc (Zd (g ?_))
  refine Zc (KQ (Zx (decide_eq_false (by omega))) (Qcl (K8 (K8 (QaI (Ze (Zc (Zc (Zd (g ?_))))))))))
  refine Qs (M := fun f' w' => (fun (ae : Int) => ∃ (av : PHeap) , PHeap.le aY av ∧ St w0 av (H) w' ∧ Fx f' [(3, O c), (4, O m), (10, O ae), (48, d), (49, O ((a.Ops.length : Int))), (50, O ((af : Int)))]) ae) ?_ ?_
  ·rcases Qv u with ⟨aL, u⟩ | ⟨aL, u⟩
   ·cases u
    refine G ?_
    exact fq
   cases u
   refine G ?_
   exact fq
  intro b1 cB aF
  obtain ⟨cn, bU, bH, ⟨b2, rfl⟩⟩ := aF
  cases j
  refine G ?_
  exact fq
 intro b3 cC aB
 obtain ⟨co, bV, bI, ⟨b4, rfl⟩⟩ := aB
 cases hm
 refine G ?_
 exact fr
theorem Qew {w0 w : World} {s : PHeap} {H : List Res} {fu : Nat} {g23 : Ground} {v24 : Value} {v26 : Value} {v28 : Value} {v30 : Value} {v32 : Value} {r : Bool} (hm : YC fu g23 = some r) (hS : St w0 s (H) w) (a25 : SliceRep encAtom s v24 g23.Atoms) (a27 : SliceRep encGFluent s v26 g23.Fluents) (a29 : SliceRep (Qc .i64) s v28 g23.Init) (a31 : SliceRep encCond s v30 g23.Goal) (a33 : SliceRep encGOp s v32 g23.Ops) :
  Calls Tryz.prog 10 #[Value.agg #[v24, v26, v28, v30, v32]] w fun e w' => ∃ v, e = .returned v ∧ ((fun (y35 : Bool) => ∃ (c : PHeap) , PHeap.le s c ∧ St w0 c (H) w' ∧ v = Value.bool (y35)) r) := by
 unfold YC at hm
 refine Ql Tryz.func10 Z Z (G ?_)
 refine JH Z Z ?_
 intro q af i
 obtain ⟨b, a, hm⟩ := Zg hm
 refine g ?_
 refine Zc (Qs (M := fun f' w' => (fun (b : Bool) => ∃ (d : PHeap) , PHeap.le s d ∧ St w0 d (H) w' ∧ Fx f' [(2, Vb b)]) b) ?_ ?_)
 ·obtain ⟨aj, o, a⟩ := Zg a
  refine G ?_
  refine Tc Z Z Z Z (Qey o i a25 a27 a29 a31 a33).r ?_
  rintro _ ag ⟨ac, z, j, rfl⟩
  refine G ?_
  rcases Qv a with ⟨k, a⟩ | ⟨k, a⟩
  ·cases a
   refine G ?_
   exact fq
  refine G ?_
  rcases Qv a with ⟨l, a⟩ | ⟨l, a⟩
  ·cases a
   refine G ?_
   exact fq
  refine G ?_
  rcases Qv a with ⟨m, a⟩ | ⟨m, a⟩
  ·cases a
   refine G ?_
   exact fq
  refine G ?_
  rcases Qv a with ⟨n, a⟩ | ⟨n, a⟩
  ·cases a
   refine G ?_
   exact fq
  obtain ⟨ak, p, a⟩ := Zg a
  refine G ?_
  refine Tc Z Z Z Z (Qev p j rq rq rq rq rq).r ?_
  rintro _ ah ⟨ad, aa, x, rfl⟩
  cases a
  refine G ?_
  exact fq
 intro t ai h
 obtain ⟨ae, ab, y, ⟨u, rfl⟩⟩ := h
 cases hm
 refine G ?_
 exact fr
theorem Z44 : JF Tryz.prog 44 = some (Value.agg #[Value.slice none 0 0, Value.slice none 0 0, Value.slice none 0 0, Value.slice none 0 0, Value.slice none 0 0]) := by kernel_rfl
theorem Qat {w0 w : World} {s : PHeap} {H : List Res} {r : Ground} (hm : Qaa = some r) (hS : St w0 s (H) w) :
  Calls Tryz.prog 14 #[] w fun e w' => ∃ v, e = .returned v ∧ ((fun (k : Ground) => ∃ (g : PHeap) (p : Value) (q : Value) (t : Value) (u : Value) (x : Value), PHeap.le s g ∧ St w0 g (H) w' ∧ v = Value.agg #[p, q, t, u, x] ∧ SliceRep encAtom g p k.Atoms ∧ SliceRep encGFluent g q k.Fluents ∧ SliceRep (Qc .i64) g t k.Init ∧ SliceRep encCond g u k.Goal ∧ SliceRep encGOp g x k.Ops) r) := by
 unfold Qaa at hm
 refine Ql Tryz.func14 Z Z (G ?_)
 refine Exec.alloc (cs := [Vn, Vn, Vn, Vn, Vn]) hS Z44 Z Z ?_
 intro a8 bb y
 refine G ?_
 refine Exec.buildSlice (Te := 9) (cs := [Value.string (⟨#[97]⟩)]) y Z (Qd (c := [Value.string (⟨#[97]⟩)]) (Qf Z Z) Qg) (fun _ => by kernel_rfl) ?_
 intro i bc z
 have aa := St.boxArr (E := encStr) (xs := ([⟨#[97]⟩] : List ByteArray)) z ⟨[Value.string (⟨#[97]⟩)], [], rfl, rfl, rfl⟩ (by simp [maxLen])
 obtain ⟨aR, aA, ab, aK⟩ := aa.freezeArr
 refine G ?_
 refine Exec.build Z (Qd (c := [Value.string (⟨#[97, 116]⟩)]) (Qf Z Z) (Qd (c := [Vs (some ⟨i, 0, none⟩) 1 1]) (Qf Z Z) Qg)) (v := Value.agg #[Value.string (⟨#[97, 116]⟩), Vs (some ⟨i, 0, none⟩) 1 1]) (fun _ => by kernel_rfl) (G ?_)
 refine Exec.buildSlice (Te := 9) (cs := [Value.string (⟨#[98]⟩)]) ab Z (Qd (c := [Value.string (⟨#[98]⟩)]) (Qf Z Z) Qg) (fun _ => by kernel_rfl) ?_
 intro f bd ac
 have ad := St.boxArr (E := encStr) (xs := ([⟨#[98]⟩] : List ByteArray)) ac ⟨[Value.string (⟨#[98]⟩)], [], rfl, rfl, rfl⟩ (by simp [maxLen])
 obtain ⟨aS, aB, ae, a5⟩ := ad.freezeArr
 refine G ?_
 refine Exec.build Z (Qd (c := [Value.string (⟨#[97, 116]⟩)]) (Qf Z Z) (Qd (c := [Vs (some ⟨f, 0, none⟩) 1 1]) (Qf Z Z) Qg)) (v := Value.agg #[Value.string (⟨#[97, 116]⟩), Vs (some ⟨f, 0, none⟩) 1 1]) (fun _ => by kernel_rfl) (G ?_)
 refine Exec.build Z (Qd (c := [Value.string (⟨#[112]⟩)]) (Qf Z Z) Qg) (v := Value.agg #[Value.string (⟨#[112]⟩), Vn]) (fun _ => by kernel_rfl) (G ?_)
 refine Exec.buildSlice (Te := 72) (cs := [Value.string (⟨#[97, 116]⟩), Vs (some ⟨i, 0, none⟩) 1 1, Value.string (⟨#[97, 116]⟩), Vs (some ⟨f, 0, none⟩) 1 1, Value.string (⟨#[112]⟩), Vn]) ae Z (Qd (c := [Value.string (⟨#[97, 116]⟩), Vs (some ⟨i, 0, none⟩) 1 1]) (Qf Z Z) (Qd (c := [Value.string (⟨#[97, 116]⟩), Vs (some ⟨f, 0, none⟩) 1 1]) (Qf Z Z) (Qd (c := [Value.string (⟨#[112]⟩), Vn]) (Qf Z Z) Qg))) (fun _ => by kernel_rfl) ?_
 intro l be af
 have ag := St.boxArr (E := encAtom) (xs := [(⟨⟨#[97, 116]⟩, ([⟨#[97]⟩] : List ByteArray)⟩ : Atom), (⟨⟨#[97, 116]⟩, ([⟨#[98]⟩] : List ByteArray)⟩ : Atom), (⟨⟨#[112]⟩, []⟩ : Atom)]) af ⟨[Value.string (⟨#[97, 116]⟩), Vs (some ⟨i, 0, none⟩) 1 1], [Value.string (⟨#[97, 116]⟩), Vs (some ⟨f, 0, none⟩) 1 1, Value.string (⟨#[112]⟩), Vn], rfl, ⟨[Value.string (⟨#[97, 116]⟩)], [Vs (some ⟨i, 0, none⟩) 1 1], rfl, rfl, ⟨_, rfl, rq⟩⟩, ⟨[Value.string (⟨#[97, 116]⟩), Vs (some ⟨f, 0, none⟩) 1 1], [Value.string (⟨#[112]⟩), Vn], rfl, ⟨[Value.string (⟨#[97, 116]⟩)], [Vs (some ⟨f, 0, none⟩) 1 1], rfl, rfl, ⟨_, rfl, a5⟩⟩, ⟨[Value.string (⟨#[112]⟩), Vn], [], rfl, ⟨[Value.string (⟨#[112]⟩)], [Vn], rfl, rfl, ⟨_, rfl, (SliceRep.nil _ _)⟩⟩, rfl⟩⟩⟩ (by simp [maxLen])
 obtain ⟨aT, aC, ah, aL⟩ := ag.freezeArr
 refine G ?_
 refine Exec.buildSlice (Te := 3) (cs := [O 0]) ah Z (Qd (c := [O 0]) (Qf Z Z) Qg) (fun _ => by kernel_rfl) ?_
 intro m bf ai
 have aj := St.boxArr (E := (Qc .i64)) (xs := [0]) ai ⟨[O 0], [], rfl, rfl, rfl⟩ (by simp [maxLen])
 obtain ⟨aU, aD, ak, aM⟩ := aj.freezeArr
 refine G ?_
 refine Exec.buildSlice (Te := 3) (cs := [O 1]) ak Z (Qd (c := [O 1]) (Qf Z Z) Qg) (fun _ => by kernel_rfl) ?_
 intro j bg al
 have am := St.boxArr (E := (Qc .i64)) (xs := [1]) al ⟨[O 1], [], rfl, rfl, rfl⟩ (by simp [maxLen])
 obtain ⟨aV, aE, an, a6⟩ := am.freezeArr
 refine G ?_
 refine Exec.build Z (Qd (c := [Vs (some ⟨j, 0, none⟩) 1 1]) (Qf Z Z) Qg) (v := Value.agg #[Vs (some ⟨j, 0, none⟩) 1 1, Vn, Vn]) (fun _ => by kernel_rfl) (G ?_)
 refine Exec.buildSlice (Te := 85) (cs := [Vs (some ⟨j, 0, none⟩) 1 1, Vn, Vn]) an Z (Qd (c := [Vs (some ⟨j, 0, none⟩) 1 1, Vn, Vn]) (Qf Z Z) Qg) (fun _ => by kernel_rfl) ?_
 intro n bh ao
 have ap := St.boxArr (E := encCond) (xs := [(⟨[1], [], []⟩ : Cond)]) ao ⟨[Vs (some ⟨j, 0, none⟩) 1 1, Vn, Vn], [], rfl, ⟨[Vs (some ⟨j, 0, none⟩) 1 1], [Vn, Vn], rfl, ⟨_, rfl, a6⟩, ⟨[Vn], [Vn], rfl, ⟨_, rfl, (SliceRep.nil _ _)⟩, ⟨_, rfl, (SliceRep.nil _ _)⟩⟩⟩, rfl⟩ (by simp [maxLen])
 obtain ⟨aW, aF, aq, aN⟩ := ap.freezeArr
 refine G ?_
 refine Exec.buildSlice (Te := 3) (cs := [O 0]) aq Z (Qd (c := [O 0]) (Qf Z Z) Qg) (fun _ => by kernel_rfl) ?_
 intro b bi ar
 have au := St.boxArr (E := (Qc .i64)) (xs := [0]) ar ⟨[O 0], [], rfl, rfl, rfl⟩ (by simp [maxLen])
 obtain ⟨aX, aG, av, aO⟩ := au.freezeArr
 refine G ?_
 refine Exec.buildSlice (Te := 3) (cs := [O 2]) av Z (Qd (c := [O 2]) (Qf Z Z) Qg) (fun _ => by kernel_rfl) ?_
 intro a bj aw
 have ax := St.boxArr (E := (Qc .i64)) (xs := [2]) aw ⟨[O 2], [], rfl, rfl, rfl⟩ (by simp [maxLen])
 obtain ⟨aY, aH, ay, aP⟩ := ax.freezeArr
 refine G ?_
 refine Exec.build Z (Qd (c := [Vs (some ⟨b, 0, none⟩) 1 1]) (Qf Z Z) (Qd (c := [Vs (some ⟨a, 0, none⟩) 1 1]) (Qf Z Z) Qg)) (v := Value.agg #[Vs (some ⟨b, 0, none⟩) 1 1, Vs (some ⟨a, 0, none⟩) 1 1, Vn]) (fun _ => by kernel_rfl) (G ?_)
 refine Exec.build Z (Qd (c := [O 0]) (Qf Z Z) Qg) (v := Value.agg #[Vn, Vn, Vn, O 0, Vb false]) (fun _ => by kernel_rfl) (G ?_)
 refine Exec.build Z (Qd (c := [O 1]) (Qf Z Z) (Qd (c := [Vb true]) (Qf Z Z) Qg)) (v := Value.agg #[Vn, Vn, Vn, O 1, Vb true]) (fun _ => by kernel_rfl) (G ?_)
 refine Exec.buildSlice (Te := 97) (cs := [Vn, Vn, Vn, O 0, Vb false, Vn, Vn, Vn, O 1, Vb true]) ay Z (Qd (c := [Vn, Vn, Vn, O 0, Vb false]) (Qf Z Z) (Qd (c := [Vn, Vn, Vn, O 1, Vb true]) (Qf Z Z) Qg)) (fun _ => by kernel_rfl) ?_
 intro d bk az
 have a0 := St.boxArr (E := encGChange) (xs := [(⟨(⟨[], [], []⟩ : Cond), 0, false⟩ : GChange), (⟨(⟨[], [], []⟩ : Cond), 1, true⟩ : GChange)]) az ⟨[Vn, Vn, Vn, O 0, Vb false], [Vn, Vn, Vn, O 1, Vb true], rfl, ⟨[Vn, Vn, Vn], [O 0, Vb false], rfl, ⟨[Vn], [Vn, Vn], rfl, ⟨_, rfl, (SliceRep.nil _ _)⟩, ⟨[Vn], [Vn], rfl, ⟨_, rfl, (SliceRep.nil _ _)⟩, ⟨_, rfl, (SliceRep.nil _ _)⟩⟩⟩, ⟨[O 0], [Vb false], rfl, rfl, rfl⟩⟩, ⟨[Vn, Vn, Vn, O 1, Vb true], [], rfl, ⟨[Vn, Vn, Vn], [O 1, Vb true], rfl, ⟨[Vn], [Vn, Vn], rfl, ⟨_, rfl, (SliceRep.nil _ _)⟩, ⟨[Vn], [Vn], rfl, ⟨_, rfl, (SliceRep.nil _ _)⟩, ⟨_, rfl, (SliceRep.nil _ _)⟩⟩⟩, ⟨[O 1], [Vb true], rfl, rfl, rfl⟩⟩, rfl⟩⟩ (by simp [maxLen])
 obtain ⟨aZ, aI, a1, a7⟩ := a0.freezeArr
 refine G ?_
 refine Exec.build Z (Qd (c := [Value.string (⟨#[40, 109, 111, 118, 101, 41]⟩)]) (Qf Z Z) (Qd (c := [O 3]) (Qf Z Z) (Qd (c := [Vs (some ⟨b, 0, none⟩) 1 1, Vs (some ⟨a, 0, none⟩) 1 1, Vn]) (Qf Z Z) (Qd (c := [Vs (some ⟨d, 0, none⟩) 2 2]) (Qf Z Z) Qg)))) (v := Value.agg #[Value.string (⟨#[40, 109, 111, 118, 101, 41]⟩), O 3, Vs (some ⟨b, 0, none⟩) 1 1, Vs (some ⟨a, 0, none⟩) 1 1, Vn, Vs (some ⟨d, 0, none⟩) 2 2, Vn]) (fun _ => by kernel_rfl) (G ?_)
 refine Exec.buildSlice (Te := 92) (cs := [Value.string (⟨#[40, 109, 111, 118, 101, 41]⟩), O 3, Vs (some ⟨b, 0, none⟩) 1 1, Vs (some ⟨a, 0, none⟩) 1 1, Vn, Vs (some ⟨d, 0, none⟩) 2 2, Vn]) a1 Z (Qd (c := [Value.string (⟨#[40, 109, 111, 118, 101, 41]⟩), O 3, Vs (some ⟨b, 0, none⟩) 1 1, Vs (some ⟨a, 0, none⟩) 1 1, Vn, Vs (some ⟨d, 0, none⟩) 2 2, Vn]) (Qf Z Z) Qg) (fun _ => by kernel_rfl) ?_
 intro o bl a2
 have a3 := St.boxArr (E := encGOp) (xs := [(⟨⟨#[40, 109, 111, 118, 101, 41]⟩, 3, (⟨[0], [2], []⟩ : Cond), [(⟨(⟨[], [], []⟩ : Cond), 0, false⟩ : GChange), (⟨(⟨[], [], []⟩ : Cond), 1, true⟩ : GChange)], []⟩ : GOp)]) a2 ⟨[Value.string (⟨#[40, 109, 111, 118, 101, 41]⟩), O 3, Vs (some ⟨b, 0, none⟩) 1 1, Vs (some ⟨a, 0, none⟩) 1 1, Vn, Vs (some ⟨d, 0, none⟩) 2 2, Vn], [], rfl, ⟨[Value.string (⟨#[40, 109, 111, 118, 101, 41]⟩)], [O 3, Vs (some ⟨b, 0, none⟩) 1 1, Vs (some ⟨a, 0, none⟩) 1 1, Vn, Vs (some ⟨d, 0, none⟩) 2 2, Vn], rfl, rfl, ⟨[O 3], [Vs (some ⟨b, 0, none⟩) 1 1, Vs (some ⟨a, 0, none⟩) 1 1, Vn, Vs (some ⟨d, 0, none⟩) 2 2, Vn], rfl, rfl, ⟨[Vs (some ⟨b, 0, none⟩) 1 1, Vs (some ⟨a, 0, none⟩) 1 1, Vn], [Vs (some ⟨d, 0, none⟩) 2 2, Vn], rfl, ⟨[Vs (some ⟨b, 0, none⟩) 1 1], [Vs (some ⟨a, 0, none⟩) 1 1, Vn], rfl, ⟨_, rfl, rq⟩, ⟨[Vs (some ⟨a, 0, none⟩) 1 1], [Vn], rfl, ⟨_, rfl, rq⟩, ⟨_, rfl, (SliceRep.nil _ _)⟩⟩⟩, ⟨[Vs (some ⟨d, 0, none⟩) 2 2], [Vn], rfl, ⟨_, rfl, a7⟩, ⟨_, rfl, (SliceRep.nil _ _)⟩⟩⟩⟩⟩, rfl⟩ (by simp [maxLen])
 obtain ⟨ba, aJ, a9, aQ⟩ := a3.freezeArr
 refine G ?_
 refine Exec.build Z (Qd (c := [Vs (some ⟨l, 0, none⟩) 3 3]) (Qf Z Z) (Qd (c := [Vs (some ⟨m, 0, none⟩) 1 1]) (Qf Z Z) (Qd (c := [Vs (some ⟨n, 0, none⟩) 1 1]) (Qf Z Z) (Qd (c := [Vs (some ⟨o, 0, none⟩) 1 1]) (Qf Z Z) Qg)))) (v := Value.agg #[Vs (some ⟨l, 0, none⟩) 3 3, Vn, Vs (some ⟨m, 0, none⟩) 1 1, Vs (some ⟨n, 0, none⟩) 1 1, Vs (some ⟨o, 0, none⟩) 1 1]) (fun _ => by kernel_rfl) (G ?_)
 refine Xst Z Z Z ?_
 intro bm a4
 cases hm
 refine G ?_
 refine ⟨_, QkP Z ⟨_, _, Z, QaJ (a4) A44.h⟩, ?_⟩
 exact fq
theorem Z29 : JF Tryz.prog 29 = some (Value.agg #[Value.slice none 0 0, Value.slice none 0 0, Value.slice none 0 0, Value.slice none 0 0, Value.slice none 0 0, Value.slice none 0 0, Value.slice none 0 0]) := by kernel_rfl
instance F74_3 : FTy Tryz.prog 74 3 4 := ⟨by kernel_rfl⟩
theorem QdE {w0 w : World} {s : PHeap} {H : List Res} {a : GFluent} {d : Value} {r : Bool} (hm : Yc a = some r) (hS : St w0 s (H) w) (n : SliceRep encStr s d a.Fluent.Args) :
  Calls Tryz.prog 30 #[Value.agg #[Value.string (a.Fluent.Name), d, O (a.Lo), O (a.Hi), O (a.Init)]] w fun e w' => ∃ v, e = .returned v ∧ ((fun (m : Bool) => ∃ (b : PHeap) , PHeap.le s b ∧ St w0 b (H) w' ∧ v = Value.bool (m)) r) := by
 unfold Yc at hm
 refine Ql Tryz.func30 Z Z (G ?_)
 refine JH Z Z ?_
 intro o z t
 refine g ?_
 refine Zc (Qs (M := fun f' w' => ∃ (c : PHeap) , PHeap.le s c ∧ St w0 c (H) w' ∧ Fx f' [(2, Vb (((decide ((-1099511627776) ≤ a.Lo)) && ((decide (a.Lo ≤ a.Init)) && ((decide (a.Init ≤ a.Hi)) && ((decide (a.Hi ≤ 1099511627776)) && decide ((IntKind.i64.wrap (a.Hi - a.Lo)) < 64)))))))]) ?_ ?_)
 ·refine G ?_
  rcases tf (decide ((-1099511627776) ≤ a.Lo)) with i | i
  ·refine G ?_
   rcases tf (decide (a.Lo ≤ a.Init)) with j | j
   ·refine G ?_
    rcases tf (decide (a.Init ≤ a.Hi)) with k | k
    ·refine G ?_
     rcases tf (decide (a.Hi ≤ 1099511627776)) with l | l
     ·refine G ?_
      exact fq
     refine G ?_
     exact fq
    refine G ?_
    exact fq
   refine G ?_
   exact fq
  refine G ?_
  exact fq
 intro p aa h
 obtain ⟨y, x, u, ⟨q, rfl⟩⟩ := h
 cases hm
 refine G ?_
 exact fr
theorem N29 : (Tryz.f29.name == "runtime.NumGoroutine") = false := by kernel_rfl
theorem QcH {w0 w : World} {s : PHeap} {H : List Res} {a : GFluent} {c : Value} {r : Bool} (hm : Kz a = some r) (hS : St w0 s (H) w) (d : SliceRep encStr s c a.Fluent.Args) :
  Calls Tryz.prog 29 #[Value.agg #[Value.string (a.Fluent.Name), c, O (a.Lo), O (a.Hi), O (a.Init)]] w fun e w' => ∃ v, e = .returned v ∧ ((fun (g : Bool) => ∃ (b : PHeap) , PHeap.le s b ∧ St w0 b (H) w' ∧ v = Value.bool (g)) r) := by
 unfold Kz at hm
 refine Ql Tryz.func29 Z Z (G ?_)
 refine JH Z Z ?_
 intro h l f
 refine G ?_
 refine Tc Z Z Z Z (QdE (Qbs a) f d).r ?_
 rintro _ m ⟨k, j, i, rfl⟩
 cases hm
 refine G ?_
 exact fr
theorem Yj {w0 w : World} {s : PHeap} {H : List Res} {b : (List GFluent)} {c : Value} {r : Int} (hm : Ja b = some r) (hS : St w0 s (H) w) (aj : SliceRep encGFluent s c b) :
  Calls Tryz.prog 61 #[c, Value.func (.func 29) #[] #[]] w fun e w' => ∃ v, e = .returned v ∧ ((fun (ai : Int) => ∃ (l : PHeap) , PHeap.le s l ∧ St w0 l (H) w' ∧ v = O ai) r) := by
 unfold Ja at hm
 refine Ql Tryz.func61 Z Z ?_
 obtain ⟨d, p, ab, z, x⟩ := Qu hm
 refine Zc (Zd (g ?_))
 refine Zc (Zc (Zd (g ?_)))
 refine Qs (M := fun f' w' => ∃ s', (d = .next s' ∨ d = .brk s') ∧ (fun (_ : Unit) => ∃ (m : PHeap) , PHeap.le s m ∧ St w0 m (H) w' ∧ Fx f' [(0, c), (1, Value.func (.func 29) #[] #[]), (7, O ((b.length : Int)))]) s') ?_ ?_
 ·refine G ?_
  refine QC (fun k' s' f' w' => (fun (_ : Unit) => ∃ (n : PHeap) , PHeap.le s n ∧ St w0 n (H) w' ∧ Fx f' [(8, O (k' : Int)), (0, c), (1, Value.func (.func 29) #[] #[]), (7, O ((b.length : Int)))]) s') p ?_ ?_ ?_
  ·exact fq
  ·intro ay a8 al am aD ax q a ac
   obtain ⟨a4, az, i, ⟨an, rfl⟩⟩ := q
   obtain ⟨ah, ae, a⟩ := Zg a
   refine G ?_
   refine QI Z Z Z ae ?_
   intro ak a3 o
   refine G ?_
   refine Zw (E := encGFluent) i A74.h Z Z Z o ?_
   intro aC af
   obtain ⟨aB, rfl, ag⟩ := Qad.1 af
   refine G ?_
   refine Qfp Z Z Tryz.func29 Z N29 (Zi Z Qx) ((QcH (QaG ah) i ag).mono ?_)
   rintro _ aE ⟨_, rfl, ⟨a5, a0, au, rfl⟩⟩
   refine ⟨_, Z, ?_⟩
   refine G ?_
   rcases Qv a with ⟨y, a⟩ | ⟨y, a⟩
   ·cases a
    have aa := ab _ (ac (by intro _ h; cases h))
    cases aa
    refine G ?_
    exact fr
   cases a
   refine G ?_
   exact ⟨_, Z, fq⟩
  intro a9 ao aF t ad
  obtain ⟨a6, a1, av, ⟨ap, rfl⟩⟩ := t
  refine G ?_
  exact ⟨_, .inl ad, fq⟩
 rintro aq aG ⟨aA, j, u⟩
 have hm := j.elim (z _) (x _)
 clear j
 obtain ⟨a7, a2, aw, ⟨ar, rfl⟩⟩ := u
 cases hm
 refine G ?_
 exact fr
theorem KG {w0 w : World} {s : PHeap} {H : List Res} {b : (List GFluent)} {c : Value} {r : Bool} (hm : QF b = some r) (hS : St w0 s (H) w) (d : SliceRep encGFluent s c b) :
  Calls Tryz.prog 28 #[c, Value.func (.func 29) #[] #[]] w fun e w' => ∃ v, e = .returned v ∧ ((fun (g : Bool) => ∃ (a : PHeap) , PHeap.le s a ∧ St w0 a (H) w' ∧ v = Value.bool (g)) r) := by
 unfold QF at hm
 refine Ql Tryz.func28 Z Z ?_
 obtain ⟨l, f, hm⟩ := Zg hm
 refine G ?_
 refine Tc Z Z Z Z (Yj f hS d).r ?_
 rintro _ k ⟨j, i, h, rfl⟩
 cases hm
 refine G ?_
 exact fr
theorem KW {w0 w : World} {s : PHeap} {H : List Res} {d : (List Int)} {i : Int} {c : Value} {r : Bool} (hm : J2 d i = some r) (hS : St w0 s (H) w) (aw : SliceRep (Qc .i64) s c d) :
  Calls Tryz.prog 31 #[c, O i] w fun e w' => ∃ v, e = .returned v ∧ ((fun (av : Bool) => ∃ (o : PHeap) , PHeap.le s o ∧ St w0 o (H) w' ∧ v = Value.bool (av)) r) := by
 unfold J2 at hm
 refine Ql Tryz.func31 Z Z ?_
 obtain ⟨l, y, ak, ai, ad⟩ := Qu hm
 refine Zc (Zd (g ?_))
 refine Zc (Zc (Zd (g ?_)))
 refine Qs (M := fun f' w' => ∃ s', (l = .next s' ∨ l = .brk s') ∧ (fun (_ : Unit) => ∃ (p : PHeap) , PHeap.le s p ∧ St w0 p (H) w' ∧ Fx f' [(0, c), (1, O i), (7, c), (8, O ((d.length : Int)))]) s') ?_ ?_
 ·refine G ?_
  refine QC (fun k' s' f' w' => (fun (_ : Unit) => ∃ (q : PHeap) , PHeap.le s q ∧ St w0 q (H) w' ∧ Fx f' [(9, O (k' : Int)), (0, c), (1, O i), (7, c), (8, O ((d.length : Int)))]) s') y ?_ ?_ ?_
  ·exact fq
  ·intro an aL az a0 aQ aB z b al
   obtain ⟨au, aC, m, ⟨a1, rfl⟩⟩ := z
   obtain ⟨aU, ao, b⟩ := Zg b
   refine G ?_
   refine QI Z Z Z ao ?_
   intro ax aG u
   refine G ?_
   refine Zw (E := (Qc .i64)) m A3.h Z Z Z u ?_
   intro aO ap
   obtain rfl := Qm.1 ap
   obtain ⟨j, a, b⟩ := Zg b
   refine g ?_
   refine Zc (Qs (M := fun f' w' => (fun (j : Bool) => ∃ (t : PHeap) , PHeap.le au t ∧ St w0 t (H) w' ∧ Fx f' [(0, c), (1, O i), (7, c), (8, O ((d.length : Int))), (9, O ((an : Int))), (33, Vb j)]) j) ?_ ?_)
   ·refine G ?_
    rcases Qv a with ⟨ae, a⟩ | ⟨ae, a⟩
    ·cases a
     refine G ?_
     exact fq
    refine G ?_
    rcases Qv a with ⟨af, a⟩ | ⟨af, a⟩
    ·cases a
     refine G ?_
     exact fq
    refine G ?_
    rcases Qv a with ⟨ag, a⟩ | ⟨ag, a⟩
    ·obtain ⟨aV, aq, a⟩ := Zg a
     refine G ?_
     refine QI Z Z Z aq ?_
     intro ay aH x
     refine G ?_
     refine Zw (E := (Qc .i64)) m A3.h Z Z Z x ?_
     intro aP ar
     obtain rfl := Qm.1 ar
     cases a
     refine G ?_
     exact fq
    cases a
    refine G ?_
    exact fq
   intro a2 aR ab
   obtain ⟨aI, aD, a8, ⟨a3, rfl⟩⟩ := ab
   refine G ?_
   rcases Qv b with ⟨ah, b⟩ | ⟨ah, b⟩
   ·cases b
    have aj := ak _ (al (by intro _ h; cases h))
    cases aj
    refine G ?_
    exact fr
   cases b
   refine G ?_
   exact ⟨_, Z, fq⟩
  intro aM a4 aS aa am
  obtain ⟨aJ, aE, a9, ⟨a5, rfl⟩⟩ := aa
  refine G ?_
  exact ⟨_, .inl am, fq⟩
 rintro a6 aT ⟨aN, n, ac⟩
 have hm := n.elim (ai _) (ad _)
 clear n
 obtain ⟨aK, aF, aA, ⟨a7, rfl⟩⟩ := ac
 cases hm
 refine G ?_
 exact fr
instance A128 : ATy Tryz.prog 128 true 7 := ⟨by kernel_rfl⟩
theorem Qj7 : JF Tryz.prog 128 = some (Value.agg #[Value.string ⟨#[]⟩, Value.string ⟨#[]⟩, O 0, Value.slice none 0 0, Value.string ⟨#[]⟩, O 0, Value.slice none 0 0]) := by kernel_rfl
instance F128_0 : FTy Tryz.prog 128 0 0 := ⟨by kernel_rfl⟩
instance F106_0 : FTy Tryz.prog 106 0 0 := ⟨by kernel_rfl⟩
instance F106_1 : FTy Tryz.prog 106 1 1 := ⟨by kernel_rfl⟩
theorem QdD {fu : Nat} (ih : ∀ {w0 w : World} {s : PHeap} {H : List Res} {a : GExpr} {c : Int} {i : Value} {r : Bool} (hm : Q8 fu a c = some r) (hS : St w0 s (H) w) (af : SliceRep encGExpr s i a.Kids), Calls Tryz.prog 63 #[Value.agg #[Value.string (a.Op), O (a.N), i], O c] w fun e w' => ∃ v, e = .returned v ∧ ((fun (n : Bool) => ∃ (k : PHeap) , PHeap.le s k ∧ St w0 k (H) w' ∧ v = Value.bool (n)) r)) {w0 w : World} {s : PHeap} {H : List Res} {a : GExpr} {c : Int} {i : Value} {r : Bool} (hm : Q8 (fu + 1) a c = some r) (hS : St w0 s (H) w) (af : SliceRep encGExpr s i a.Kids) :
  Calls Tryz.prog 63 #[Value.agg #[Value.string (a.Op), O (a.N), i], O c] w fun e w' => ∃ v, e = .returned v ∧ ((fun (n : Bool) => ∃ (k : PHeap) , PHeap.le s k ∧ St w0 k (H) w' ∧ v = Value.bool (n)) r) := by
 rw [Q8] at hm
 refine Ql Tryz.func63 Z Z (G ?_)
 refine JH Z Z ?_
 intro l bh aI
 refine G ?_
 rcases Qv hm with ⟨x, hm⟩ | ⟨x, hm⟩
 ·refine W_c Z x (Qhf (Zc (Qs (M := fun f' w' => ∃ (aa : PHeap) , PHeap.le s aa ∧ St w0 aa (H) w' ∧ Fx f' [(4, Vb (((decide ((a.Kids.length : Int) = 0)) && ((decide ((-1099511627776) ≤ a.N)) && decide (a.N ≤ 1099511627776)))))]) ?_ ?_)))
  ·refine G ?_
   rcases tf (decide ((a.Kids.length : Int) = 0)) with an | an
   ·refine G ?_
    rcases tf (decide ((-1099511627776) ≤ a.N)) with ao | ao
    ·refine G ?_
     exact fq
    refine G ?_
    exact fq
   refine G ?_
   exact fq
  intro a8 bi ai
  obtain ⟨aX, aO, aJ, ⟨a9, rfl⟩⟩ := ai
  cases hm
  refine G ?_
  exact fr
 refine G ?_
 rcases Qv hm with ⟨m, hm⟩ | ⟨m, hm⟩
 ·refine W_c Z m (Qhf (Zc (Qs (M := fun f' w' => ∃ (ab : PHeap) , PHeap.le s ab ∧ St w0 ab (H) w' ∧ Fx f' [(4, Vb (((decide ((a.Kids.length : Int) = 0)) && ((decide (0 ≤ a.N)) && decide (a.N < c)))))]) ?_ ?_)))
  ·refine G ?_
   rcases tf (decide ((a.Kids.length : Int) = 0)) with ap | ap
   ·refine G ?_
    rcases tf (decide (0 ≤ a.N)) with aq | aq
    ·refine G ?_
     exact fq
    refine G ?_
    exact fq
   refine G ?_
   exact fq
  intro aA bj aj
  obtain ⟨aY, aP, aK, ⟨aB, rfl⟩⟩ := aj
  cases hm
  refine G ?_
  exact fr
 obtain ⟨o, d, hm⟩ := Zg hm
 refine W_c Z m (Qbk (Zc (Zc (Zd (g ?_)))))
 refine Qs (M := fun f' w' => (fun (o : Bool) => ∃ (ac : PHeap) , PHeap.le s ac ∧ St w0 ac (Res.box l 106 [Value.string (a.Op), O (a.N), i] :: H) w' ∧ Fx f' [(1, O c), (2, Vq l), (40, Vb o)]) o) ?_ ?_
 ·rcases Qv d with ⟨y, d⟩ | ⟨y, d⟩
  ·cases d
   refine G ?_
   exact fq
  obtain ⟨p, j, d⟩ := Zg d
  refine W_c Z y (Qbk (Zc (Zd (g ?_))))
  refine Qs (M := fun f' w' => (fun (p : Bool) => ∃ (ad : PHeap) , PHeap.le s ad ∧ St w0 ad (Res.box l 106 [Value.string (a.Op), O (a.N), i] :: H) w' ∧ Fx f' [(1, O c), (2, Vq l), (40, Vb p)]) p) ?_ ?_
  ·rcases Qv j with ⟨ar, j⟩ | ⟨ar, j⟩
   ·cases j
    refine G ?_
    exact fq
   cases j
   refine G ?_
   exact fq
  intro aC bk ak
  obtain ⟨aZ, aQ, aL, ⟨aD, rfl⟩⟩ := ak
  cases d
  refine G ?_
  exact fq
 intro aE bl al
 obtain ⟨a5, aR, t, ⟨aF, rfl⟩⟩ := al
 refine G ?_
 rcases Qv hm with ⟨z, hm⟩ | ⟨z, hm⟩
 ·obtain ⟨q, b, hm⟩ := Zg hm
  refine W_c Z z (Qhf (Zc (Qs (M := fun f' w' => (fun (q : Bool) => ∃ (ae : PHeap) , PHeap.le a5 ae ∧ St w0 ae (H) w' ∧ Fx f' [(4, Vb q)]) q) ?_ ?_)))
  ·refine G ?_
   rcases Qv b with ⟨au, b⟩ | ⟨au, b⟩
   ·refine G ?_
    rcases Qv b with ⟨av, b⟩ | ⟨av, b⟩
    ·obtain ⟨bp, ax, b⟩ := Zg b
     refine G ?_
     refine QI Z Z Z ax ?_
     intro a6 aV ag
     refine G ?_
     refine Zw (E := encGExpr) t A106.h Z Z Z ag ?_
     intro bf ay
     obtain ⟨bd, rfl, a3⟩ := Kc.1 ay
     obtain ⟨br, az, b⟩ := Zg b
     refine G ?_
     refine Tc Z Z Z Z (ih az t a3).r ?_
     rintro _ bm ⟨ba, aS, u, rfl⟩
     refine G ?_
     rcases Qv b with ⟨aw, b⟩ | ⟨aw, b⟩
     ·obtain ⟨bq, a0, b⟩ := Zg b
      refine G ?_
      refine QI Z Z Z a0 ?_
      intro a7 aW ah
      refine G ?_
      refine Zw (E := encGExpr) u A106.h Z Z Z ah ?_
      intro bg a1
      obtain ⟨be, rfl, a4⟩ := Kc.1 a1
      obtain ⟨bs, a2, b⟩ := Zg b
      refine G ?_
      refine Tc Z Z Z Z (ih a2 u a4).r ?_
      rintro _ bn ⟨bb, aT, aM, rfl⟩
      cases b
      refine G ?_
      exact fq
     cases b
     refine G ?_
     exact fq
    cases b
    refine G ?_
    exact fq
   cases b
   refine G ?_
   exact fq
  intro aG bo am
  obtain ⟨bc, aU, aN, ⟨aH, rfl⟩⟩ := am
  cases hm
  refine G ?_
  exact fr
 cases hm
 refine G ?_
 exact fr
theorem JD {fu : Nat} : ∀ {w0 w : World} {s : PHeap} {H : List Res} {a : GExpr} {b : Int} {d : Value} {r : Bool} (hm : Q8 fu a b = some r) (hS : St w0 s (H) w) (g : SliceRep encGExpr s d a.Kids), Calls Tryz.prog 63 #[Value.agg #[Value.string (a.Op), O (a.N), d], O b] w fun e w' => ∃ v, e = .returned v ∧ ((fun (f : Bool) => ∃ (c : PHeap) , PHeap.le s c ∧ St w0 c (H) w' ∧ v = Value.bool (f)) r) := by
 induction fu with
 | zero => intros; rename_i hm _ _; rw [Q8] at hm; cases hm
 | succ fu ih => exact QdD ih
theorem K1 {w0 w : World} {s : PHeap} {H : List Res} {fu : Nat} {m : Ground} {i : Cond} {n : Value} {o : Value} {p : Value} {q : Value} {t : Value} {u : Value} {x : Value} {d : Value} {r : Bool} (hm : Jn fu m i = some r) (hS : St w0 s (H) w) (aR : SliceRep encAtom s n m.Atoms) (aS : SliceRep encGFluent s o m.Fluents) (aT : SliceRep (Qc .i64) s p m.Init) (aU : SliceRep encCond s q m.Goal) (aV : SliceRep encGOp s t m.Ops) (aW : SliceRep (Qc .i64) s u i.Pos) (aX : SliceRep (Qc .i64) s x i.Neg) (aY : SliceRep encGTest s d i.Tests) :
  Calls Tryz.prog 34 #[Value.agg #[n, o, p, q, t], Value.agg #[u, x, d]] w fun e w' => ∃ v, e = .returned v ∧ ((fun (aQ : Bool) => ∃ (af : PHeap) , PHeap.le s af ∧ St w0 af (H) w' ∧ v = Value.bool (aQ)) r) := by
 unfold Jn at hm
 refine Ql Tryz.func34 Z Z (G ?_)
 refine JH Z Z ?_
 intro j bU bm
 refine G ?_
 refine JH Z Z ?_
 intro l bV ar
 obtain ⟨ac, al, aA, a8, az⟩ := Qu hm
 refine g ?_
 refine Zc (Zc (Zd (g ?_)))
 refine Qs (M := fun f' w' => ∃ s', (ac = .next s' ∨ ac = .brk s') ∧ (fun (_ : Unit) => ∃ (ag : PHeap) , PHeap.le s ag ∧ St w0 ag (Res.box j 44 [n, o, p, q, t] :: Res.box l 85 [u, x, d] :: H) w' ∧ Fx f' [(2, Vq j), (3, Vq l), (8, d), (9, O ((i.Tests.length : Int)))]) s') ?_ ?_
 ·refine G ?_
  refine QC (fun k' s' f' w' => (fun (_ : Unit) => ∃ (ah : PHeap) , PHeap.le s ah ∧ St w0 ah (Res.box j 44 [n, o, p, q, t] :: Res.box l 85 [u, x, d] :: H) w' ∧ Fx f' [(10, O (k' : Int)), (2, Vq j), (3, Vq l), (8, d), (9, O ((i.Tests.length : Int)))]) s') al ?_ ?_ ?_
  ·have bn := ar.f1
   exact fq
  ·intro aD bO bb bc bW bw am b aB
   obtain ⟨aO, bx, ad, ⟨bd, rfl⟩⟩ := am
   obtain ⟨cl, aE, b⟩ := Zg b
   refine G ?_
   refine QI Z Z Z aE ?_
   intro aZ bB ak
   refine G ?_
   refine Zw (E := encGTest) ad A128.h Z Z Z ak ?_
   intro bT aF
   obtain ⟨bR, bS, rfl, z, bC⟩ := YY.1 aF
   refine G ?_
   refine Exec.alloc (cs := [Value.string (⟨#[]⟩), Value.string (⟨#[]⟩), O 0, Vn, Value.string (⟨#[]⟩), O 0, Vn]) ad Qj7 Z Z ?_
   intro ba bX bo
   refine G ?_
   refine Xst Z Z Z ?_
   intro bY y
   obtain ⟨aa, a, b⟩ := Zg b
   refine g ?_
   refine Zc (Qs (M := fun f' w' => (fun (aa : Bool) => ∃ (ai : PHeap) , PHeap.le aO ai ∧ St w0 ai (Res.box j 44 [n, o, p, q, t] :: Res.box l 85 [u, x, d] :: H) w' ∧ Fx f' [(2, Vq j), (3, Vq l), (8, d), (9, O ((i.Tests.length : Int))), (10, O ((aD : Int))), (44, Vb aa)]) aa) ?_ ?_)
   ·refine G ?_
    rcases Qv a with ⟨a0, a⟩ | ⟨a0, a⟩
    ·refine G ?_
     rcases Qv a with ⟨a1, a⟩ | ⟨a1, a⟩
     ·refine G ?_
      rcases Qv a with ⟨a2, a⟩ | ⟨a2, a⟩
      ·cases a
       refine G ?_
       exact fq
      obtain ⟨cm, aG, a⟩ := Zg a
      refine G ?_
      refine Tc Z Z Z Z (JD aG y z).r ?_
      rintro _ bZ ⟨bD, bz, au, rfl⟩
      refine G ?_
      rcases Qv a with ⟨a3, a⟩ | ⟨a3, a⟩
      ·cases a
       refine G ?_
       exact fq
      obtain ⟨cn, aH, a⟩ := Zg a
      refine G ?_
      refine Tc Z Z Z Z (JD aH au rq).r ?_
      rintro _ ca ⟨bE, b0, bp, rfl⟩
      cases a
      refine G ?_
      exact fq
     obtain ⟨co, aI, a⟩ := Zg a
     refine G ?_
     refine Tc Z Z Z Z (JD aI y z).r ?_
     rintro _ cb ⟨bF, b1, av, rfl⟩
     refine G ?_
     rcases Qv a with ⟨a4, a⟩ | ⟨a4, a⟩
     ·cases a
      refine G ?_
      exact fq
     obtain ⟨cp, aJ, a⟩ := Zg a
     refine G ?_
     refine Tc Z Z Z Z (JD aJ av rq).r ?_
     rintro _ cc ⟨bG, b2, bq, rfl⟩
     cases a
     refine G ?_
     exact fq
    obtain ⟨cq, aK, a⟩ := Zg a
    refine G ?_
    refine Tc Z Z Z Z (JD aK y z).r ?_
    rintro _ cd ⟨bH, b3, aw, rfl⟩
    refine G ?_
    rcases Qv a with ⟨a5, a⟩ | ⟨a5, a⟩
    ·cases a
     refine G ?_
     exact fq
    obtain ⟨cr, aL, a⟩ := Zg a
    refine G ?_
    refine Tc Z Z Z Z (JD aL aw rq).r ?_
    rintro _ ce ⟨bI, b4, br, rfl⟩
    cases a
    refine G ?_
    exact fq
   intro be cf ao
   obtain ⟨bJ, b5, bs, ⟨bf, rfl⟩⟩ := ao
   refine G ?_
   rcases Qv b with ⟨a6, b⟩ | ⟨a6, b⟩
   ·cases b
    have a9 := aA _ (aB (by intro _ h; cases h))
    cases a9
    refine G ?_
    exact fr
   cases b
   refine G ?_
   exact ⟨_, Z, fq⟩
  intro bP bg cg an aC
  obtain ⟨bK, b6, bt, ⟨bh, rfl⟩⟩ := an
  refine G ?_
  exact ⟨_, .inl aC, fq⟩
 rintro bi ch ⟨bQ, ae, ap⟩
 have hm := ae.elim (a8 _) (az _)
 clear ae
 obtain ⟨aP, b7, ax, ⟨bj, rfl⟩⟩ := ap
 obtain ⟨ab, c, hm⟩ := Zg hm
 refine g ?_
 refine Zc (Qs (M := fun f' w' => (fun (ab : Bool) => ∃ (aj : PHeap) , PHeap.le aP aj ∧ St w0 aj (H) w' ∧ Fx f' [(4, Vb ab)]) ab) ?_ ?_)
 ·obtain ⟨ct, aM, c⟩ := Zg c
  refine G ?_
  refine Tc Z Z Z Z (KW aM ax rq).r ?_
  rintro _ ci ⟨bL, b8, ay, rfl⟩
  refine G ?_
  rcases Qv c with ⟨a7, c⟩ | ⟨a7, c⟩
  ·obtain ⟨cu, aN, c⟩ := Zg c
   refine G ?_
   refine Tc Z Z Z Z (KW aN ay rq).r ?_
   rintro _ cj ⟨bM, b9, bu, rfl⟩
   cases c
   refine G ?_
   exact fq
  cases c
  refine G ?_
  exact fq
 intro bk ck aq
 obtain ⟨bN, bA, bv, ⟨bl, rfl⟩⟩ := aq
 cases hm
 refine G ?_
 exact fr
theorem N33 : (Tryz.f33.name == "runtime.NumGoroutine") = false := by kernel_rfl
theorem QcG {w0 w : World} {s : PHeap} {H : List Res} {fu : Nat} {a : Cond} {c : Ground} {i : Value} {j : Value} {k : Value} {b f : Nat} {r : Bool} (hm : Kx fu a c = some r) (hS : St w0 s (H) w) (l : SliceRep (Qc .i64) s i a.Pos) (m : SliceRep (Qc .i64) s j a.Neg) (n : SliceRep encGTest s k a.Tests) (o : At s b f encGround c) :
  Calls Tryz.prog 33 #[Value.agg #[i, j, k], Value.pointer (some ⟨b, f, none⟩)] w fun e w' => ∃ v, e = .returned v ∧ ((fun (aa : Bool) => ∃ (g : PHeap) , PHeap.le s g ∧ St w0 g (H) w' ∧ v = Value.bool (aa)) r) := by
 unfold Kx at hm
 refine Ql Tryz.func33 Z Z (G ?_)
 refine JH Z Z ?_
 intro ab al d
 refine G ?_
 refine Zw (E := encGround) d A44.h Z Z Z o ?_
 intro ak p
 obtain ⟨af, ag, ah, ai, aj, rfl, t, u, x, y, z⟩ := Yh.1 p
 obtain ⟨an, q, hm⟩ := Zg hm
 refine G ?_
 refine Tc Z Z Z Z (K1 q d t u x y z l m n).r ?_
 rintro _ am ⟨ae, ad, ac, rfl⟩
 cases hm
 refine G ?_
 exact fr
theorem Y3 {w0 w : World} {s : PHeap} {H : List Res} {fu : Nat} {d : (List Cond)} {j : Ground} {i : Value} {b c : Nat} {r : Int} (hm : Jl fu d j = some r) (hS : St w0 s (H) w) (aq : SliceRep encCond s i d) (t : At s b c encGround j) :
  Calls Tryz.prog 62 #[i, Value.func (.func 33) #[] #[Value.pointer (some ⟨b, c, none⟩)]] w fun e w' => ∃ v, e = .returned v ∧ ((fun (ap : Int) => ∃ (o : PHeap) , PHeap.le s o ∧ St w0 o (H) w' ∧ v = O ap) r) := by
 unfold Jl at hm
 refine Ql Tryz.func62 Z Z ?_
 obtain ⟨l, x, af, ad, ab⟩ := Qu hm
 refine Zc (Zd (g ?_))
 refine Zc (Zc (Zd (g ?_)))
 refine Qs (M := fun f' w' => ∃ s', (l = .next s' ∨ l = .brk s') ∧ (fun (_ : Unit) => ∃ (p : PHeap) , PHeap.le s p ∧ St w0 p (H) w' ∧ Fx f' [(0, i), (1, Value.func (.func 33) #[] #[Vp (some ⟨b, c, none⟩)]), (7, O ((d.length : Int)))]) s') ?_ ?_
 ·refine G ?_
  refine QC (fun k' s' f' w' => (fun (_ : Unit) => ∃ (q : PHeap) , PHeap.le s q ∧ St w0 q (H) w' ∧ Fx f' [(8, O (k' : Int)), (0, i), (1, Value.func (.func 33) #[] #[Vp (some ⟨b, c, none⟩)]), (7, O ((d.length : Int)))]) s') x ?_ ?_ ?_
  ·exact fq
  ·intro a5 aE au av aL a4 y a ag
   obtain ⟨aA, ai, m, ⟨aw, rfl⟩⟩ := y
   obtain ⟨aP, aj, a⟩ := Zg a
   refine G ?_
   refine QI Z Z Z aj ?_
   intro ar a9 u
   refine G ?_
   refine Zw (E := encCond) m A85.h Z Z Z u ?_
   intro aK ak
   obtain ⟨aH, aI, aJ, rfl, am, an, ao⟩ := KJ.1 ak
   obtain ⟨aQ, al, a⟩ := Zg a
   refine G ?_
   refine KR Z Z Tryz.func33 Z N33 (Zi Z Qx) Z ((QcG al m am an ao (t.mono ai)).mono ?_)
   rintro _ aM ⟨_, rfl, ⟨aB, a6, a1, rfl⟩⟩
   refine ⟨_, Z, ?_⟩
   refine G ?_
   rcases Qv a with ⟨ac, a⟩ | ⟨ac, a⟩
   ·cases a
    have ae := af _ (ag (by intro _ h; cases h))
    cases ae
    refine G ?_
    exact fr
   cases a
   refine G ?_
   exact ⟨_, Z, fq⟩
  intro aF ax aN z ah
  obtain ⟨aC, a7, a2, ⟨ay, rfl⟩⟩ := z
  refine G ?_
  exact ⟨_, .inl ah, fq⟩
 rintro az aO ⟨aG, n, aa⟩
 have hm := n.elim (ad _) (ab _)
 clear n
 obtain ⟨aD, a8, a3, ⟨a0, rfl⟩⟩ := aa
 cases hm
 refine G ?_
 exact fr
theorem Yl {w0 w : World} {s : PHeap} {H : List Res} {fu : Nat} {f : (List Cond)} {b : Ground} {g : Value} {a c : Nat} {r : Bool} (hm : QK fu f b = some r) (hS : St w0 s (H) w) (h : SliceRep encCond s g f) (i : At s a c encGround b) :
  Calls Tryz.prog 32 #[g, Value.func (.func 33) #[] #[Value.pointer (some ⟨a, c, none⟩)]] w fun e w' => ∃ v, e = .returned v ∧ ((fun (k : Bool) => ∃ (d : PHeap) , PHeap.le s d ∧ St w0 d (H) w' ∧ v = Value.bool (k)) r) := by
 unfold QK at hm
 refine Ql Tryz.func32 Z Z ?_
 obtain ⟨p, j, hm⟩ := Zg hm
 refine G ?_
 refine Tc Z Z Z Z (Y3 j hS h i).r ?_
 rintro _ o ⟨n, m, l, rfl⟩
 cases hm
 refine G ?_
 exact fr
instance F92_1 : FTy Tryz.prog 92 1 1 := ⟨by kernel_rfl⟩
theorem QdT {w0 w : World} {s : PHeap} {H : List Res} {a : ByteArray} {r : Bool} (hm : Yt a = some r) (hS : St w0 s (H) w) :
  Calls Tryz.prog 65 #[Value.string (a)] w fun e w' => ∃ v, e = .returned v ∧ ((fun (an : Bool) => ∃ (m : PHeap) , PHeap.le s m ∧ St w0 m (H) w' ∧ v = Value.bool (an)) r) := by
 unfold Yt at hm
 refine Ql Tryz.func65 Z Z (G ?_)
 refine Y0 Tryz.underlying9 Z Z ?_
 obtain ⟨aB, ak, hm⟩ := Zg hm
 obtain ⟨i, q, ag, ae, aa⟩ := Qu hm
 refine g ?_
 refine Qs (M := fun f' w' => ∃ s', (i = .next s' ∨ i = .brk s') ∧ (fun (_ : Unit) => ∃ (n : PHeap) , PHeap.le s n ∧ St w0 n (H) w' ∧ Fx f' [(0, Value.string (a)), (5, O ((a.size : Int)))]) s') ?_ ?_
 ·refine G ?_
  refine QC (fun k' s' f' w' => (fun (_ : Unit) => ∃ (o : PHeap) , PHeap.le s o ∧ St w0 o (H) w' ∧ Fx f' [(6, O (k' : Int)), (0, Value.string (a)), (5, O ((a.size : Int)))]) s') q ?_ ?_ ?_
  ·exact fq
  ·intro aj a8 ao ap aC ad t b ah
   obtain ⟨al, a2, az, ⟨aq, rfl⟩⟩ := t
   obtain ⟨d, c, b⟩ := Zg b
   refine Zc (Zd (g ?_))
   refine Zc (YT (Zx (decide_eq_true (by omega))) (JG (Ze (Zc (YF (Zc (Zd (g ?_))))))))
   refine Zc (Qs (M := fun f' w' => (fun (d : Bool) => ∃ (p : PHeap) , PHeap.le al p ∧ St w0 p (H) w' ∧ Fx f' [(0, Value.string (a)), (5, O ((a.size : Int))), (6, O ((aj : Int))), (18, Vb d)]) d) ?_ ?_)
   ·obtain ⟨aG, l, c⟩ := Zg c
    refine G ?_
    refine Qag Tryz.underlying9 Z Z Z l (G ?_)
    rcases Qv c with ⟨ab, c⟩ | ⟨ab, c⟩
    ·cases c
     refine G ?_
     exact fq
    refine G ?_
    refine Qag Tryz.underlying9 Z Z Z l ?_
    cases c
    refine G ?_
    exact fq
   intro ar aD x
   obtain ⟨am, a3, z, ⟨au, rfl⟩⟩ := x
   refine G ?_
   rcases Qv b with ⟨ac, b⟩ | ⟨ac, b⟩
   ·cases b
    have af := ag _ (ah (by intro _ h; cases h))
    cases af
    refine G ?_
    exact fr
   cases b
   refine G ?_
   refine ⟨_, Z, ?_⟩; exact ⟨am, lq, z, (Fx.mk (FxL.cons (J5 ad (by have h := QbC ak; simp at h; simp only [maxLen]; omega)) fxl))⟩
  intro a9 av aE u ai
  obtain ⟨a6, a4, a0, ⟨aw, rfl⟩⟩ := u
  refine G ?_
  exact ⟨_, .inl ai, fq⟩
 rintro ax aF ⟨aA, j, y⟩
 have hm := j.elim (ae _) (aa _)
 clear j
 obtain ⟨a7, a5, a1, ⟨ay, rfl⟩⟩ := y
 refine G ?_
 refine Y0 Tryz.underlying9 Z Z ?_
 cases hm
 refine G ?_
 exact fr
instance F97_1 : FTy Tryz.prog 97 1 3 := ⟨by kernel_rfl⟩
instance A108 : ATy Tryz.prog 108 true 4 := ⟨by kernel_rfl⟩
theorem Qj8 : JF Tryz.prog 108 = some (Value.agg #[O 0, Value.string ⟨#[]⟩, O 0, Value.slice none 0 0]) := by kernel_rfl
instance F108_0 : FTy Tryz.prog 108 0 0 := ⟨by kernel_rfl⟩
theorem Z4 : JF Tryz.prog 4 = some (Value.bool false) := by kernel_rfl
theorem QcC {w0 w : World} {s : PHeap} {H : List Res} {fu : Nat} {z : Ground} {a : GOp} {m : Value} {n : Value} {o : Value} {p : Value} {q : Value} {aa : Value} {ab : Value} {ac : Value} {t : Value} {u : Value} {r : Bool} (hm : Kv fu z a = some r) (hS : St w0 s (H) w) (b6 : SliceRep encAtom s m z.Atoms) (b7 : SliceRep encGFluent s n z.Fluents) (b8 : SliceRep (Qc .i64) s o z.Init) (b9 : SliceRep encCond s p z.Goal) (bA : SliceRep encGOp s q z.Ops) (bB : SliceRep (Qc .i64) s aa a.Pre.Pos) (bC : SliceRep (Qc .i64) s ab a.Pre.Neg) (bD : SliceRep encGTest s ac a.Pre.Tests) (bE : SliceRep encGChange s t a.Changes) (bF : SliceRep encGAssign s u a.Assigns) :
  Calls Tryz.prog 37 #[Value.agg #[m, n, o, p, q], Value.agg #[Value.string (a.Name), O (a.Cost), aa, ab, ac, t, u]] w fun e w' => ∃ v, e = .returned v ∧ ((fun (b5 : Bool) => ∃ (au : PHeap) , PHeap.le s au ∧ St w0 au (H) w' ∧ v = Value.bool (b5)) r) := by
 unfold Kv at hm
 refine Ql Tryz.func37 Z Z (G ?_)
 refine JH Z Z ?_
 intro d cR cd
 refine G ?_
 refine JH Z Z ?_
 intro x cS aH
 obtain ⟨af, b, hm⟩ := Zg hm
 refine g ?_
 refine Zc (Zc (Qs (M := fun f' w' => (fun (af : Bool) => ∃ (av : PHeap) , PHeap.le s av ∧ St w0 av (Res.box d 44 [m, n, o, p, q] :: Res.box x 92 [Value.string (a.Name), O (a.Cost), aa, ab, ac, t, u] :: H) w' ∧ Fx f' [(2, Vq d), (3, Vq x), (36, Vb af)]) af) ?_ ?_))
 ·refine G ?_
  rcases Qv b with ⟨aQ, b⟩ | ⟨aQ, b⟩
  ·cases b
   refine G ?_
   exact fq
  refine G ?_
  rcases Qv b with ⟨aR, b⟩ | ⟨aR, b⟩
  ·cases b
   refine G ?_
   exact fq
  refine G ?_
  rcases Qv b with ⟨aS, b⟩ | ⟨aS, b⟩
  ·cases b
   refine G ?_
   exact fq
  obtain ⟨dn, bn, b⟩ := Zg b
  refine G ?_
  refine Tc Z Z Z Z (QdT bn aH).r ?_
  rintro _ cT ⟨cA, ct, aI, rfl⟩
  refine G ?_
  rcases Qv b with ⟨aT, b⟩ | ⟨aT, b⟩
  ·cases b
   refine G ?_
   exact fq
  obtain ⟨dp, bo, b⟩ := Zg b
  refine G ?_
  refine Tc Z Z Z Z (K1 bo aI rq rq rq rq rq rq rq rq).r ?_
  rintro _ cU ⟨cB, cu, ce, rfl⟩
  cases b
  refine G ?_
  exact fq
 intro bL cV aC
 obtain ⟨aw, cv, aJ, ⟨bM, rfl⟩⟩ := aC
 refine G ?_
 rcases Qv hm with ⟨ao, hm⟩ | ⟨ao, hm⟩
 ·cases hm
  refine G ?_
  exact fr
 obtain ⟨aj, a6, bf, bb, aO⟩ := Qu hm
 refine W_c Z ao (Qbk (JG (Ze (Zc (Zc (Zd (g ?_)))))))
 refine Qs (M := fun f' w' => ∃ s', (aj = .next s' ∨ aj = .brk s') ∧ (fun (_ : Unit) => ∃ (ax : PHeap) , PHeap.le aw ax ∧ St w0 ax (Res.box d 44 [m, n, o, p, q] :: Res.box x 92 [Value.string (a.Name), O (a.Cost), aa, ab, ac, t, u] :: H) w' ∧ Fx f' [(2, Vq d), (3, Vq x), (38, t), (39, O ((a.Changes.length : Int)))]) s') ?_ ?_
 ·refine G ?_
  refine QC (fun k' s' f' w' => (fun (_ : Unit) => ∃ (ay : PHeap) , PHeap.le aw ay ∧ St w0 ay (Res.box d 44 [m, n, o, p, q] :: Res.box x 92 [Value.string (a.Name), O (a.Cost), aa, ab, ac, t, u] :: H) w' ∧ Fx f' [(40, O (k' : Int)), (2, Vq d), (3, Vq x), (38, t), (39, O ((a.Changes.length : Int)))]) s') a6 ?_ ?_ ?_
  ·have cf := aJ.f1
   exact fq
  ·intro bl cJ bJ bN cW cq a8 l bh
   obtain ⟨b2, cw, al, ⟨bO, rfl⟩⟩ := a8
   obtain ⟨dm, bp, l⟩ := Zg l
   refine G ?_
   refine QI Z Z Z bp ?_
   intro bG c7 a4
   refine G ?_
   refine Zw (E := encGChange) al A97.h Z Z Z a4 ?_
   intro cP bq
   obtain ⟨cM, cN, cO, rfl, bx, bz, b0⟩ := Ji.1 bq
   refine G ?_
   refine Exec.alloc (cs := [Vn, Vn, Vn, O 0, Vb false]) al Z97 Z Z ?_
   intro bH cX cg
   refine G ?_
   refine Xst Z Z Z ?_
   intro cY aK
   obtain ⟨ag, j, l⟩ := Zg l
   refine g ?_
   refine Zc (Qs (M := fun f' w' => (fun (ag : Bool) => ∃ (az : PHeap) , PHeap.le b2 az ∧ St w0 az (Res.box d 44 [m, n, o, p, q] :: Res.box x 92 [Value.string (a.Name), O (a.Cost), aa, ab, ac, t, u] :: H) w' ∧ Fx f' [(2, Vq d), (3, Vq x), (38, t), (39, O ((a.Changes.length : Int))), (40, O ((bl : Int))), (61, Vb ag)]) ag) ?_ ?_)
   ·refine G ?_
    rcases Qv j with ⟨aU, j⟩ | ⟨aU, j⟩
    ·cases j
     refine G ?_
     exact fq
    refine G ?_
    rcases Qv j with ⟨aV, j⟩ | ⟨aV, j⟩
    ·cases j
     refine G ?_
     exact fq
    obtain ⟨dq, br, j⟩ := Zg j
    refine G ?_
    refine Tc Z Z Z Z (K1 br aK rq rq rq rq rq bx bz b0).r ?_
    rintro _ cZ ⟨cC, cx, ch, rfl⟩
    cases j
    refine G ?_
    exact fq
   intro bP da aD
   obtain ⟨cD, cy, ci, ⟨bQ, rfl⟩⟩ := aD
   refine G ?_
   rcases Qv l with ⟨aW, l⟩ | ⟨aW, l⟩
   ·cases l
    have bd := bf _ (bh (by intro _ h; cases h))
    cases bd
    refine G ?_
    exact fr
   cases l
   refine G ?_
   exact ⟨_, Z, fq⟩
  intro cK bR db a9 bi
  obtain ⟨cE, cz, cj, ⟨bS, rfl⟩⟩ := a9
  refine G ?_
  exact ⟨_, .inl bi, fq⟩
 rintro bT dc ⟨cL, ap, aE⟩
 have hm := ap.elim (bb _) (aO _)
 clear ap
 obtain ⟨a0, c0, aL, ⟨bU, rfl⟩⟩ := aE
 refine G ?_
 refine Kl (k := 3) (e := 4) aL Z ?_
 intro y dd aM
 obtain ⟨ak, a7, bg, bc, aP⟩ := Qu hm
 refine g ?_
 refine Zc (Zc (Zd (g ?_)))
 refine Qs (M := fun f' w' => ∃ s', (ak = .next s' ∨ ak = .brk s') ∧ (fun (ar : Q0) => ∃ (a1 : PHeap) , PHeap.le a0 a1 ∧ St w0 a1 (Res.box d 44 [m, n, o, p, q] :: Res.bmap Tryz.prog 3 4 y ar :: H) w' ∧ Fx f' [(2, Vq d), (7, Value.map (some y)), (65, u), (66, O ((a.Assigns.length : Int)))]) s') ?_ ?_
 ·refine G ?_
  refine QC (fun k' s' f' w' => (fun (ad : Q0) => ∃ (a2 : PHeap) , PHeap.le a0 a2 ∧ St w0 a2 (Res.box d 44 [m, n, o, p, q] :: Res.bmap Tryz.prog 3 4 y ad :: H) w' ∧ Fx f' [(67, O (k' : Int)), (2, Vq d), (7, Value.map (some y)), (65, u), (66, O ((a.Assigns.length : Int)))]) s') a7 ?_ ?_ ?_
  ·have ck := (aM.f2).drop
   exact fq
  ·intro bm ad bK bV de cr aA i bj
   obtain ⟨b3, c1, am, ⟨bW, rfl⟩⟩ := aA
   obtain ⟨ae, bs, i⟩ := Zg i
   refine G ?_
   refine QI Z Z Z bs ?_
   intro bI c8 a5
   refine G ?_
   refine Zw (E := encGAssign) am A108.h Z Z Z a5 ?_
   intro cQ bt
   obtain ⟨b4, rfl, b1⟩ := Qae.1 bt
   refine G ?_
   refine Exec.alloc (cs := [O 0, Value.string (⟨#[]⟩), O 0, Vn]) am Qj8 Z Z ?_
   intro ai df cl
   refine G ?_
   refine Xst Z Z Z ?_
   intro dg an
   obtain ⟨ah, c, i⟩ := Zg i
   refine g ?_
   refine Zc (Zc (Qs (M := fun f' w' => (fun (ah : Bool) => ∃ (a3 : PHeap) , PHeap.le b3 a3 ∧ St w0 a3 (Res.box d 44 [m, n, o, p, q] :: Res.bmap Tryz.prog 3 4 y ad :: Res.box ai 108 [O (ae.Fluent), Value.string (ae.Value.Op), O (ae.Value.N), b4] :: H) w' ∧ Fx f' [(2, Vq d), (7, Value.map (some y)), (9, Vq ai), (65, u), (66, O ((a.Assigns.length : Int))), (67, O ((bm : Int))), (96, Vb ah)]) ah) ?_ ?_))
   ·refine G ?_
    rcases Qv c with ⟨aX, c⟩ | ⟨aX, c⟩
    ·cases c
     refine G ?_
     exact fq
    refine G ?_
    rcases Qv c with ⟨aY, c⟩ | ⟨aY, c⟩
    ·cases c
     refine G ?_
     exact fq
    obtain ⟨c9, bu, c⟩ := Zg c
    refine G ?_
    refine Exec.bmap_get (an.f2) ⟨Tryz.underlying100, Tryz.underlying3, Tryz.underlying4⟩ Z4 Z Z Z bu (G ?_)
    rcases Qv c with ⟨aZ, c⟩ | ⟨aZ, c⟩
    ·cases c
     refine G ?_
     exact fq
    obtain ⟨dr, bv, c⟩ := Zg c
    refine G ?_
    refine Tc Z Z Z Z (JD bv an b1).r ?_
    rintro _ dh ⟨cF, c2, cm, rfl⟩
    cases c
    refine G ?_
    exact fq
   intro bX di aF
   obtain ⟨cG, c3, aN, ⟨bY, rfl⟩⟩ := aF
   refine G ?_
   rcases Qv i with ⟨ba, i⟩ | ⟨ba, i⟩
   ·cases i
    have be := bg _ (bj (by intro _ h; cases h))
    cases be
    refine G ?_
    exact fr
   obtain ⟨c6, bw, i⟩ := Zg i
   refine G ?_
   refine Kg aN.f1 ⟨Tryz.underlying100, Tryz.underlying3, Tryz.underlying4⟩ Z Z Z Z bw ?_
   intro dj cn
   cases i
   refine G ?_
   exact ⟨_, Z, fq⟩
  intro ad bZ dk aB bk
  obtain ⟨cH, c4, co, ⟨ca, rfl⟩⟩ := aB
  refine G ?_
  exact ⟨_, .inl bk, fq⟩
 rintro cb dl ⟨ar, aq, aG⟩
 have hm := aq.elim (bc _) (aP _)
 clear aq
 obtain ⟨cI, c5, cp, ⟨cc, rfl⟩⟩ := aG
 cases hm
 refine G ?_
 exact fr
theorem N36 : (Tryz.f36.name == "runtime.NumGoroutine") = false := by kernel_rfl
theorem QcF {w0 w : World} {s : PHeap} {H : List Res} {fu : Nat} {a : GOp} {c : Ground} {i : Value} {j : Value} {k : Value} {l : Value} {m : Value} {b f : Nat} {r : Bool} (hm : Kw fu a c = some r) (hS : St w0 s (H) w) (n : SliceRep (Qc .i64) s i a.Pre.Pos) (o : SliceRep (Qc .i64) s j a.Pre.Neg) (p : SliceRep encGTest s k a.Pre.Tests) (q : SliceRep encGChange s l a.Changes) (t : SliceRep encGAssign s m a.Assigns) (u : At s b f encGround c) :
  Calls Tryz.prog 36 #[Value.agg #[Value.string (a.Name), O (a.Cost), i, j, k, l, m], Value.pointer (some ⟨b, f, none⟩)] w fun e w' => ∃ v, e = .returned v ∧ ((fun (ae : Bool) => ∃ (g : PHeap) , PHeap.le s g ∧ St w0 g (H) w' ∧ v = Value.bool (ae)) r) := by
 unfold Kw at hm
 refine Ql Tryz.func36 Z Z (G ?_)
 refine JH Z Z ?_
 intro af ap d
 refine G ?_
 refine Zw (E := encGround) d A44.h Z Z Z u ?_
 intro ao x
 obtain ⟨aj, ak, al, am, an, rfl, z, aa, ab, ac, ad⟩ := Yh.1 x
 obtain ⟨ar, y, hm⟩ := Zg hm
 refine G ?_
 refine Tc Z Z Z Z (QcC y d z aa ab ac ad n o p q t).r ?_
 rintro _ aq ⟨ai, ah, ag, rfl⟩
 cases hm
 refine G ?_
 exact fr
end Go.Pw
