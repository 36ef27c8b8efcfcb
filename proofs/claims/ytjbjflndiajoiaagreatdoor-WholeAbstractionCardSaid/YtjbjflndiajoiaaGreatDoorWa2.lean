/- -/
import Derived.Test.YtjbjflndiajoiaaGreatDoorLC
import Derived.Test.YtjbjflndiajoiaaGreatDoorLD
import Derived.Test.YtjbjflndiajoiaaGreatDoorWa1
import Derived.Test.YtjbjflndiajoiaaGreatDoorWaSo
set_option maxRecDepth 100000
set_option maxHeartbeats 4000000
set_option linter.unusedVariables false
namespace Go.Pw
open Go.Proofs
attribute [local irreducible] Exec WL W andThen Qax DL QX
theorem QcQ {w0 w : World} {s : PHeap} {H : List Res} {c : (List Int)} {b d : Nat} {r : (List Int)} (hm : JT c = some r) (hS : St w0 s (H) w) (g : At s b d (Qm (U .i64)) c) :
  Calls Tryz.prog 22 #[Value.func (.func 53) #[] #[Value.pointer (some ⟨b, d, none⟩)]] w fun e w' => ∃ v, e = .returned v ∧ ((fun (l : (List Int)) => ∃ (a : PHeap) (f : Value), PHeap.le s a ∧ St w0 a (H) w' ∧ v = f ∧ SliceRep (U .i64) a f l) r) := by
 unfold JT at hm
 refine Qd Tryz.func22 Z Z ?_
 obtain ⟨n, j, hm⟩ := V hm
 refine G ?_
 refine Tc Z Z Z Z (QkE j hS g).r ?_
 rintro aa ab ⟨x, _, o, h, rfl⟩
 obtain ⟨p, k, hm⟩ := V hm
 refine G ?_
 refine Tc Z Z Z Z (QdL k h).r ?_
 rintro _ ac ⟨y, q, i, rfl⟩
 cases hm
 refine G ?_
 refine ⟨_, KR Z, ?_⟩
 obtain ⟨z, t, m, u⟩ := i.freezeArr
 exact fq
theorem Z3 : Ji Tryz.prog 3 = some (O 0) := by kernel_rfl
theorem Qce {w0 w : World} {s : PHeap} {H : List Res} {l : Int} {r : (List Int)} (hm : Ko l = some r) (hS : St w0 s (H) w) :
  Calls Tryz.prog 25 #[O l] w fun e w' => ∃ v, e = .returned v ∧ ((fun (ae : (List Int)) => ∃ (d : PHeap) (n : Value), PHeap.le s d ∧ St w0 d (H) w' ∧ v = n ∧ SliceRep (U .i64) d n ae) r) := by
 unfold Ko at hm
 refine Qd Tryz.func25 Z Z ?_
 obtain ⟨z, ab, hm⟩ := V hm
 refine G ?_
 refine JJ (E := (U .i64)) hS S22.h Z3 Z Z Z Z ab ?_
 intro o aw i
 refine G ?_
 refine Q0 (i) S22.h Z Z ?_
 obtain ⟨b, p, hm⟩ := V hm
 refine G ?_
 refine QO (fun k' s' f' w' => (fun (b : (List Int)) => ∃ (m : PHeap) , PHeap.le s m ∧ St w0 m (Res.arr (U .i64) 3 o b :: H) w' ∧ Fx f' [(9, O (k' : Int)), (3, o), (8, O ((z.length : Int)))]) s') p ?_ ?_ ?_
 ·exact fq
 ·intro am b ar ag ax y q a
  obtain ⟨ad, aa, j, ⟨ah, rfl⟩⟩ := q
  obtain ⟨a0, c, a⟩ := V a
  obtain ⟨ak, af, g⟩ := j.arr_at c
  refine G ?_
  refine Qa S22.h Z g Z (Qb c).1 (Qb c).2.1 ?_
  obtain ⟨an, ac, a⟩ := V a
  refine G ?_
  refine Qx j g A3.h Z Z Z Z (Qg.2 Z) ac ?_
  intro ay u
  cases a
  refine G ?_
  exact ⟨ad, aa, u, (Fx.mk (FxL.cons (QM y i.arr_le) fxl))⟩
 intro ai az t
 obtain ⟨au, ao, x, ⟨aj, rfl⟩⟩ := t
 cases hm
 refine G ?_
 refine ⟨_, KR Z, ?_⟩
 obtain ⟨av, ap, al, aq⟩ := x.freezeArr
 exact fq
theorem YZ {w0 w : World} {s : PHeap} {H : List Res} {d : (List Int)} {p : (List Int)} {i : Value} {j : Value} {r : Bool} (hm : Ja d p = some r) (hS : St w0 s (H) w) (l : SliceRep (U .i64) s i d) (y : SliceRep (U .i64) s j p) :
  Calls Tryz.prog 24 #[i, j] w fun e w' => ∃ v, e = .returned v ∧ ((fun (au : Bool) => ∃ (q : PHeap) , PHeap.le s q ∧ St w0 q (H) w' ∧ v = Value.bool (au)) r) := by
 unfold Ja at hm
 refine Qd Tryz.func24 Z Z (G ?_)
 rcases Qs hm with ⟨n, hm⟩ | ⟨n, hm⟩
 ·cases hm
  refine G ?_
  exact fr
 obtain ⟨m, ac, al, aj, ag⟩ := Qr hm
 refine W_c Z n (Qa4 (Jt (Ze (Zc (Zc (Zd (g ?_)))))))
 refine Qp (M := fun f' w' => ∃ s', (m = .next s' ∨ m = .brk s') ∧ (fun (_ : Unit) => ∃ (t : PHeap) , PHeap.le s t ∧ St w0 t (H) w' ∧ Fx f' [(0, i), (1, j), (12, O ((d.length : Int)))]) s') ?_ ?_
 ·refine G ?_
  refine QF (fun k' s' f' w' => (fun (_ : Unit) => ∃ (u : PHeap) , PHeap.le s u ∧ St w0 u (H) w' ∧ Fx f' [(13, O (k' : Int)), (0, i), (1, j), (12, O ((d.length : Int)))]) s') ac ?_ ?_ ?_
  ·exact fq
  ·intro a8 aF ab a0 aK ai ad a am
   obtain ⟨x, c, b, ⟨a1, rfl⟩⟩ := ad
   refine G ?_
   refine JE (n0 := 9) (qs 0 9 .done) JM (by kernel_rfl) (by kernel_rfl) ?_
   obtain ⟨aN, ao, a⟩ := V a
   refine G ?_
   refine Qy S22.h Z Z Z (l.mono c) ao ?_
   intro av aB z ax
   refine ⟨Z, ?_⟩
   refine G ?_
   refine Zw (E := (U .i64)) b.drew A3.h Z Z Z z ?_
   intro aI ap
   obtain rfl := Qg.1 ap
   refine ⟨Z, ?_⟩
   obtain ⟨aO, aq, a⟩ := V a
   refine G ?_
   refine Qy S22.h Z Z Z (y.mono c) aq ?_
   intro aw aC aa ay
   refine ⟨Z, ?_⟩
   refine G ?_
   refine Zw (E := (U .i64)) b.drew A3.h Z Z Z aa ?_
   intro aJ ar
   obtain rfl := Qg.1 ar
   refine ⟨Z, ?_⟩
   refine G ?_
   rcases Qs a with ⟨ah, a⟩ | ⟨ah, a⟩
   ·cases a
    have ak := al _ (am (by intro _ h; cases h))
    cases ak
    refine G ?_
    refine ⟨_, KR Z, ?_⟩
    exact ⟨x, c, b.drew, Z⟩
   have az := Zu a
   subst ab
   refine G ?_
   refine ⟨_, Z, ?_⟩; exact ⟨x, c, b.drew, (Fx.mk (FxL.cons (QM ai (SliceRep.le l)) fxl))⟩
  intro aG a2 aL ae an
  obtain ⟨aD, a9, a6, ⟨a3, rfl⟩⟩ := ae
  refine G ?_
  exact ⟨_, .inl an, fq⟩
 rintro a4 aM ⟨aH, o, af⟩
 have hm := o.elim (aj _) (ag _)
 clear o
 obtain ⟨aE, aA, a7, ⟨a5, rfl⟩⟩ := af
 cases hm
 refine G ?_
 exact fr
theorem Q8 {w0 w : World} {s : PHeap} {H : List Res} {b : (List Int)} {g : Value} {r : (List Int)} (hm : Qu b = some r) (hS : St w0 s (H) w) (c : SliceRep (U .i64) s g b) :
  Calls Tryz.prog 20 #[g] w fun e w' => ∃ v, e = .returned v ∧ ((fun (q : (List Int)) => ∃ (f : PHeap) (i : Value), PHeap.le s f ∧ St w0 f (Res.arr (U .i64) 3 i q :: H) w' ∧ v = i) r) := by
 unfold Qu at hm
 refine Qd Tryz.func20 Z Z ?_
 obtain ⟨j, z, u, k, n⟩ := c.nilShape
 refine G ?_
 refine QaR Tryz.underlying22 Z k Z (G ?_)
 rcases tf (j.isNone) with a | a
 ·have o := n a
  replace hm := (show (some []) = ((app 8 [] b).bind fun d => some d) from by simp [o, app]).trans hm
  refine QcA ((Zx a)) ?_
  cases hm
  refine G ?_
  refine ⟨_, KR Z, ?_⟩
  have x := hS.nilArr (U .i64) 3
  exact fq
 refine YW ((Zx a)) (G ?_)
 refine Exec.buildSlice (Te := 3) (cs := []) hS Z Qi (fun _ => by kernel_rfl) ?_
 intro t ab l
 refine G ?_
 have m := St.boxArr (E := (U .i64)) (xs := []) l rfl (by simp [maxLen])
 obtain ⟨d, p, hm⟩ := V hm
 refine G ?_
 refine QaI (E := (U .i64)) (ys := b) m S22.h Z3 Z (by decide) Z Z Z c p ?_
 intro aa ac y
 cases hm
 refine G ?_
 exact fr
theorem Z58 : Ji Tryz.prog 58 = some (Value.agg #[O 0, O 0, Value.slice none 0 0, Value.slice none 0 0, Value.slice none 0 0]) := by kernel_rfl
theorem QfP {w0 w : World} {s : PHeap} {H : List Res} {j : Task} {i : (List Int)} {l : Value} {m : Value} {n : Value} {o : Value} {c : Value} {r : (Option Int)} (hm : YI j i = some r) (hS : St w0 s (H) w) (ad : SliceRep (U .i64) s l j.Vars) (ae : SliceRep (U .i64) s m j.Init) (af : SliceRep encFact s n j.Goal) (ag : SliceRep encOp s o j.Ops) (a9 : SliceRep (U .i64) s c i) :
  Calls Tryz.prog 41 #[Value.agg #[l, m, n, o], c] w fun e w' => ∃ v, e = .returned v ∧ ((fun (a8 : (Option Int)) => ∃ (y : PHeap) , PHeap.le s y ∧ St w0 y (H) w' ∧ v = K4 52 (a8)) r) := by
 unfold YI at hm
 refine Qd Tryz.func41 Z Z (G ?_)
 refine Kq Z Z ?_
 intro d bf ao
 obtain ⟨bn, a2, hm⟩ := V hm
 refine G ?_
 refine Tc Z Z Z Z (Qae a2 ao ad ae af ag).r ?_
 rintro _ bg ⟨z, aQ, aL, rfl⟩
 refine G ?_
 refine Qv (T := 52) Tryz.underlying39 Z Z Z (G ?_)
 rcases Qs hm with ⟨u, hm⟩ | ⟨u, hm⟩
 ·cases hm
  refine G ?_
  exact fr
 obtain ⟨q, aj, ay, aw, ap⟩ := Qr hm
 refine W_c Z u (Qa4 (Jt (Ze (Zc (Zc (Zd (g ?_)))))))
 refine Qp (M := fun f' w' => ∃ s', (q = .next s' ∨ q = .brk s') ∧ (fun (_ : Unit) => ∃ (aa : PHeap) , PHeap.le z aa ∧ St w0 aa (Res.box d 26 [l, m, n, o] :: H) w' ∧ Fx f' [(1, c), (2, Vq d), (13, c), (14, O ((i.length : Int)))]) s') ?_ ?_
 ·refine G ?_
  refine QF (fun k' s' f' w' => (fun (_ : Unit) => ∃ (ab : PHeap) , PHeap.le z ab ∧ St w0 ab (Res.box d 26 [l, m, n, o] :: H) w' ∧ Fx f' [(15, O (k' : Int)), (1, c), (2, Vq d), (13, c), (14, O ((i.length : Int)))]) s') aj ?_ ?_ ?_
  ·exact fq
  ·intro a1 ba aC aD bh aP ak b az
   obtain ⟨a7, aR, t, ⟨aE, rfl⟩⟩ := ak
   obtain ⟨bl, a3, b⟩ := V b
   refine G ?_
   refine Jk Z Z Z a3 ?_
   intro aA aV ah
   refine G ?_
   refine Zw (E := (U .i64)) t A3.h Z Z Z ah ?_
   intro bd a4
   obtain rfl := Qg.1 a4
   obtain ⟨p, a, b⟩ := V b
   refine g ?_
   refine Zc (Qp (M := fun f' w' => (fun (p : Bool) => ∃ (ac : PHeap) , PHeap.le a7 ac ∧ St w0 ac (Res.box d 26 [l, m, n, o] :: H) w' ∧ Fx f' [(1, c), (2, Vq d), (13, c), (14, O ((i.length : Int))), (15, O ((a1 : Int))), (41, Vb p)]) p) ?_ ?_)
   ·refine G ?_
    rcases Qs a with ⟨aq, a⟩ | ⟨aq, a⟩
    ·cases a
     refine G ?_
     exact fq
    refine G ?_
    rcases Qs a with ⟨ar, a⟩ | ⟨ar, a⟩
    ·cases a
     refine G ?_
     exact fq
    refine G ?_
    rcases Qs a with ⟨au, a⟩ | ⟨au, a⟩
    ·obtain ⟨bm, a5, a⟩ := V a
     refine G ?_
     refine Jk Z Z Z a5 ?_
     intro aB aW ai
     refine G ?_
     refine Zw (E := (U .i64)) t A3.h Z Z Z ai ?_
     intro be a6
     obtain rfl := Qg.1 a6
     cases a
     refine G ?_
     exact fq
    cases a
    refine G ?_
    exact fq
   intro aF bi am
   obtain ⟨aX, aS, aM, ⟨aG, rfl⟩⟩ := am
   refine G ?_
   rcases Qs b with ⟨av, b⟩ | ⟨av, b⟩
   ·refine G ?_
    refine Exec.makeInterface C52 Z Z ?_
    cases b
    have ax := ay _ (az (by intro _ h; cases h))
    cases ax
    refine G ?_
    exact fr
   cases b
   refine G ?_
   exact ⟨_, Z, fq⟩
  intro bb aH bj al a0
  obtain ⟨aY, aT, aN, ⟨aI, rfl⟩⟩ := al
  refine G ?_
  exact ⟨_, .inl a0, fq⟩
 rintro aJ bk ⟨bc, x, an⟩
 have hm := x.elim (aw _) (ap _)
 clear x
 obtain ⟨aZ, aU, aO, ⟨aK, rfl⟩⟩ := an
 cases hm
 refine G ?_
 exact fr
instance A58 : ATy Tryz.prog 58 true 5 := ⟨by kernel_rfl⟩
theorem Qb1 {w0 w : World} {s : PHeap} {H : List Res} {b : Task} {n : (List Int)} {d : Value} {i : Value} {j : Value} {l : Value} {m : Value} {r : Int × Bool} (hm : K6 b n = some r) (hS : St w0 s (H) w) (av : SliceRep (U .i64) s d b.Vars) (aw : SliceRep (U .i64) s i b.Init) (ax : SliceRep encFact s j b.Goal) (ay : SliceRep encOp s l b.Ops) (az : SliceRep (U .i64) s m n) :
  Calls Tryz.prog 42 #[Value.agg #[d, i, j, l], m] w fun e w' => ∃ v, e = .returned v ∧ ((QI fun (ar : Int) (au : Bool) => ∃ (x : PHeap) , PHeap.le s x ∧ St w0 x (H) w' ∧ v = Value.tuple #[O ar, Value.bool (au)]) r) := by
 unfold K6 at hm
 refine Qd Tryz.func42 Z Z (G ?_)
 refine Kq Z Z ?_
 intro c aO a9
 obtain ⟨p, ac, ak, ai, ag⟩ := Qr hm
 refine g ?_
 refine Zc (Zd (g ?_))
 refine Zc (Zc (Zd (g ?_)))
 refine Qp (M := fun f' w' => ∃ s', (p = .next s' ∨ p = .brk s') ∧ (fun (u : Int) => ∃ (y : PHeap) , PHeap.le s y ∧ St w0 y (Res.box c 26 [d, i, j, l] :: H) w' ∧ Fx f' [(2, Vq c), (6, O u), (9, m), (10, O ((n.length : Int)))]) s') ?_ ?_
 ·refine G ?_
  refine QF (fun k' s' f' w' => (fun (o : Int) => ∃ (z : PHeap) , PHeap.le s z ∧ St w0 z (Res.box c 26 [d, i, j, l] :: H) w' ∧ Fx f' [(11, O (k' : Int)), (2, Vq c), (6, O o), (9, m), (10, O ((n.length : Int)))]) s') ac ?_ ?_ ?_
  ·exact fq
  ·intro aD o a2 a3 aP aC ad a al
   obtain ⟨aJ, aE, q, ⟨a4, rfl⟩⟩ := ad
   obtain ⟨aS, an, a⟩ := V a
   refine G ?_
   refine Jk Z Z Z an ?_
   intro a0 aH aa
   refine G ?_
   refine Zw (E := (U .i64)) q A3.h Z Z Z aa ?_
   intro aM ao
   obtain rfl := Qg.1 ao
   obtain ⟨aT, ap, a⟩ := V a
   refine G ?_
   refine Jk Z Z Z ap ?_
   intro a1 aI ab
   refine G ?_
   refine Zw (E := (U .i64)) q A3.h Z Z Z ab ?_
   intro aN aq
   obtain rfl := Qg.1 aq
   refine G ?_
   rcases Qs a with ⟨ah, a⟩ | ⟨ah, a⟩
   ·cases a
    have aj := ak _ (al (by intro _ h; cases h))
    cases aj
    refine G ?_
    refine ⟨_, QaL Z, ?_⟩
    exact fq
   cases a
   refine G ?_
   exact ⟨_, Z, fq⟩
  intro o a5 aQ ae am
  obtain ⟨aK, aF, aA, ⟨a6, rfl⟩⟩ := ae
  refine G ?_
  exact ⟨_, .inl am, fq⟩
 rintro a7 aR ⟨u, t, af⟩
 have hm := t.elim (ai _) (ag _)
 clear t
 obtain ⟨aL, aG, aB, ⟨a8, rfl⟩⟩ := af
 cases hm
 refine G ?_
 refine ⟨_, QaL Z, ?_⟩
 exact fq
theorem QcK {w0 w : World} {s : PHeap} {H : List Res} {c : Task} {p : (List Int)} {x : (List Int)} {i : Value} {j : Value} {l : Value} {m : Value} {n : Value} {o : Value} {r : Int} (hm : JX c p x = some r) (hS : St w0 s (H) w) (y : SliceRep (U .i64) s i c.Vars) (aq : SliceRep (U .i64) s j c.Init) (ar : SliceRep encFact s l c.Goal) (au : SliceRep encOp s m c.Ops) (z : SliceRep (U .i64) s n p) (aa : SliceRep (U .i64) s o x) :
  Calls Tryz.prog 43 #[Value.agg #[i, j, l, m], n, o] w fun e w' => ∃ v, e = .returned v ∧ ((fun (ap : Int) => ∃ (t : PHeap) , PHeap.le s t ∧ St w0 t (H) w' ∧ v = O ap) r) := by
 unfold JX at hm
 refine Qd Tryz.func43 Z Z (G ?_)
 refine Kq Z Z ?_
 intro q aG a4
 obtain ⟨g, ae, hm⟩ := V hm
 refine G ?_
 refine QO (fun k' s' f' w' => (fun (g : Int) => ∃ (u : PHeap) , PHeap.le s u ∧ St w0 u (Res.box q 26 [i, j, l, m] :: H) w' ∧ Fx f' [(12, O (k' : Int)), (2, o), (3, Vq q), (7, O g), (10, n), (11, O ((p.length : Int)))]) s') ae ?_ ?_ ?_
 ·exact fq
 ·intro a6 g aB a0 aH ah af a
  obtain ⟨ao, d, b, ⟨a1, rfl⟩⟩ := af
  obtain ⟨aJ, ai, a⟩ := V a
  refine G ?_
  refine Jk Z Z Z ai ?_
  intro av a8 ab
  refine G ?_
  refine Zw (E := (U .i64)) b A3.h Z Z Z ab ?_
  intro aD aj
  obtain rfl := Qg.1 aj
  refine G ?_
  refine JE (n0 := 12) (qs 0 12 .done) JM (by kernel_rfl) (by kernel_rfl) (G ?_)
  refine Zn (b.drew) A22.h Z Z Z ⟨Z, ?_⟩
  obtain ⟨aK, ak, a⟩ := V a
  refine G ?_
  refine Qy S22.h Z Z Z (y.mono d) ak ?_
  intro aw a9 ac ay
  refine ⟨Z, ?_⟩
  refine G ?_
  refine Zw (E := (U .i64)) b.drew A3.h Z Z Z ac ?_
  intro aE al
  obtain rfl := Qg.1 al
  refine ⟨Z, ?_⟩
  obtain ⟨aL, am, a⟩ := V a
  refine G ?_
  refine Qy S22.h Z Z Z (aa.mono d) am ?_
  intro ax aA ad az
  refine ⟨Z, ?_⟩
  refine G ?_
  refine Zw (E := (U .i64)) b.drew A3.h Z Z Z ad ?_
  intro aF an
  obtain rfl := Qg.1 an
  refine ⟨Z, ?_⟩
  cases a
  refine G ?_
  exact ⟨ao, d, b.drew, (Fx.mk (FxL.cons (QM ah (SliceRep.le z)) fxl))⟩
 intro a2 aI ag
 obtain ⟨aC, a7, a5, ⟨a3, rfl⟩⟩ := ag
 cases hm
 refine G ?_
 exact fr
instance S46 : STy Tryz.prog 46 22 1 24 := ⟨by kernel_rfl⟩
theorem Z22 : Ji Tryz.prog 22 = some (Value.slice none 0 0) := by kernel_rfl
instance F58_2 : FTy Tryz.prog 58 2 2 := ⟨by kernel_rfl⟩
theorem Qcy {w0 w : World} {s : PHeap} {H : List Res} {b : (List Int)} {c : Int} {d : Value} {r : Int} (hm : JD b c = some r) (hS : St w0 s (H) w) (ai : SliceRep (U .i64) s d b) :
  Calls Tryz.prog 73 #[d, O c] w fun e w' => ∃ v, e = .returned v ∧ ((fun (ah : Int) => ∃ (l : PHeap) , PHeap.le s l ∧ St w0 l (H) w' ∧ v = O ah) r) := by
 unfold JD at hm
 refine Qd Tryz.func73 Z Z ?_
 obtain ⟨i, p, ac, aa, y⟩ := Qr hm
 refine Zc (Zd (g ?_))
 refine Zc (Zc (Zd (g ?_)))
 refine Qp (M := fun f' w' => ∃ s', (i = .next s' ∨ i = .brk s') ∧ (fun (_ : Unit) => ∃ (m : PHeap) , PHeap.le s m ∧ St w0 m (H) w' ∧ Fx f' [(0, d), (1, O c), (7, O ((b.length : Int)))]) s') ?_ ?_
 ·refine G ?_
  refine QF (fun k' s' f' w' => (fun (_ : Unit) => ∃ (n : PHeap) , PHeap.le s n ∧ St w0 n (H) w' ∧ Fx f' [(8, O (k' : Int)), (0, d), (1, O c), (7, O ((b.length : Int)))]) s') p ?_ ?_ ?_
  ·exact fq
  ·intro aw a4 ak al a8 av q a ad
   obtain ⟨a1, ax, x, ⟨am, rfl⟩⟩ := q
   obtain ⟨aB, af, a⟩ := V a
   refine G ?_
   refine Jk Z Z Z af ?_
   intro aj a0 o
   refine G ?_
   refine Zw (E := (U .i64)) x A3.h Z Z Z o ?_
   intro a7 ag
   obtain rfl := Qg.1 ag
   refine G ?_
   rcases Qs a with ⟨z, a⟩ | ⟨z, a⟩
   ·cases a
    have ab := ac _ (ad (by intro _ h; cases h))
    cases ab
    refine G ?_
    exact fr
   cases a
   refine G ?_
   exact ⟨_, Z, fq⟩
  intro a5 an a9 t ae
  obtain ⟨a2, ay, ar, ⟨ao, rfl⟩⟩ := t
  refine G ?_
  exact ⟨_, .inl ae, fq⟩
 rintro ap aA ⟨a6, j, u⟩
 have hm := j.elim (aa _) (y _)
 clear j
 obtain ⟨a3, az, au, ⟨aq, rfl⟩⟩ := u
 cases hm
 refine G ?_
 exact fr
theorem Jn {w0 w : World} {s : PHeap} {H : List Res} {b : (List Int)} {c : Int} {d : Value} {r : Bool} (hm : QC b c = some r) (hS : St w0 s (H) w) (f : SliceRep (U .i64) s d b) :
  Calls Tryz.prog 46 #[d, O c] w fun e w' => ∃ v, e = .returned v ∧ ((fun (h : Bool) => ∃ (a : PHeap) , PHeap.le s a ∧ St w0 a (H) w' ∧ v = Value.bool (h)) r) := by
 unfold QC at hm
 refine Qd Tryz.func46 Z Z ?_
 obtain ⟨m, g, hm⟩ := V hm
 refine G ?_
 refine Tc Z Z Z Z (Qcy g hS f).r ?_
 rintro _ l ⟨k, j, i, rfl⟩
 cases hm
 refine G ?_
 exact fr
theorem QqZ : (Tryz.f101.name == "runtime.NumGoroutine") = false := by kernel_rfl
theorem Qfm {w0 w : World} {s : PHeap} {H : List Res} {a : Fact} {c : Int} {b d : Nat} {r : Bool} (hm : Yz a c = some r) (hS : St w0 s (H) w) (g : At s b d (U .i64) c) :
  Calls Tryz.prog 101 #[Value.agg #[O (a.Var), O (a.Val)], Value.pointer (some ⟨b, d, none⟩)] w fun e w' => ∃ v, e = .returned v ∧ ((fun (k : Bool) => ∃ (f : PHeap) , PHeap.le s f ∧ St w0 f (H) w' ∧ v = Value.bool (k)) r) := by
 unfold Yz at hm
 refine Qd Tryz.func101 Z Z (G ?_)
 refine Kq Z Z ?_
 intro l n i
 refine G ?_
 refine Zw (E := (U .i64)) i A3.h Z Z Z g ?_
 intro m j
 obtain rfl := Qg.1 j
 cases hm
 refine G ?_
 exact fr
theorem QdW {w0 w : World} {s : PHeap} {H : List Res} {d : (List Fact)} {j : Int} {i : Value} {b c : Nat} {r : Int} (hm : Ky d j = some r) (hS : St w0 s (H) w) (an : SliceRep encFact s i d) (t : At s b c (U .i64) j) :
  Calls Tryz.prog 138 #[i, Value.func (.func 101) #[] #[Value.pointer (some ⟨b, c, none⟩)]] w fun e w' => ∃ v, e = .returned v ∧ ((fun (am : Int) => ∃ (o : PHeap) , PHeap.le s o ∧ St w0 o (H) w' ∧ v = O am) r) := by
 unfold Ky at hm
 refine Qd Tryz.func138 Z Z ?_
 obtain ⟨l, x, af, ad, ab⟩ := Qr hm
 refine Zc (Zd (g ?_))
 refine Zc (Zc (Zd (g ?_)))
 refine Qp (M := fun f' w' => ∃ s', (l = .next s' ∨ l = .brk s') ∧ (fun (_ : Unit) => ∃ (p : PHeap) , PHeap.le s p ∧ St w0 p (H) w' ∧ Fx f' [(0, i), (1, Value.func (.func 101) #[] #[Vp (some ⟨b, c, none⟩)]), (7, O ((d.length : Int)))]) s') ?_ ?_
 ·refine G ?_
  refine QF (fun k' s' f' w' => (fun (_ : Unit) => ∃ (q : PHeap) , PHeap.le s q ∧ St w0 q (H) w' ∧ Fx f' [(8, O (k' : Int)), (0, i), (1, Value.func (.func 101) #[] #[Vp (some ⟨b, c, none⟩)]), (7, O ((d.length : Int)))]) s') x ?_ ?_ ?_
  ·exact fq
  ·intro a2 aB ap aq aF a1 y a ag
   obtain ⟨a7, ai, m, ⟨ar, rfl⟩⟩ := y
   obtain ⟨al, aj, a⟩ := V a
   refine G ?_
   refine Jk Z Z Z aj ?_
   intro ao a6 u
   refine G ?_
   refine Zw (E := encFact) m A36.h Z Z Z u ?_
   intro aE ak
   obtain rfl := JH.1 ak
   refine G ?_
   refine Qib Z Z Tryz.func101 Z QqZ (Zi Z Qw) Z ((Qfm (QcL al j) m (t.mono ai)).mono ?_)
   rintro _ aG ⟨_, rfl, ⟨a8, a3, ay, rfl⟩⟩
   refine ⟨_, Z, ?_⟩
   refine G ?_
   rcases Qs a with ⟨ac, a⟩ | ⟨ac, a⟩
   ·cases a
    have ae := af _ (ag (by intro _ h; cases h))
    cases ae
    refine G ?_
    exact fr
   cases a
   refine G ?_
   exact ⟨_, Z, fq⟩
  intro aC au aH z ah
  obtain ⟨a9, a4, az, ⟨av, rfl⟩⟩ := z
  refine G ?_
  exact ⟨_, .inl ah, fq⟩
 rintro aw aI ⟨aD, n, aa⟩
 have hm := n.elim (ad _) (ab _)
 clear n
 obtain ⟨aA, a5, a0, ⟨ax, rfl⟩⟩ := aa
 cases hm
 refine G ?_
 exact fr
theorem Qfs {w0 w : World} {s : PHeap} {H : List Res} {f : (List Fact)} {b : Int} {g : Value} {a c : Nat} {r : Bool} (hm : Qau f b = some r) (hS : St w0 s (H) w) (h : SliceRep encFact s g f) (i : At s a c (U .i64) b) :
  Calls Tryz.prog 100 #[g, Value.func (.func 101) #[] #[Value.pointer (some ⟨a, c, none⟩)]] w fun e w' => ∃ v, e = .returned v ∧ ((fun (k : Bool) => ∃ (d : PHeap) , PHeap.le s d ∧ St w0 d (H) w' ∧ v = Value.bool (k)) r) := by
 unfold Qau at hm
 refine Qd Tryz.func100 Z Z ?_
 obtain ⟨p, j, hm⟩ := V hm
 refine G ?_
 refine Tc Z Z Z Z (QdW j hS h i).r ?_
 rintro _ o ⟨n, m, l, rfl⟩
 cases hm
 refine G ?_
 exact fr
theorem QgM {w0 w : World} {s : PHeap} {H : List Res} {b : (List Fact)} {a : Int} {d : Value} {r : Bool} (hm : Qa9 b a = some r) (hS : St w0 s (H) w) (k : SliceRep encFact s d b) :
  Calls Tryz.prog 71 #[d, O a] w fun e w' => ∃ v, e = .returned v ∧ ((fun (j : Bool) => ∃ (c : PHeap) , PHeap.le s c ∧ St w0 c (H) w' ∧ v = Value.bool (j)) r) := by
 unfold Qa9 at hm
 refine Qd Tryz.func71 Z Z (G ?_)
 refine Kq Z Z ?_
 intro l t f
 refine G ?_
 obtain ⟨p, n, g, i⟩ := St.freezeVar (E := (U .i64)) (y := a) f rfl
 refine G ?_
 refine Exec.makeFunc Z (Zi Z Qw) ?_
 obtain ⟨x, h, hm⟩ := V hm
 refine G ?_
 refine Tc Z Z Z Z (Qfs h g rq i).r ?_
 rintro _ u ⟨q, o, m, rfl⟩
 cases hm
 refine G ?_
 exact fr
theorem Qcg {w0 w : World} {s : PHeap} {H : List Res} {b : (List Int)} {i : Int} {c : Value} {r : Int} (hm : KD b i = some r) (hS : St w0 s (Res.arr (U .i64) 3 c b :: H) w) :
  Calls Tryz.prog 73 #[c, O i] w fun e w' => ∃ v, e = .returned v ∧ ((fun (ak : Int) => ∃ (o : PHeap) , PHeap.le s o ∧ St w0 o (Res.arr (U .i64) 3 c b :: H) w' ∧ v = O ak) r) := by
 unfold KD at hm
 refine Qd Tryz.func73 Z Z (G ?_)
 refine Q0 (hS) S22.h Z Z ?_
 obtain ⟨l, t, ae, ac, z⟩ := Qr hm
 refine g ?_
 refine Qp (M := fun f' w' => ∃ s', (l = .next s' ∨ l = .brk s') ∧ (fun (_ : Unit) => ∃ (p : PHeap) , PHeap.le s p ∧ St w0 p (Res.arr (U .i64) 3 c b :: H) w' ∧ Fx f' [(0, c), (1, O i), (7, O ((b.length : Int)))]) s') ?_ ?_
 ·refine G ?_
  refine QF (fun k' s' f' w' => (fun (_ : Unit) => ∃ (q : PHeap) , PHeap.le s q ∧ St w0 q (Res.arr (U .i64) 3 c b :: H) w' ∧ Fx f' [(8, O (k' : Int)), (0, c), (1, O i), (7, O ((b.length : Int)))]) s') t ?_ ?_ ?_
  ·exact fq
  ·intro ay a3 al an a7 ab u a af
   obtain ⟨aj, ah, j, ⟨ao, rfl⟩⟩ := u
   obtain ⟨aA, d, a⟩ := V a
   obtain ⟨av, am, m⟩ := j.arr_at d
   refine G ?_
   refine Qa S22.h Z m Z (Qb d).1 (Qb d).2.1 (G ?_)
   refine Qf (F := (U .i64)) (j) m A3.h Z Z Z d (Sub.refl _) ?_
   intro a6 ai
   obtain rfl := Qg.1 ai
   refine G ?_
   rcases Qs a with ⟨aa, a⟩ | ⟨aa, a⟩
   ·cases a
    have ad := ae _ (af (by intro _ h; cases h))
    cases ad
    refine G ?_
    exact fr
   cases a
   refine G ?_
   refine ⟨_, Z, ?_⟩; exact ⟨aj, ah, j, (Fx.mk (FxL.cons (QM ab hS.arr_le) fxl))⟩
  intro a4 ap a8 x ag
  obtain ⟨a1, az, aw, ⟨aq, rfl⟩⟩ := x
  refine G ?_
  exact ⟨_, .inl ag, fq⟩
 rintro ar a9 ⟨a5, n, y⟩
 have hm := n.elim (ac _) (z _)
 clear n
 obtain ⟨a2, a0, ax, ⟨au, rfl⟩⟩ := y
 cases hm
 refine G ?_
 exact fr
theorem Qb5 {w0 w : World} {s : PHeap} {H : List Res} {a : (List Int)} {d : Int} {b : Value} {r : Bool} (hm : JC a d = some r) (hS : St w0 s (Res.arr (U .i64) 3 b a :: H) w) :
  Calls Tryz.prog 46 #[b, O d] w fun e w' => ∃ v, e = .returned v ∧ ((fun (g : Bool) => ∃ (c : PHeap) , PHeap.le s c ∧ St w0 c (Res.arr (U .i64) 3 b a :: H) w' ∧ v = Value.bool (g)) r) := by
 unfold JC at hm
 refine Qd Tryz.func46 Z Z ?_
 obtain ⟨l, f, hm⟩ := V hm
 refine G ?_
 refine Tc Z Z Z Z (Qcg f hS).r ?_
 rintro _ k ⟨j, i, h, rfl⟩
 cases hm
 refine G ?_
 exact fr
theorem QeL {w0 w : World} {s : PHeap} {H : List Res} {a : Op} {aj : (List Int)} {n : Value} {i : Value} {o : Value} {r : (List Int)} (hm : Yf a aj = some r) (hS : St w0 s (H) w) (aT : SliceRep encFact s n a.Pre) (aU : SliceRep encEffect s i a.Effs) (aV : SliceRep (U .i64) s o aj) :
  Calls Tryz.prog 44 #[Value.agg #[Value.string (a.Name), O (a.Cost), n, i], o] w fun e w' => ∃ v, e = .returned v ∧ ((fun (aS : (List Int)) => ∃ (aa : PHeap) (ao : Value), PHeap.le s aa ∧ St w0 aa (H) w' ∧ v = ao ∧ SliceRep (U .i64) aa ao aS) r) := by
 unfold Yf at hm
 refine Qd Tryz.func44 Z Z (G ?_)
 refine Kq Z Z ?_
 intro j bU a1
 obtain ⟨z, ar, hm⟩ := V hm
 refine G ?_
 refine QO (fun k' s' f' w' => (fun (z : (List Int)) => ∃ (ak : PHeap) (u : Value), PHeap.le s ak ∧ St w0 ak (Res.box j 32 [Value.string (a.Name), O (a.Cost), n, i] :: Res.arr (U .i64) 3 u z :: H) w' ∧ Fx f' [(13, O (k' : Int)), (1, o), (2, Vq j), (5, u), (11, i), (12, O ((a.Effs.length : Int)))]) s') ar ?_ ?_ ?_
 ·have bm := a1.nilArr (U .i64) 3
  exact fq
 ·intro x z bG ba bV bv av d
  obtain ⟨bH, u, bx, ag, ⟨bb, rfl⟩⟩ := av
  obtain ⟨ad, aF, d⟩ := V d
  refine G ?_
  refine Jk Z Z Z aF ?_
  intro aW bC ap
  refine G ?_
  refine Zw (E := encEffect) ag A34.h Z Z Z ap ?_
  intro bR aG
  obtain ⟨ab, rfl, bE⟩ := KG.1 aG
  refine G ?_
  refine Exec.alloc (cs := [Vn, O 0, O 0]) ag Z34 Z Z ?_
  intro aX bW bn
  refine G ?_
  refine KJ Z Z Z ?_
  intro bX a2
  obtain ⟨cm, aH, d⟩ := V d
  refine G ?_
  refine Tc Z Z Z Z (Jn aH a2 rq).r ?_
  rintro _ bY ⟨aP, bz, a3, rfl⟩
  refine G ?_
  rcases Qs d with ⟨aB, d⟩ | ⟨aB, d⟩
  ·cases d
   refine G ?_
   exact fq
  obtain ⟨t, au, d⟩ := V d
  refine G ?_
  refine QO (fun k' s' f' w' => (fun (t : (List Int)) => ∃ (al : PHeap) (p : Value), PHeap.le aP al ∧ St w0 al (Res.box j 32 [Value.string (a.Name), O (a.Cost), n, i] :: Res.arr (U .i64) 3 p t :: H) w' ∧ Fx f' [(25, O (k' : Int)), (1, o), (2, Vq j), (5, p), (11, i), (12, O ((a.Effs.length : Int))), (13, O ((x : Int))), (23, ab), (24, O ((ad.When.length : Int)))]) s') au ?_ ?_ ?_
  ·have bo := a3.drop
   exact fq
  ·intro ai t bI bc bZ bw aw l
   obtain ⟨aQ, p, b0, ah, ⟨bd, rfl⟩⟩ := aw
   obtain ⟨q, aI, l⟩ := V l
   refine G ?_
   refine Jk Z Z Z aI ?_
   intro aY bD aq
   refine G ?_
   refine Zw (E := encFact) ah A36.h Z Z Z aq ?_
   intro bS aJ
   obtain rfl := JH.1 aJ
   refine G ?_
   refine Exec.alloc (cs := [O 0, O 0]) ah Z36 Z Z ?_
   intro af ca bp
   refine G ?_
   refine KJ Z Z Z ?_
   intro cb a4
   obtain ⟨ae, b, l⟩ := V l
   refine g ?_
   refine Zc (Qp (M := fun f' w' => (fun (ae : Bool) => ∃ (am : PHeap) , PHeap.le aQ am ∧ St w0 am (Res.box j 32 [Value.string (a.Name), O (a.Cost), n, i] :: Res.arr (U .i64) 3 p t :: Res.box af 36 [O (q.Var), O (q.Val)] :: H) w' ∧ Fx f' [(1, o), (2, Vq j), (5, p), (9, Vq af), (11, i), (12, O ((a.Effs.length : Int))), (13, O ((x : Int))), (23, ab), (24, O ((ad.When.length : Int))), (25, O ((ai : Int))), (48, Vb ae)]) ae) ?_ ?_)
   ·obtain ⟨cn, aK, b⟩ := V b
    refine G ?_
    refine Tc Z Z Z Z (Jn aK a4 rq).r ?_
    rintro _ cc ⟨bJ, b1, a5, rfl⟩
    refine G ?_
    rcases Qs b with ⟨aC, b⟩ | ⟨aC, b⟩
    ·obtain ⟨co, aL, b⟩ := V b
     refine G ?_
     refine Tc Z Z Z Z (QgM aL a5 rq).r ?_
     rintro _ cd ⟨bK, b2, a6, rfl⟩
     refine G ?_
     rcases Qs b with ⟨aD, b⟩ | ⟨aD, b⟩
     ·obtain ⟨cp, aM, b⟩ := V b
      refine G ?_
      refine Tc Z Z Z Z (Qb5 aM a6.f2).r ?_
      rintro _ ce ⟨bL, b3, bq, rfl⟩
      cases b
      refine G ?_
      exact fq
     cases b
     refine G ?_
     exact fq
    cases b
    refine G ?_
    exact fq
   intro be cf az
   obtain ⟨aR, b4, a7, ⟨bf, rfl⟩⟩ := az
   obtain ⟨y, m, l⟩ := V l
   refine g ?_
   refine Qp (M := fun f' w' => (fun (y : (List Int)) => ∃ (an : PHeap) (ac : Value), PHeap.le aR an ∧ St w0 an (Res.box j 32 [Value.string (a.Name), O (a.Cost), n, i] :: Res.arr (U .i64) 3 ac y :: H) w' ∧ Fx f' [(1, o), (2, Vq j), (5, ac), (11, i), (12, O ((a.Effs.length : Int))), (13, O ((x : Int))), (23, ab), (24, O ((ad.When.length : Int))), (25, O ((ai : Int)))]) y) ?_ ?_
   ·rcases Qs m with ⟨aE, m⟩ | ⟨aE, m⟩
    ·refine G ?_
     refine Exec.buildSlice (Te := 3) (cs := [O (q.Var)]) a7 Z (Qc (c := [O (q.Var)]) (Qe Z Z) Qi) (fun _ => by kernel_rfl) ?_
     intro aZ cg a8
     obtain ⟨b5, aN, m⟩ := V m
     refine G ?_
     refine Q5 (E := (U .i64)) (ys := [q.Var]) a8.f2 S22.h Z3 Z (by decide) Z Z Z Z ⟨[O (q.Var)], [], Z, Z, Z⟩ Z aN ?_
     intro bT ch br
     cases m
     refine G ?_
     exact fq
    cases m
    refine G ?_
    exact fq
   intro bg ci a0
   obtain ⟨bM, ac, b6, bs, ⟨bh, rfl⟩⟩ := a0
   cases l
   refine G ?_
   exact fq
  intro bi cj ax
  obtain ⟨bN, p, b7, bt, ⟨bj, rfl⟩⟩ := ax
  cases d
  refine G ?_
  exact fq
 intro bk ck ay
 obtain ⟨bO, u, b8, a9, ⟨bl, rfl⟩⟩ := ay
 obtain ⟨b9, aO, hm⟩ := V hm
 refine G ?_
 refine Tc Z Z Z Z (QdL aO a9.f1).r ?_
 rintro _ cl ⟨bP, bA, aA, rfl⟩
 cases hm
 refine G ?_
 refine ⟨_, KR Z, ?_⟩
 obtain ⟨bQ, bB, bu, bF⟩ := aA.freezeArr
 exact fq
end Go.Pw
