/- -/
import Derived.Test.YtfcmpbkafbhdgaaGreatDoorLC
import Derived.Test.YtfcmpbkafbhdgaaGreatDoorLD
import Derived.Test.YtfcmpbkafbhdgaaGreatDoorWc3
import Derived.Test.YtfcmpbkafbhdgaaGreatDoorWcX2
set_option maxRecDepth 100000
set_option maxHeartbeats 4000000
set_option linter.unusedVariables false
namespace Go.Pw
open Go.Proofs
attribute [local irreducible] Exec WL W andThen Y0 DL QB
theorem K8 {w0 w : World} {s : PHeap} {H : List Res} {c : Task} {o : Int} {p : (List Fact)} {t : Value} {u : Value} {x : Value} {y : Value} {z : Value} {r : (List (List Fact)) × (Option Int)} (hm : Q3 c o p = some r) (hS : St w0 s (H) w) (ac : SliceRep (Qc .i64) s t c.Vars) (ad : SliceRep (Qc .i64) s u c.Init) (ae : SliceRep encFact s x c.Goal) (af : SliceRep encOp s y c.Ops) (ag : SliceRep encFact s z p) :
  Calls Tryz.prog 24 #[Value.agg #[t, u, x, y], U o, z] w fun e w' => ∃ v, e = .returned v ∧ ((QK fun (a7 : (List (List Fact))) (a8 : (Option Int)) => ∃ (j : PHeap) (aa : Value), PHeap.le s j ∧ St w0 j (H) w' ∧ v = Value.tuple #[aa, Yc 39 (a8)] ∧ SliceRep (Qa encFact) j aa a7) r) := by
 unfold Q3 at hm
 refine Qb Tryz.func24 Z Z (G ?_)
 refine Yz Z Z ?_
 intro a9 bf ak
 obtain ⟨a6, av, hm⟩ := Zg hm
 obtain ⟨bo, bp⟩ := a6
 replace hm := Qy hm
 refine G ?_
 refine Tc Z Z Z Z (Qcw av ak ac ad ae af ag).r ?_
 rintro _ bg ⟨aV, bc, aL, al, rfl, a1⟩
 refine G ?_
 refine Qh (T := 39) Tryz.underlying35 Z Z Z (G ?_)
 rcases Qk hm with ⟨aq, hm⟩ | ⟨aq, hm⟩
 ·cases hm
  refine G ?_
  refine ⟨_, KA Z, ?_⟩
  exact V
 obtain ⟨bq, aw, hm⟩ := Zg hm
 refine G ?_
 refine Tc Z Z Z Z (QcI aw al a1).r ?_
 rintro ab bh ⟨aW, _, aM, am, rfl⟩
 obtain ⟨au, ax, hm⟩ := Zg hm
 refine G ?_
 refine Tc Z Z Z Z (Qgb ax am).r ?_
 rintro _ bi ⟨a4, aN, d, rfl⟩
 refine G ?_
 refine Qv (d) S70.h Z Z ?_
 obtain ⟨i, ah, hm⟩ := Zg hm
 refine G ?_
 refine J8 (fun k' s' f' w' => (fun (i : (List (List Fact))) => ∃ (q : PHeap) , PHeap.le a4 q ∧ St w0 q (Res.arr (Qa encFact) 23 ab i :: H) w' ∧ Fx f' [(28, U (k' : Int)), (10, ab), (27, U ((au.length : Int)))]) s') ah ?_ ?_ ?_
 ·have aI := (d.f1).drop
  exact V
 ·intro aK i aX aC bj ar ai a
  obtain ⟨aY, aO, g, ⟨aD, rfl⟩⟩ := ai
  obtain ⟨bn, b, a⟩ := Zg a
  obtain ⟨aG, aA, l⟩ := g.arr_at b
  refine G ?_
  refine Qe S70.h Z l Z (Qf b).1 (Qf b).2.1 (G ?_)
  refine Qs (F := (Qa encFact)) (g) l A23.h Z Z Z b (Sub.refl _) ?_
  intro bd ay
  have a2 := Qr.1 ay
  obtain ⟨br, az, a⟩ := Zg a
  refine G ?_
  refine Tc Z Z Z Z (JY az g a2).r ?_
  rintro be bk ⟨aZ, _, aP, n, rfl⟩
  obtain ⟨aH, aB, m⟩ := (n.f1).arr_at b
  refine G ?_
  refine Qe S70.h Z m Z (Qf b).1 (Qf b).2.1 ?_
  obtain ⟨a5, aQ, an, a3⟩ := n.freezeArr
  obtain ⟨aR, a0, a⟩ := Zg a
  refine G ?_
  refine Jd an m A23.h Z Z Z Z (Qr.2 a3) a0 ?_
  intro bl ao
  cases a
  refine G ?_
  exact ⟨a5, lq, ao, (Fx.mk (FxL.cons (Ja ar d.arr_le) fxl))⟩
 intro aE bm aj
 obtain ⟨ba, aS, ap, ⟨aF, rfl⟩⟩ := aj
 cases hm
 refine G ?_
 refine ⟨_, KA Z, ?_⟩
 obtain ⟨bb, aT, aJ, aU⟩ := ap.freezeArr
 exact V
theorem Qnh : (Tryz.f188.name == "runtime.NumGoroutine") = false := by kernel_rfl
theorem Qbv {w0 w : World} {s : PHeap} {H : List Res} {j : (List certify_entry)} {a : certify_entry} {d : Nat} {l : Value} {b : Value} {r : (List certify_entry)} (hm : JT j a = some r) (hS : St w0 s (Res.box d 62 [l] :: Res.arr enccertify_entry 60 l j :: H) w) (n : SliceRep encFact s b a.facts) :
  Calls Tryz.prog 188 #[Value.pointer (some ⟨d, 0, none⟩), Value.iface 60 (Value.agg #[b, U (a.dist), U (a.order)])] w fun e w' => ∃ v, e = .returned v ∧ ((fun (q : (List certify_entry)) => ∃ (k : PHeap) (m : Value), PHeap.le s k ∧ St w0 k (Res.box d 62 [m] :: Res.arr enccertify_entry 60 m q :: H) w' ∧ v = Value.tuple #[]) r) := by
 unfold JT at hm
 refine Qb Tryz.func188 Z Z (G ?_)
 refine Qcu C60 Z Z (G ?_)
 refine Exec.alloc (cs := [Vn, U 0, U 0]) hS Z60 Z Z ?_
 intro u aa y
 refine G ?_
 refine Yo Z Z Z ?_
 intro ab f
 refine G ?_
 refine KG (n0 := 7) (qs 0 5 (.e 5 [0, 1, 2, 3] (.e 6 [0] .done))) Yp (by kernel_rfl) (by kernel_rfl) (G ?_)
 refine Zn ((f.drew).f1) A62.h Z Z Z ⟨Z, ?_⟩
 refine G ?_
 refine JM (ds := [b, U (a.dist), U (a.order)]) (f.drew) A60.h Z Z Z ⟨Z, ?_⟩
 refine G ?_
 refine Exec.buildSlice (Te := 60) (cs := [b, U (a.dist), U (a.order)]) f.drew Z (Qd (c := [b, U (a.dist), U (a.order)]) (Qi Z Z) Qg) (fun _ => by kernel_rfl) ?_
 intro x ac o
 refine ⟨agq, ?_⟩
 obtain ⟨z, t, hm⟩ := Zg hm
 refine G ?_
 refine Q0 (E := enccertify_entry) (ys := [a]) o.f3 S62.h Z60 Z (by decide) Z Z Z Z ⟨[b, U (a.dist), U (a.order)], [], Z, ⟨[b], [U (a.dist), U (a.order)], Z, ⟨_, Z, n⟩, ⟨[U (a.dist)], [U (a.order)], Z, Z, Z⟩⟩, Z⟩ Z t ?_
 intro i ad g
 refine ⟨agq, ?_⟩
 refine G ?_
 refine Qp (ds := [i]) (es := [i]) g.f2 A62.h Z Z Z (Q5 ((g.f2).f1).arr_one) (Zj ((g.f2).f1).arr_one QV) (Nat.le_of_ble_eq_true Z) Z ?_
 intro ae p
 cases hm
 refine G ?_
 refine ⟨_, Qgn Z, ?_⟩
 exact ⟨s, i, (Zv _), (((p.f2).drop).f1).f1, Z⟩
theorem Qj6 : Y1 Tryz.prog 57 "Push" = some (188, true) := by kernel_rfl
theorem QeJ {w0 w : World} {s : PHeap} {H : List Res} {m : (List certify_entry)} {q : Int} {c : Nat} {b : Value} {r : (List certify_entry)} (hm : Y3 m q = some r) (hS : St w0 s (Res.box c 62 [b] :: Res.arr enccertify_entry 60 b m :: H) w) :
  Calls Tryz.prog 56 #[Value.iface 57 (Value.pointer (some ⟨c, 0, none⟩)), U q] w fun e w' => ∃ v, e = .returned v ∧ ((fun (ak : (List certify_entry)) => ∃ (x : PHeap) , PHeap.le s x ∧ St w0 x (Res.box c 62 [b] :: Res.arr enccertify_entry 60 b ak :: H) w' ∧ v = Value.tuple #[]) r) := by
 unfold Y3 at hm
 refine Qb Tryz.func56 Z Z ?_
 obtain ⟨l, ab, a3, ai, af⟩ := Qo hm
 refine Qm (M := fun f' w' => ∃ s', (l = .next s' ∨ l = .brk s') ∧ (QK fun (t : Int) (u : (List certify_entry)) => ∃ (y : PHeap) , PHeap.le s y ∧ St w0 y (Res.box c 62 [b] :: Res.arr enccertify_entry 60 b u :: H) w' ∧ Fx f' [(0, Value.iface 57 (Vq c)), (1, U t)]) s') ?_ ?_
 ·refine G ?_
  refine Y8 (fun s' f' w' => (QK fun (i : Int) (j : (List certify_entry)) => ∃ (z : PHeap) , PHeap.le s z ∧ St w0 z (Res.box c 62 [b] :: Res.arr enccertify_entry 60 b j :: H) w' ∧ Fx f' [(0, Value.iface 57 (Vq c)), (1, U i)]) s') ab ?_ ?_
  ·have az := hS.f1
   exact V
  intro ao aq ar aE ac a aj
  obtain ⟨i, j⟩ := ao
  replace a := Qy a
  obtain ⟨an, a4, n, ⟨au, rfl⟩⟩ := ac
  refine G ?_
  refine Exec.quo Z Z Z (by decide) ?_
  obtain ⟨k, d, a⟩ := Zg a
  refine g ?_
  refine Zc (Zc (Qm (M := fun f' w' => (fun (k : Bool) => ∃ (aa : PHeap) , PHeap.le an aa ∧ St w0 aa (Res.box c 62 [b] :: Res.arr enccertify_entry 60 b j :: H) w' ∧ Fx f' [(0, Value.iface 57 (Vq c)), (1, U i), (4, U (IntKind.i64.wrap ((IntKind.i64.wrap (i - 1)).tdiv 2))), (17, Vb k)]) k) ?_ ?_))
  ·refine G ?_
   rcases Qk d with ⟨ag, d⟩ | ⟨ag, d⟩
   ·cases d
    refine G ?_
    exact V
   obtain ⟨aJ, al, d⟩ := Zg d
   refine G ?_
   refine Ku Qen Tryz.underlying57 A62.h (n.f1).f1 Z Z Z Tryz.func186 Z QlM (Zi Z (Zi Z Qw)) ((Kj al n.f1).mono ?_)
   rintro _ aF ⟨_, rfl, ⟨aA, a5, a0, rfl⟩⟩
   refine ⟨_, Z, ?_⟩
   cases d
   refine G ?_
   exact V
  intro av aG ad
  obtain ⟨aB, a6, o, ⟨aw, rfl⟩⟩ := ad
  refine G ?_
  rcases Qk a with ⟨ah, a⟩ | ⟨ah, a⟩
  ·cases a
   refine G ?_
   exact ⟨_, .inr (aj (by intro _ h; cases h)), V⟩
  obtain ⟨a7, am, a⟩ := Zg a
  refine G ?_
  refine Ku Qem Tryz.underlying57 A62.h (o.f1).f1 Z Z Z Tryz.func189 Z QlL (Zi Z (Zi Z Qw)) ((Ki am o.f1).mono ?_)
  rintro _ aH ⟨_, rfl, ⟨aC, a8, a1, rfl⟩⟩
  refine ⟨_, Z, ?_⟩
  cases a
  refine G ?_
  exact ⟨_, Z, V⟩
 rintro ax aI ⟨ap, p, ae⟩
 have hm := p.elim (ai _) (af _)
 clear p
 obtain ⟨t, u⟩ := ap
 replace hm := Qy hm
 obtain ⟨aD, a9, a2, ⟨ay, rfl⟩⟩ := ae
 refine ?_
 cases hm
 refine ⟨_, Qgn Z, ?_⟩
 exact V
theorem Qbn {w0 w : World} {s : PHeap} {H : List Res} {c : (List certify_entry)} {a : certify_entry} {b : Nat} {g : Value} {i : Value} {r : (List certify_entry)} (hm : Jo c a = some r) (hS : St w0 s (Res.box b 62 [g] :: Res.arr enccertify_entry 60 g c :: H) w) (k : SliceRep encFact s i a.facts) :
  Calls Tryz.prog 25 #[Value.iface 57 (Value.pointer (some ⟨b, 0, none⟩)), Value.iface 60 (Value.agg #[i, U (a.dist), U (a.order)])] w fun e w' => ∃ v, e = .returned v ∧ ((fun (m : (List certify_entry)) => ∃ (f : PHeap) (j : Value), PHeap.le s f ∧ St w0 f (Res.box b 62 [j] :: Res.arr enccertify_entry 60 j m :: H) w' ∧ v = Value.tuple #[]) r) := by
 unfold Jo at hm
 refine Qb Tryz.func25 Z Z ?_
 obtain ⟨n, o, hm⟩ := Zg hm
 refine G ?_
 refine QdL Qj6 Tryz.underlying57 Z Z Tryz.func188 Z Qnh (Zi Z Qw) ((Qbv o (hS.f1).f1 k).mono ?_)
 rintro _ ad ⟨_, rfl, ⟨z, ac, t, d, rfl⟩⟩
 refine ⟨_, Z, ?_⟩
 refine G ?_
 refine Ku QhG Tryz.underlying57 A62.h (d.f1).f1 Z Z Z Tryz.func20 Z N20 Qw ((Km (J0 n) d.f1).mono ?_)
 rintro _ ae ⟨_, rfl, ⟨aa, u, l, rfl⟩⟩
 refine ⟨_, Z, ?_⟩
 obtain ⟨x, p, hm⟩ := Zg hm
 refine G ?_
 refine Tc Z Z Z Z (QeJ p l.f1).r ?_
 rintro _ af ⟨ab, y, q, rfl⟩
 cases hm
 refine G ?_
 refine ⟨_, Qgn Z, ?_⟩
 exact V
theorem Qbw {w0 w : World} {s : PHeap} {H : List Res} {b : (List Nogood)} {m : (List Fact)} {c : Value} {d i : Nat} {r : Int} (hm : Jx b m = some r) (hS : St w0 s (Res.arr encNogood 69 c b :: H) w) (x : At s d i (Qa encFact) m) :
  Calls Tryz.prog 73 #[c, Value.func (.func 50) #[] #[Value.pointer (some ⟨d, i, none⟩)]] w fun e w' => ∃ v, e = .returned v ∧ ((fun (aq : Int) => ∃ (q : PHeap) , PHeap.le s q ∧ St w0 q (Res.arr encNogood 69 c b :: H) w' ∧ v = U aq) r) := by
 unfold Jx at hm
 refine Qb Tryz.func73 Z Z (G ?_)
 refine Qv (hS) S31.h Z Z ?_
 obtain ⟨n, y, ai, ag, ad⟩ := Qo hm
 refine g ?_
 refine Qm (M := fun f' w' => ∃ s', (n = .next s' ∨ n = .brk s') ∧ (fun (_ : Unit) => ∃ (t : PHeap) , PHeap.le s t ∧ St w0 t (Res.arr encNogood 69 c b :: H) w' ∧ Fx f' [(0, c), (1, Value.func (.func 50) #[] #[Vp (some ⟨d, i, none⟩)]), (7, U ((b.length : Int)))]) s') ?_ ?_
 ·refine G ?_
  refine Q2 (fun k' s' f' w' => (fun (_ : Unit) => ∃ (u : PHeap) , PHeap.le s u ∧ St w0 u (Res.arr encNogood 69 c b :: H) w' ∧ Fx f' [(8, U (k' : Int)), (0, c), (1, Value.func (.func 50) #[] #[Vp (some ⟨d, i, none⟩)]), (7, U ((b.length : Int)))]) s') y ?_ ?_ ?_
  ·exact V
  ·intro a4 aB ar av aG af z a aj
   obtain ⟨a8, al, l, ⟨aw, rfl⟩⟩ := z
   obtain ⟨aK, j, a⟩ := Zg a
   obtain ⟨a1, au, o⟩ := l.arr_at j
   refine G ?_
   refine Qe S31.h Z o Z (Qf j).1 (Qf j).2.1 (G ?_)
   refine Qs (F := encNogood) (l) o A69.h Z Z Z j (Sub.refl _) ?_
   intro aF am
   obtain ⟨aE, rfl, ao⟩ := Jr.1 am
   obtain ⟨aL, an, a⟩ := Zg a
   refine G ?_
   refine Qdl Z Z Tryz.func50 Z N50 (Zi Z Qw) Z ((Qb8 an l ao (x.mono al)).mono ?_)
   rintro _ aH ⟨_, rfl, ⟨ap, a5, ac, rfl⟩⟩
   refine ⟨_, Z, ?_⟩
   refine G ?_
   rcases Qk a with ⟨ae, a⟩ | ⟨ae, a⟩
   ·cases a
    have ah := ai _ (aj (by intro _ h; cases h))
    cases ah
    refine G ?_
    exact fr
   cases a
   refine G ?_
   refine ⟨_, Z, ?_⟩; exact ⟨ap, lq, ac, (Fx.mk (FxL.cons (Ja af hS.arr_le) fxl))⟩
  intro aC ax aI aa ak
  obtain ⟨a9, a6, a2, ⟨ay, rfl⟩⟩ := aa
  refine G ?_
  exact ⟨_, .inl ak, V⟩
 rintro az aJ ⟨aD, p, ab⟩
 have hm := p.elim (ag _) (ad _)
 clear p
 obtain ⟨aA, a7, a3, ⟨a0, rfl⟩⟩ := ab
 cases hm
 refine G ?_
 exact fr
theorem Qch {w0 w : World} {s : PHeap} {H : List Res} {a : (List Nogood)} {d : (List Fact)} {b : Value} {c f : Nat} {r : Bool} (hm : K9 a d = some r) (hS : St w0 s (Res.arr encNogood 69 b a :: H) w) (h : At s c f (Qa encFact) d) :
  Calls Tryz.prog 49 #[b, Value.func (.func 50) #[] #[Value.pointer (some ⟨c, f, none⟩)]] w fun e w' => ∃ v, e = .returned v ∧ ((fun (j : Bool) => ∃ (g : PHeap) , PHeap.le s g ∧ St w0 g (Res.arr encNogood 69 b a :: H) w' ∧ v = Value.bool (j)) r) := by
 unfold K9 at hm
 refine Qb Tryz.func49 Z Z ?_
 obtain ⟨o, i, hm⟩ := Zg hm
 refine G ?_
 refine Tc Z Z Z Z (Qbw i hS h).r ?_
 rintro _ n ⟨m, l, k, rfl⟩
 cases hm
 refine G ?_
 exact fr
theorem QbU {w0 w : World} {s : PHeap} {H : List Res} {b : (List Fact)} {a : (List Nogood)} {c : Value} {d : Value} {r : Bool} (hm : JC b a = some r) (hS : St w0 s (Res.arr encNogood 69 d a :: H) w) (f : SliceRep encFact s c b) :
  Calls Tryz.prog 22 #[c, d] w fun e w' => ∃ v, e = .returned v ∧ ((fun (l : Bool) => ∃ (g : PHeap) , PHeap.le s g ∧ St w0 g (Res.arr encNogood 69 d a :: H) w' ∧ v = Value.bool (l)) r) := by
 unfold JC at hm
 refine Qb Tryz.func22 Z Z (G ?_)
 refine Exec.box (cs := [c]) hS Z Z (Q5 f.one) ?_
 intro m u h
 refine G ?_
 obtain ⟨q, o, i, k⟩ := QaA (E := (Qa encFact)) (y := b) h ⟨_, rfl, f⟩
 refine G ?_
 refine Exec.makeFunc Z (Zi Z Qw) ?_
 obtain ⟨z, j, hm⟩ := Zg hm
 refine G ?_
 refine Tc Z Z Z Z (Qch j i k).r ?_
 rintro _ x ⟨t, p, n, rfl⟩
 cases hm
 refine G ?_
 exact fr
theorem Yh {w0 w : World} {s : PHeap} {H : List Res} {af : Task} {i : Int} {ak : Int} {ag : Value} {ah : Value} {ai : Value} {m : Value} {r : (Option Int) × Certificate} (hm : Jg af i ak = some r) (hS : St w0 s (H) w) (aW : SliceRep (Qc .i64) s ag af.Vars) (a6 : SliceRep (Qc .i64) s ah af.Init) (a7 : SliceRep encFact s ai af.Goal) (ay : SliceRep encOp s m af.Ops) :
  Calls Tryz.prog 8 #[Value.agg #[ag, ah, ai, m], U i, U ak] w fun e w' => ∃ v, e = .returned v ∧ ((QK fun (dv : (Option Int)) (bJ : Certificate) => ∃ (aQ : PHeap) (bF : Value), PHeap.le s aQ ∧ St w0 aQ (H) w' ∧ v = Value.tuple #[Value.agg #[U (bJ.Bound), bF], Yc 39 (dv)] ∧ SliceRep encNogood aQ bF bJ.Nogoods) r) := by
 unfold Jg at hm
 refine Qb Tryz.func8 Z Z (G ?_)
 refine Exec.box (cs := [ag, ah, ai, m]) hS Z Z Z ?_
 intro n eJ cc
 refine G ?_
 refine Exec.alloc (cs := [U 0, Vn]) cc Z33 Z Z ?_
 intro o eK cd
 obtain ⟨f7, cD, hm⟩ := Zg hm
 refine G ?_
 refine Tc Z Z Z (Zi Z Qw) (QaK cD cd aW a6 a7 ay).r ?_
 rintro _ eL ⟨cW, l, ba, rfl⟩
 refine G ?_
 refine Qh (T := 39) Tryz.underlying35 Z Z Z (G ?_)
 rcases QO hm with ⟨aA, hm⟩ | ⟨aA, hm⟩
 ·refine G ?_
  refine Exec.build Z Qg (v := Value.agg #[U 0, Vn]) (fun _ => by kernel_rfl) (G ?_)
  refine Qp (ds := [U 0, Vn]) (es := [U 0, Vn]) ba A33.h Z Z Z Z (Zj Z (Zj Z QV)) (Nat.le_of_ble_eq_true Z) Z ?_
  intro eM bb
  have d4 := Zu hm
  subst r
  refine G ?_
  refine ⟨_, QaF Z ⟨_, _, Z, JJ (bb) A33.h⟩ Z, ?_⟩
  exact ⟨cW, Vn, l, (bb.drop).drop, (Qfa Z Z), (SliceRep.nil _ _)⟩
 replace aA := Zk aA
 refine G ?_
 refine Tc Z Z Z (Zi Z Qw) (QcL (Qa6 i) ba).r ?_
 rintro _ eN ⟨cX, t, bc, rfl⟩
 refine G ?_
 rcases QO hm with ⟨aB, hm⟩ | ⟨aB, hm⟩
 ·refine G ?_
  refine Exec.build Z Qg (v := Value.agg #[U 0, Vn]) (fun _ => by kernel_rfl) (G ?_)
  refine Exec.makeInterface C39 Z Z (G ?_)
  refine Qp (ds := [U 0, Vn]) (es := [U 0, Vn]) bc A33.h Z Z Z Z (Zj Z (Zj Z QV)) (Nat.le_of_ble_eq_true Z) Z ?_
  intro eO bd
  have d5 := Zu hm
  subst r
  refine G ?_
  refine ⟨_, QaF Z ⟨_, _, Z, JJ (bd) A33.h⟩ Z, ?_⟩
  exact ⟨cX, Vn, (Zt l t), (bd.drop).drop, (Qfa Z Z), (SliceRep.nil _ _)⟩
 replace aB := Zk aB
 refine G ?_
 refine Exec.build Z (Qd (c := [U i]) (Qi Z Z) Qg) (v := Value.agg #[U i, Vn]) (fun _ => by kernel_rfl) (G ?_)
 refine Exec.alloc (cs := [U 0, Vn]) bc Z33 Z Z ?_
 intro p eP ce
 refine G ?_
 refine Qp (ds := [U i, Vn]) (es := [U i, Vn]) ce A33.h Z Z Z Z (Zj Z (Zj Z QV)) (Nat.le_of_ble_eq_true Z) Z ?_
 intro eQ be
 refine G ?_
 rcases QO hm with ⟨aC, hm⟩ | ⟨aC, hm⟩
 ·refine G ?_
  refine Qp (ds := [U i, Vn]) (es := [U i, Vn]) be.f1 A33.h Z Z Z Z (Zj Z (Zj Z QV)) (Nat.le_of_ble_eq_true Z) Z ?_
  intro eR cf
  have d6 := Zu hm
  subst r
  refine G ?_
  refine ⟨_, QaF Z ⟨_, _, Z, JJ (cf) A33.h⟩ Z, ?_⟩
  exact V
 replace aC := Zk aC
 refine G ?_
 refine QcD Z Z Z (G ?_)
 refine Qeo Z Z Z ?_
 obtain ⟨dw, cE, hm⟩ := Zg hm
 refine G ?_
 refine Tc Z Z Z (Zi Z Qw) (JY cE be (a7.mono (Zt l t))).r ?_
 rintro ap eS ⟨e4, _, ab, bf, rfl⟩
 refine G ?_
 refine Exec.build Z (Qd (c := [ap]) (Qi Z (Q5 bf.arr_one)) Qg) (v := Value.agg #[ap, U 0, U 0]) (fun _ => by kernel_rfl) ?_
 obtain ⟨aR, ac, cg, cT⟩ := bf.freezeArr
 refine G ?_
 refine Exec.buildSlice (Te := 60) (cs := [ap, U 0, U 0]) cg Z (Qd (c := [ap, U 0, U 0]) (Qi Z Z) Qg) (fun _ => by kernel_rfl) ?_
 intro aX eT ch
 refine G ?_
 refine Exec.box (cs := [Vs (some ⟨aX, 0, none⟩) 1 1]) ch Z Z Z ?_
 intro q eU ci
 have cj := St.boxArr (E := enccertify_entry) (xs := [(⟨dw, 0, 0⟩ : certify_entry)]) ci.f1 ⟨[ap, U 0, U 0], [], rfl, ⟨[ap], [U 0, U 0], rfl, ⟨_, rfl, cT⟩, ⟨[U 0], [U 0], rfl, rfl, rfl⟩⟩, rfl⟩ (by simp [maxLen])
 obtain ⟨aY, bP, a2, c2, cz⟩ := Qo hm
 refine g ?_
 refine Zc (Zd (g ?_))
 refine Zc (Qm (M := fun f' w' => ∃ s', (aY = .next s' ∨ aY = .brk s') ∧ (K3 fun (b0 : Int) (bK : (List Nogood)) (bv : (List certify_entry)) => ∃ (b6 : PHeap) (aS : Value) (aT : Value), PHeap.le aR b6 ∧ St w0 b6 (Res.box n 26 [ag, ah, ai, m] :: Res.box o 33 [U 0, Vn] :: Res.box p 33 [U i, aS] :: Res.box q 62 [aT] :: Res.arr encNogood 69 aS bK :: Res.arr enccertify_entry 60 aT bv :: H) w' ∧ Fx f' [(1, U i), (2, U (max 0 (min ak 4096))), (3, Vq n), (6, Vq o), (9, Vq p), (10, Vq q), (11, U b0)]) s') ?_ ?_)
 ·refine G ?_
  refine Y8 (fun s' f' w' => (K3 fun (b1 : Int) (bL : (List Nogood)) (aL : (List certify_entry)) => ∃ (b7 : PHeap) (a4 : Value) (aU : Value), PHeap.le aR b7 ∧ St w0 b7 (Res.box n 26 [ag, ah, ai, m] :: Res.box o 33 [U 0, Vn] :: Res.box p 33 [U i, a4] :: Res.box q 62 [aU] :: Res.arr encNogood 69 a4 bL :: Res.arr enccertify_entry 60 aU aL :: H) w' ∧ Fx f' [(1, U i), (2, U (max 0 (min ak 4096))), (3, Vq n), (6, Vq o), (9, Vq p), (10, Vq q), (11, U b1)]) s') bP ?_ ?_
  ·have ck := cj.nilArr encNogood 69
   exact ⟨aR, Vn, (Vs (some ⟨aX, 0, none⟩) 1 1), (Zv _), (((((ck.f1).f1).f2).f3).f4).f5, (Fx.mk)⟩
  intro de az dJ eV bT b aq
  obtain ⟨b1, bL, aL⟩ := de
  replace b := Js b
  obtain ⟨e5, a4, aU, x, cl, ⟨dK, rfl⟩⟩ := bT
  refine G ?_
  refine Tc Z Z Z (Zi Z Qw) (Km (J0 aL) cl.f5).r ?_
  rintro _ eW ⟨e6, y, cm, rfl⟩
  refine G ?_
  rcases QO b with ⟨aD, b⟩ | ⟨aD, b⟩
  ·refine G ?_
   refine Exec.makeInterface C57 Z Z ?_
   obtain ⟨df, cF, b⟩ := Zg b
   obtain ⟨d, em⟩ := df
   replace b := Qy b
   refine G ?_
   refine Tc Z Z Z (Zi Z Qw) (Qet cF cm.f4).r ?_
   rintro _ eX ⟨e7, u, bG, z, cn, rfl, ao⟩
   refine G ?_
   refine Qcu C60 Z Z (G ?_)
   refine Exec.alloc (cs := [Vn, U 0, U 0]) cn Z60 Z Z ?_
   intro aj eY co
   refine G ?_
   refine Qp (ds := [u, U (d.dist), U (d.order)]) (es := [u, U (d.dist), U (d.order)]) co A60.h Z Z Z Z (Zj ao.one (Zj Z (Zj Z QV))) (Nat.le_of_ble_eq_true Z) Z ?_
   intro eZ cp
   obtain ⟨f8, cG, b⟩ := Zg b
   refine G ?_
   refine Tc Z Z Z (Zi Z (Zi Z Qw)) (QbU cG cp.f6 ao).r ?_
   rintro _ fa ⟨cY, j, bg, rfl⟩
   refine G ?_
   rcases QO b with ⟨aE, b⟩ | ⟨aE, b⟩
   ·cases b
    refine G ?_
    refine ⟨_, Z, ?_⟩; exact ⟨cY, a4, bG, (Zt (Zt (Zt x y) z) j), (((((((bg.f1).drop).f2).f1).f2).f5).f5).f5, (Fx.mk)⟩
   replace aE := Zk aE
   obtain ⟨f9, cH, b⟩ := Zg b
   refine G ?_
   refine Tc Z Z Z (Zi Z (Zi Z Qw)) (Qcs cH bg (ao.mono j) (a6.mono (Zt (Zt (Zt (Zt (Zt (Zt (Zt l t) ab) ac) x) y) z) j))).r ?_
   rintro _ fb ⟨av, aa, a1, rfl⟩
   refine G ?_
   rcases QO b with ⟨aF, b⟩ | ⟨aF, b⟩
   ·refine G ?_
    refine Exec.build Z Qg (v := Value.agg #[U 0, Vn]) (fun _ => by kernel_rfl) (G ?_)
    refine Exec.makeInterface C39 Z Z (G ?_)
    refine Qp (ds := [U 0, Vn]) (es := [U 0, Vn]) a1.f5 A33.h Z Z Z Z (Zj Z (Zj Z QV)) (Nat.le_of_ble_eq_true Z) Z ?_
    intro fc bh
    have d7 := Zu b
    subst az
    have c4 := a2 _ (aq (by intro _ h; cases h))
    have d8 := Zu c4
    subst r
    refine G ?_
    refine ⟨_, QaF Z ⟨_, _, Z, JJ (bh) A33.h⟩ Z, ?_⟩
    exact ⟨av, Vn, (Zt (Zt (Zt (Zt (Zt (Zt (Zt (Zt l t) ab) ac) x) y) z) j) aa), ((((((bh.drop).drop).drop).drop).drop).drop).drop, (Qfa Z Z), (SliceRep.nil _ _)⟩
   replace aF := Zk aF
   refine G ?_
   refine Qv (a1) S31.h Z Z (G ?_)
   rcases QO b with ⟨aG, b⟩ | ⟨aG, b⟩
   ·refine G ?_
    refine Exec.build Z Qg (v := Value.agg #[U 0, Vn]) (fun _ => by kernel_rfl) (G ?_)
    refine Exec.makeInterface C39 Z Z (G ?_)
    refine Qp (ds := [U 0, Vn]) (es := [U 0, Vn]) a1.f5 A33.h Z Z Z Z (Zj Z (Zj Z QV)) (Nat.le_of_ble_eq_true Z) Z ?_
    intro fd bi
    have d9 := Zu b
    subst az
    have c5 := a2 _ (aq (by intro _ h; cases h))
    have dA := Zu c5
    subst r
    refine G ?_
    refine ⟨_, QaF Z ⟨_, _, Z, JJ (bi) A33.h⟩ Z, ?_⟩
    exact ⟨av, Vn, (Zt (Zt (Zt (Zt (Zt (Zt (Zt (Zt l t) ab) ac) x) y) z) j) aa), ((((((bi.drop).drop).drop).drop).drop).drop).drop, (Qfa Z Z), (SliceRep.nil _ _)⟩
   replace aG := Zk aG
   refine G ?_
   refine Exec.build Z (Qd (c := [u]) (Qi Z (Q5 ((ao.mono lq)).one)) (Qd (c := [U (d.dist)]) (Qi Z Z) Qg)) (v := Value.agg #[u, U (d.dist)]) (fun _ => by kernel_rfl) (G ?_)
   refine Exec.buildSlice (Te := 69) (cs := [u, U (d.dist)]) a1 Z (Qd (c := [u, U (d.dist)]) (Qi Z Z) Qg) (fun _ => by kernel_rfl) ?_
   intro dz fe cq
   obtain ⟨a3, cI, b⟩ := Zg b
   refine G ?_
   refine Q0 (E := encNogood) (ys := [(⟨d.facts, d.dist⟩ : Nogood)]) cq.f1 S31.h Z69 Z (by decide) Z Z Z Z ⟨[u, U (d.dist)], [], Z, ⟨[u], [U (d.dist)], Z, ⟨_, Z, (ao.mono (Zt j aa))⟩, Z⟩, Z⟩ Z cI ?_
   intro ad ff a8
   refine G ?_
   refine Qp (ds := [ad]) (es := [U i, ad]) a8.f6 A31.h Z Z Z (Q5 ((a8.f6).f1).arr_one) (Zj ((a8.f6).f1).arr_one QV) (Nat.le_of_ble_eq_true Z) Z ?_
   intro fg cr
   obtain ⟨aZ, bQ, bs, c3, c0⟩ := Qo b
   refine g ?_
   refine Zc (Zd (g ?_))
   refine Qm (M := fun f' w' => ∃ s', (aZ = .next s' ∨ aZ = .brk s') ∧ (QK fun (b2 : Int) (bw : (List certify_entry)) => ∃ (b8 : PHeap) (aV : Value), PHeap.le av b8 ∧ St w0 b8 (Res.box n 26 [ag, ah, ai, m] :: Res.box o 33 [U 0, Vn] :: Res.box p 33 [U i, ad] :: Res.box q 62 [aV] :: Res.box aj 60 [u, U (d.dist), U (d.order)] :: Res.arr encNogood 69 ad a3 :: Res.arr enccertify_entry 60 aV bw :: H) w' ∧ Fx f' [(1, U i), (2, U (max 0 (min ak 4096))), (3, Vq n), (6, Vq o), (9, Vq p), (10, Vq q), (11, U b2), (12, Vq aj), (88, m), (89, U ((af.Ops.length : Int)))]) s') ?_ ?_
   ·refine G ?_
    refine Q2 (fun k' s' f' w' => (QK fun (aP : Int) (aM : (List certify_entry)) => ∃ (b9 : PHeap) (aw : Value), PHeap.le av b9 ∧ St w0 b9 (Res.box n 26 [ag, ah, ai, m] :: Res.box o 33 [U 0, Vn] :: Res.box p 33 [U i, ad] :: Res.box q 62 [aw] :: Res.box aj 60 [u, U (d.dist), U (d.order)] :: Res.arr encNogood 69 ad a3 :: Res.arr enccertify_entry 60 aw aM :: H) w' ∧ Fx f' [(90, U (k' : Int)), (1, U i), (2, U (max 0 (min ak 4096))), (3, Vq n), (6, Vq o), (9, Vq p), (10, Vq q), (11, U aP), (12, Vq aj), (88, m), (89, U ((af.Ops.length : Int)))]) s') bQ ?_ ?_ ?_
    ·have ct := cr.f4
     exact ⟨av, bG, (Zv _), (((((ct.f2).f3).f4).f4).f6).f6, (Fx.mk)⟩
    ·intro bu dg a0 dL fh br bU a bt
     obtain ⟨aP, aM⟩ := dg
     replace a := Qy a
     obtain ⟨cZ, aw, ae, bj, ⟨dM, rfl⟩⟩ := bU
     obtain ⟨an, cJ, a⟩ := Zg a
     refine G ?_
     refine Jn S24.h Z Z Z (ay.mono (Zt (Zt (Zt (Zt (Zt (Zt (Zt (Zt (Zt l t) ab) ac) x) y) z) j) aa) ae)) cJ ?_
     intro d0 ez bM
     refine G ?_
     refine Zw (E := encOp) bj A48.h Z Z Z bM ?_
     intro eH cK
     obtain ⟨bD, bE, rfl, cU, cV⟩ := KY.1 cK
     refine G ?_
     refine Exec.alloc (cs := [Value.string (⟨#[]⟩), U 0, Vn, Vn]) bj Z48 Z Z ?_
     intro d1 fi cu
     refine G ?_
     refine Qp (ds := [Value.string (an.Name), U (an.Cost), bD, bE]) (es := [Value.string (an.Name), U (an.Cost), bD, bE]) cu A48.h Z Z Z Z (Zj Z (Zj Z (Zj cU.one (Zj cV.one QV)))) (Nat.le_of_ble_eq_true Z) Z ?_
     intro fj a9
     refine G ?_
     rcases QO a with ⟨aH, a⟩ | ⟨aH, a⟩
     ·obtain ⟨dh, cL, a⟩ := Zg a
      obtain ⟨dx, fA⟩ := dh
      replace a := Qy a
      refine G ?_
      refine Tc Z Z Z (Zi Z (Zi Z (Zi Z Qw))) (K8 cL a9 rq rq rq rq rq).r ?_
      rintro _ fk ⟨bA, dr, bx, bk, rfl, b3⟩
      refine G ?_
      refine Qh (T := 39) Tryz.underlying35 Z Z Z (G ?_)
      rcases QO a with ⟨aI, a⟩ | ⟨aI, a⟩
      ·refine G ?_
       refine Exec.build Z Qg (v := Value.agg #[U 0, Vn]) (fun _ => by kernel_rfl) (G ?_)
       refine Qp (ds := [U 0, Vn]) (es := [U 0, Vn]) bk.f2 A33.h Z Z Z Z (Zj Z (Zj Z QV)) (Nat.le_of_ble_eq_true Z) Z ?_
       intro fl bl
       have dB := Zu a
       subst a0
       have c6 := bs _ (bt (by intro _ h; cases h))
       have dC := Zu c6
       subst az
       have c7 := a2 _ (aq (by intro _ h; cases h))
       have dD := Zu c7
       subst r
       refine G ?_
       refine ⟨_, QaF Z ⟨_, _, Z, JJ (bl) A33.h⟩ Z, ?_⟩
       exact ⟨bA, Vn, (Zt (Zt (Zt (Zt (Zt (Zt (Zt (Zt (Zt (Zt l t) ab) ac) x) y) z) j) aa) ae) bx), (((((((bl.drop).drop).drop).drop).drop).drop).drop).drop, (Qfa Z Z), (SliceRep.nil _ _)⟩
      replace aI := Zk aI
      obtain ⟨di, bR, a⟩ := Zg a
      refine G ?_
      refine J8 (fun k' s' f' w' => (QK fun (ar : Int) (aN : (List certify_entry)) => ∃ (bB : PHeap) (ax : Value), PHeap.le bA bB ∧ St w0 bB (Res.box n 26 [ag, ah, ai, m] :: Res.box o 33 [U 0, Vn] :: Res.box p 33 [U i, ad] :: Res.box q 62 [ax] :: Res.box aj 60 [u, U (d.dist), U (d.order)] :: Res.arr encNogood 69 ad a3 :: Res.arr enccertify_entry 60 ax aN :: H) w' ∧ Fx f' [(119, U (k' : Int)), (1, U i), (2, U (max 0 (min ak 4096))), (3, Vq n), (6, Vq o), (9, Vq p), (10, Vq q), (11, U ar), (12, Vq aj), (16, U 0), (88, m), (89, U ((af.Ops.length : Int))), (90, U ((bu : Int))), (117, dr), (118, U ((dx.length : Int)))]) s') bR ?_ ?_ ?_
      ·have eb := bk.drop
       exact V
      ·intro ek dj da dN fm c1 bV al
       obtain ⟨ar, aN⟩ := dj
       replace al := Qy al
       obtain ⟨e8, ax, bz, bm, ⟨dO, rfl⟩⟩ := bV
       obtain ⟨fz, cM, al⟩ := Zg al
       refine G ?_
       refine Jn S70.h Z Z Z (b3.mono bz) cM ?_
       intro d2 e0 bN
       refine G ?_
       refine Zw (E := (Qa encFact)) bm A23.h Z Z Z bN ?_
       intro bH cN
       have b4 := Qr.1 cN
       refine G ?_
       refine Exec.makeInterface C57 Z Z (G ?_)
       refine Exec.build Z (Qd (c := [bH]) (Qi Z (Q5 b4.one)) (Qd (c := [U 0]) (Qi Z Z) (Qd (c := [U ar]) (Qi Z Z) Qg))) (v := Value.agg #[bH, U 0, U ar]) (fun _ => by kernel_rfl) (G ?_)
       refine Exec.makeInterface C60 Z Z ?_
       obtain ⟨en, cO, al⟩ := Zg al
       refine G ?_
       refine Tc Z Z Z (Zi Z (Zi Z Qw)) (Qbn cO (bm.f6).f4 b4).r ?_
       rintro _ fn ⟨db, dt, cB, cv, rfl⟩
       have dE := Zu al
       subst da
       refine G ?_
       exact ⟨db, dt, (Zt bz cB), ((((((cv.f1).f6).f6).f3).f6).f6).f6, (Fx.mk (FxL.cons (Ja c1 (SliceRep.le b3)) fxl))⟩
      intro dP fo bW
      obtain ⟨ar, aN⟩ := di
      replace a := Qy a
      obtain ⟨dc, ax, cC, cw, ⟨dQ, rfl⟩⟩ := bW
      have dF := Zu a
      subst a0
      refine G ?_
      refine ⟨_, Z, ?_⟩; exact ⟨dc, ax, (Zt (Zt ae bx) cC), ((((((cw.f6).f6).f6).f6).f6).f6).f6, (Fx.mk (FxL.cons (Ja br (SliceRep.le rq)) fxl))⟩
     replace aH := Zk aH
     refine G ?_
     rcases QO a with ⟨aJ, a⟩ | ⟨aJ, a⟩
     ·have dG := Zu a
      subst a0
      refine G ?_
      refine ⟨_, Z, ?_⟩; exact ⟨cZ, aw, ae, (((((((a9.drop).f6).f6).f6).f6).f6).f6).f6, (Fx.mk (FxL.cons (Ja br (SliceRep.le (ay.mono (Zt (Zt (Zt (Zt (Zt (Zt (Zt (Zt l t) ab) ac) x) y) z) j) aa)))) fxl))⟩
     replace aJ := Zk aJ
     obtain ⟨dk, cP, a⟩ := Zg a
     obtain ⟨dy, fB⟩ := dk
     replace a := Qy a
     refine G ?_
     refine Tc Z Z Z (Zi Z (Zi Z (Zi Z Qw))) (K8 cP a9 (aW.mono (Zt (Zt (Zt (Zt (Zt (Zt (Zt (Zt (Zt l t) ab) ac) x) y) z) j) aa) ae)) (a6.mono (Zt (Zt (Zt (Zt (Zt (Zt (Zt (Zt (Zt l t) ab) ac) x) y) z) j) aa) ae)) (a7.mono (Zt (Zt (Zt (Zt (Zt (Zt (Zt (Zt (Zt l t) ab) ac) x) y) z) j) aa) ae)) (ay.mono (Zt (Zt (Zt (Zt (Zt (Zt (Zt (Zt (Zt l t) ab) ac) x) y) z) j) aa) ae)) (ao.mono (Zt (Zt j aa) ae))).r ?_
     rintro _ fp ⟨dd, du, eo, bn, rfl, e2⟩
     refine G ?_
     refine Qh (T := 39) Tryz.underlying35 Z Z Z (G ?_)
     rcases QO a with ⟨aK, a⟩ | ⟨aK, a⟩
     ·refine G ?_
      refine Exec.build Z Qg (v := Value.agg #[U 0, Vn]) (fun _ => by kernel_rfl) (G ?_)
      refine Qp (ds := [U 0, Vn]) (es := [U 0, Vn]) bn.f2 A33.h Z Z Z Z (Zj Z (Zj Z QV)) (Nat.le_of_ble_eq_true Z) Z ?_
      intro fr cx
      have dH := Zu a
      subst a0
      have c8 := bs _ (bt (by intro _ h; cases h))
      have dI := Zu c8
      subst az
      have c9 := a2 _ (aq (by intro _ h; cases h))
      cases c9
      refine G ?_
      refine ⟨_, QaF Z ⟨_, _, Z, JJ (cx) A33.h⟩ Z, ?_⟩
      exact V
     replace aK := Zk aK
     obtain ⟨dl, bS, a⟩ := Zg a
     refine G ?_
     refine J8 (fun k' s' f' w' => (QK fun (au : Int) (aO : (List certify_entry)) => ∃ (bC : PHeap) (a5 : Value), PHeap.le dd bC ∧ St w0 bC (Res.box n 26 [ag, ah, ai, m] :: Res.box o 33 [U 0, Vn] :: Res.box p 33 [U i, ad] :: Res.box q 62 [a5] :: Res.box aj 60 [u, U (d.dist), U (d.order)] :: Res.arr encNogood 69 ad a3 :: Res.arr enccertify_entry 60 a5 aO :: H) w' ∧ Fx f' [(119, U (k' : Int)), (1, U i), (2, U (max 0 (min ak 4096))), (3, Vq n), (6, Vq o), (9, Vq p), (10, Vq q), (11, U au), (12, Vq aj), (16, U (IntKind.i64.wrap (d.dist + an.Cost))), (88, m), (89, U ((af.Ops.length : Int))), (90, U ((bu : Int))), (117, du), (118, U ((dy.length : Int)))]) s') bS ?_ ?_ ?_
     ·have ec := bn.drop
      exact V
     ·intro el dm e9 dR fs ej bX am
      obtain ⟨au, aO⟩ := dm
      replace am := Qy am
      obtain ⟨eA, a5, ep, cy, ⟨dS, rfl⟩⟩ := bX
      obtain ⟨f0, cQ, am⟩ := Zg am
      refine G ?_
      refine Jk Z Z Z cQ ?_
      intro d3 e1 bO
      refine G ?_
      refine Zw (E := (Qa encFact)) cy A23.h Z Z Z bO ?_
      intro bI cR
      have b5 := Qr.1 cR
      refine G ?_
      refine Exec.makeInterface C57 Z Z (G ?_)
      refine Exec.build Z (Qd (c := [bI]) (Qi Z (Q5 b5.one)) (Qd (c := [U (IntKind.i64.wrap (d.dist + an.Cost))]) (Qi Z Z) (Qd (c := [U au]) (Qi Z Z) Qg))) (v := Value.agg #[bI, U (IntKind.i64.wrap (d.dist + an.Cost)), U au]) (fun _ => by kernel_rfl) (G ?_)
      refine Exec.makeInterface C60 Z Z ?_
      obtain ⟨er, cS, am⟩ := Zg am
      refine G ?_
      refine Tc Z Z Z Z (Qbn cS hq b5).r ?_
      rintro _ ft ⟨eB, eI, et, ed, rfl⟩
      cases am
      refine G ?_
      exact V
     intro dT fu bY
     obtain ⟨au, aO⟩ := dl
     replace a := Qy a
     obtain ⟨eC, a5, eu, ee, ⟨dU, rfl⟩⟩ := bY
     cases a
     refine G ?_
     exact ⟨_, Z, V⟩
    intro dn dV fv bZ cA
    obtain ⟨aP, aM⟩ := dn
    obtain ⟨eD, aw, ev, ef, ⟨dW, rfl⟩⟩ := bZ
    refine G ?_
    exact ⟨_, .inl cA, V⟩
   rintro dX fw ⟨dp, bp, ca⟩
   have b := bp.elim (c3 _) (c0 _)
   clear bp
   obtain ⟨b2, bw⟩ := dp
   replace b := Qy b
   obtain ⟨eE, aV, ew, eg, ⟨dY, rfl⟩⟩ := ca
   cases b
   refine G ?_
   exact ⟨_, Z, V⟩
  replace aD := Zk aD
  cases b
  refine G ?_
  exact ⟨_, .inr (aq (by intro _ h; cases h)), V⟩
 rintro dZ fx ⟨dq, bq, cb⟩
 have hm := bq.elim (c2 _) (cz _)
 clear bq
 obtain ⟨b0, bK, bv⟩ := dq
 replace hm := Js hm
 obtain ⟨eF, aS, aT, ex, eh, ⟨ea, rfl⟩⟩ := cb
 refine G ?_
 refine Yo Z Z Z ?_
 intro fy bo
 cases hm
 refine G ?_
 refine ⟨_, QaF Z ⟨_, _, Z, JJ (bo) A33.h⟩ Z, ?_⟩
 obtain ⟨eG, ey, ei, e3⟩ := bo.f4.freezeArr
 exact V
instance F33_0 : FTy Tryz.prog 33 0 0 := ⟨by kernel_rfl⟩
theorem QbW {w0 w : World} {s : PHeap} {H : List Res} {d : (List Fact)} {c : Value} {r : Bool} (hm : JE d = some r) (hS : St w0 s (H) w) (t : SliceRep encFact s c d) :
  Calls Tryz.prog 60 #[c] w fun e w' => ∃ v, e = .returned v ∧ ((fun (a0 : Bool) => ∃ (n : PHeap) , PHeap.le s n ∧ St w0 n (H) w' ∧ v = Value.bool (a0)) r) := by
 unfold JE at hm
 refine Qb Tryz.func60 Z Z ?_
 obtain ⟨j, y, ao, am, af⟩ := Qo hm
 refine Zc (Zd (g ?_))
 refine Zc (Zc (Zd (g ?_)))
 refine Qm (M := fun f' w' => ∃ s', (j = .next s' ∨ j = .brk s') ∧ (fun (_ : Unit) => ∃ (o : PHeap) , PHeap.le s o ∧ St w0 o (H) w' ∧ Fx f' [(0, c), (5, c), (6, U ((d.length : Int)))]) s') ?_ ?_
 ·refine G ?_
  refine Q2 (fun k' s' f' w' => (fun (_ : Unit) => ∃ (p : PHeap) , PHeap.le s p ∧ St w0 p (H) w' ∧ Fx f' [(7, U (k' : Int)), (0, c), (5, c), (6, U ((d.length : Int)))]) s') y ?_ ?_ ?_
  ·exact V
  ·intro ar aR a4 a6 aW aI z b ap
   obtain ⟨az, au, l, ⟨a7, rfl⟩⟩ := z
   obtain ⟨bc, av, b⟩ := Zg b
   refine G ?_
   refine Jk Z Z Z av ?_
   intro a1 aM u
   refine G ?_
   refine Zw (E := encFact) l A52.h Z Z Z u ?_
   intro aU aw
   obtain rfl := Q9.1 aw
   refine G ?_
   refine Exec.alloc (cs := [U 0, U 0]) l Z52 Z Z ?_
   intro a2 aX aE
   refine G ?_
   refine Yo Z Z Z ?_
   intro aY ad
   obtain ⟨i, a, b⟩ := Zg b
   refine g ?_
   refine Zc (Qm (M := fun f' w' => (fun (i : Bool) => ∃ (q : PHeap) , PHeap.le az q ∧ St w0 q (H) w' ∧ Fx f' [(0, c), (5, c), (6, U ((d.length : Int))), (7, U ((ar : Int))), (44, Vb i)]) i) ?_ ?_)
   ·refine KG (n0 := 33) (qs 0 33 .done) Yp (by kernel_rfl) (by kernel_rfl) ?_
    have ae := ad.drew
    refine G ?_
    rcases Qk a with ⟨ag, a⟩ | ⟨ag, a⟩
    ·cases a
     refine G ?_
     exact V
    refine G ?_
    rcases Qk a with ⟨ah, a⟩ | ⟨ah, a⟩
    ·cases a
     refine G ?_
     exact V
    refine G ?_
    rcases Qk a with ⟨ai, a⟩ | ⟨ai, a⟩
    ·cases a
     refine G ?_
     exact V
    refine G ?_
    rcases Qk a with ⟨aj, a⟩ | ⟨aj, a⟩
    ·cases a
     refine G ?_
     exact V
    refine G ?_
    rcases Qk a with ⟨ak, a⟩ | ⟨ak, a⟩
    ·obtain ⟨bd, ax, a⟩ := Zg a
     refine G ?_
     refine Q6 S23.h Z Z Z (t.mono au) ax ?_
     intro a3 aN x a5
     refine ⟨Z, ?_⟩
     refine G ?_
     refine Zw (E := (Qc .i64)) ae A3.h Z Z Z (x.sub (Sub.iso (Sub.fst (Sub.refl _))) Z) ?_
     intro aV ay
     obtain rfl := Qt.1 ay
     refine ⟨Z, ?_⟩
     cases a
     refine G ?_
     exact V
    cases a
    refine G ?_
    exact V
   intro a8 aZ ab
   obtain ⟨aO, aJ, aF, ⟨a9, rfl⟩⟩ := ab
   refine G ?_
   rcases Qk b with ⟨al, b⟩ | ⟨al, b⟩
   ·cases b
    have an := ao _ (ap (by intro _ h; cases h))
    cases an
    refine G ?_
    exact fr
   cases b
   refine G ?_
   exact ⟨_, Z, V⟩
  intro aS aA ba aa aq
  obtain ⟨aP, aK, aG, ⟨aB, rfl⟩⟩ := aa
  refine G ?_
  exact ⟨_, .inl aq, V⟩
 rintro aC bb ⟨aT, m, ac⟩
 have hm := m.elim (am _) (af _)
 clear m
 obtain ⟨aQ, aL, aH, ⟨aD, rfl⟩⟩ := ac
 cases hm
 refine G ?_
 exact fr
instance F69_1 : FTy Tryz.prog 69 1 1 := ⟨by kernel_rfl⟩
theorem Yd {w0 w : World} {s : PHeap} {H : List Res} {a : Certificate} {b : Value} {r : (Option Int)} (hm : QY a = some r) (hS : St w0 s (H) w) (aP : SliceRep encNogood s b a.Nogoods) :
  Calls Tryz.prog 28 #[Value.agg #[U (a.Bound), b]] w fun e w' => ∃ v, e = .returned v ∧ ((fun (aO : (Option Int)) => ∃ (ad : PHeap) , PHeap.le s ad ∧ St w0 ad (H) w' ∧ v = Yc 39 (aO)) r) := by
 unfold QY at hm
 refine Qb Tryz.func28 Z Z (G ?_)
 refine Yz Z Z ?_
 intro c bS bm
 refine g ?_
 refine Zc (Zc (Qm (M := fun f' w' => ∃ (ae : PHeap) , PHeap.le s ae ∧ St w0 ae (Res.box c 33 [U (a.Bound), b] :: H) w' ∧ Fx f' [(1, Vq c), (14, Vb (((decide (a.Bound < (-1))) || decide (1099511627776 < a.Bound))))]) ?_ ?_))
 ·refine G ?_
  rcases tf (decide (a.Bound < (-1))) with a3 | a3
  ·refine G ?_
   exact V
  refine G ?_
  exact V
 intro aW bT aw
 obtain ⟨af, b0, bn, ⟨aX, rfl⟩⟩ := aw
 refine G ?_
 rcases Qk hm with ⟨a4, hm⟩ | ⟨a4, hm⟩
 ·refine G ?_
  refine Exec.makeInterface C39 Z Z ?_
  cases hm
  refine G ?_
  exact fr
 refine G ?_
 rcases Qk hm with ⟨aa, hm⟩ | ⟨aa, hm⟩
 ·refine G ?_
  refine Exec.makeInterface C39 Z Z ?_
  cases hm
  refine G ?_
  exact fr
 obtain ⟨u, ao, aB, a7, a1⟩ := Qo hm
 refine W_c Z aa (Qa0 (QT (Ze (Zc (Zc (Zd (g ?_)))))))
 refine Qm (M := fun f' w' => ∃ s', (u = .next s' ∨ u = .brk s') ∧ (fun (_ : Unit) => ∃ (ag : PHeap) , PHeap.le af ag ∧ St w0 ag (Res.box c 33 [U (a.Bound), b] :: H) w' ∧ Fx f' [(1, Vq c), (22, b), (23, U ((a.Nogoods.length : Int)))]) s') ?_ ?_
 ·refine G ?_
  refine Q2 (fun k' s' f' w' => (fun (_ : Unit) => ∃ (ah : PHeap) , PHeap.le af ah ∧ St w0 ah (Res.box c 33 [U (a.Bound), b] :: H) w' ∧ Fx f' [(24, U (k' : Int)), (1, Vq c), (22, b), (23, U ((a.Nogoods.length : Int)))]) s') ao ?_ ?_ ?_
  ·exact V
  ·intro bz bI aU aY bU bw aq d aD
   obtain ⟨bC, b1, y, ⟨aZ, rfl⟩⟩ := aq
   obtain ⟨cg, aI, d⟩ := Zg d
   refine G ?_
   refine Jk Z Z Z aI ?_
   intro aQ b9 am
   refine G ?_
   refine Zw (E := encNogood) y A69.h Z Z Z am ?_
   intro bQ aJ
   obtain ⟨bO, rfl, aN⟩ := Jr.1 aJ
   refine G ?_
   refine Exec.alloc (cs := [Vn, U 0]) y Z69 Z Z ?_
   intro aR bV bo
   refine G ?_
   refine Yo Z Z Z ?_
   intro bW a0
   obtain ⟨ch, aK, d⟩ := Zg d
   refine G ?_
   refine Tc Z Z Z Z (QbW aK a0 aN).r ?_
   rintro _ bX ⟨bD, b2, bp, rfl⟩
   refine G ?_
   rcases Qk d with ⟨a5, d⟩ | ⟨a5, d⟩
   ·refine G ?_
    refine Exec.makeInterface C39 Z Z ?_
    cases d
    have a9 := aB _ (aD (by intro _ h; cases h))
    cases a9
    refine G ?_
    exact fr
   cases d
   refine G ?_
   exact ⟨_, Z, V⟩
  intro bJ ba bY ar aE
  obtain ⟨bE, b3, bq, ⟨bb, rfl⟩⟩ := ar
  refine G ?_
  exact ⟨_, .inl aE, V⟩
 rintro bc bZ ⟨bK, ab, ax⟩
 have hm := ab.elim (a7 _) (a1 _)
 clear ab
 obtain ⟨ai, b4, br, ⟨bd, rfl⟩⟩ := ax
 obtain ⟨x, ap, aC, a8, a2⟩ := Qo hm
 refine g ?_
 refine Zc (Zc (Zd (g ?_)))
 refine Qm (M := fun f' w' => ∃ s', (x = .next s' ∨ x = .brk s') ∧ (fun (_ : Unit) => ∃ (aj : PHeap) , PHeap.le ai aj ∧ St w0 aj (Res.box c 33 [U (a.Bound), b] :: H) w' ∧ Fx f' [(1, Vq c), (35, b), (36, U ((a.Nogoods.length : Int)))]) s') ?_ ?_
 ·refine G ?_
  refine Q2 (fun k' s' f' w' => (fun (_ : Unit) => ∃ (ak : PHeap) , PHeap.le ai ak ∧ St w0 ak (Res.box c 33 [U (a.Bound), b] :: H) w' ∧ Fx f' [(37, U (k' : Int)), (1, Vq c), (35, b), (36, U ((a.Nogoods.length : Int)))]) s') ap ?_ ?_ ?_
  ·exact V
  ·intro aH bL aV be ca bx au i aF
   obtain ⟨m, b5, z, ⟨bf, rfl⟩⟩ := au
   obtain ⟨n, aL, i⟩ := Zg i
   refine G ?_
   refine Jk Z Z Z aL ?_
   intro aS bA an
   refine G ?_
   refine Zw (E := encNogood) z A69.h Z Z Z an ?_
   intro bR aM
   obtain ⟨bP, rfl, bB⟩ := Jr.1 aM
   refine G ?_
   refine Exec.alloc (cs := [Vn, U 0]) z Z69 Z Z ?_
   intro aT cb bs
   refine G ?_
   refine Yo Z Z Z ?_
   intro cc o
   refine g ?_
   refine Zc (Qm (M := fun f' w' => ∃ (al : PHeap) , PHeap.le m al ∧ St w0 al (Res.box c 33 [U (a.Bound), b] :: H) w' ∧ Fx f' [(1, Vq c), (35, b), (36, U ((a.Nogoods.length : Int))), (37, U ((aH : Int))), (65, Vb (((decide (n.Dist < 0)) || (bif (decide (0 ≤ a.Bound)) then ((decide (a.Bound ≤ n.Dist)) || ((decide (a.Bound < 0)) && !decide (n.Dist = 0))) else ((decide (a.Bound < 0)) && !decide (n.Dist = 0))))))]) ?_ ?_)
   ·refine G ?_
    rcases tf (decide (n.Dist < 0)) with j | j
    ·refine G ?_
     exact V
    refine G ?_
    rcases tf (decide (0 ≤ a.Bound)) with l | l
    ·refine G ?_
     rcases tf (decide (a.Bound ≤ n.Dist)) with p | p
     ·refine G ?_
      exact ⟨m, (Zv _), o.drop, (Fx.mk (FxL.cons Z (FxL.cons Z (FxL.cons Z (FxL.cons Z (FxL.cons (Zx (Eq.trans (Qhs j) (Eq.trans (QjG l) (QmT p)))).symm fxl))))))⟩
     refine G ?_
     rcases tf (decide (a.Bound < 0)) with q | q
     ·refine G ?_
      exact ⟨m, (Zv _), o.drop, (Fx.mk (FxL.cons Z (FxL.cons Z (FxL.cons Z (FxL.cons Z (FxL.cons (Zx (Eq.trans (Qhs j) (Eq.trans (QjG l) (Eq.trans (Qhs p) (Ql0 q))))).symm fxl))))))⟩
     refine G ?_
     exact ⟨m, (Zv _), o.drop, (Fx.mk (FxL.cons Z (FxL.cons Z (FxL.cons Z (FxL.cons Z (FxL.cons (Zx (Eq.trans (Qhs j) (Eq.trans (QjG l) (Eq.trans (Qhs p) (Ql1 q))))).symm fxl))))))⟩
    refine G ?_
    rcases tf (decide (a.Bound < 0)) with t | t
    ·refine G ?_
     exact ⟨m, (Zv _), o.drop, (Fx.mk (FxL.cons Z (FxL.cons Z (FxL.cons Z (FxL.cons Z (FxL.cons (Zx (Eq.trans (Qhs j) (Eq.trans (Qly l) (Ql0 t)))).symm fxl))))))⟩
    refine G ?_
    exact ⟨m, (Zv _), o.drop, (Fx.mk (FxL.cons Z (FxL.cons Z (FxL.cons Z (FxL.cons Z (FxL.cons (Zx (Eq.trans (Qhs j) (Eq.trans (Qly l) (Ql1 t)))).symm fxl))))))⟩
   intro bg cd ay
   obtain ⟨bF, b6, bt, ⟨bh, rfl⟩⟩ := ay
   refine G ?_
   rcases Qk i with ⟨a6, i⟩ | ⟨a6, i⟩
   ·refine G ?_
    refine Exec.makeInterface C39 Z Z ?_
    cases i
    have aA := aC _ (aF (by intro _ h; cases h))
    cases aA
    refine G ?_
    exact fr
   cases i
   refine G ?_
   exact ⟨_, Z, V⟩
  intro bM bi ce av aG
  obtain ⟨bG, b7, bu, ⟨bj, rfl⟩⟩ := av
  refine G ?_
  exact ⟨_, .inl aG, V⟩
 rintro bk cf ⟨bN, ac, az⟩
 have hm := ac.elim (a8 _) (a2 _)
 clear ac
 obtain ⟨bH, b8, bv, ⟨bl, rfl⟩⟩ := az
 cases hm
 refine G ?_
 exact fr
theorem Z81 : Jl Tryz.prog 81 = some (Value.agg #[Value.pointer none, Value.slice none 0 0]) := by kernel_rfl
end Go.Pw
