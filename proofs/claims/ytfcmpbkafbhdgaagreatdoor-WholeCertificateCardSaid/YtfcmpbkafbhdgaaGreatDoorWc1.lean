/- -/
import Derived.Test.YtfcmpbkafbhdgaaGreatDoorLC
import Derived.Test.YtfcmpbkafbhdgaaGreatDoorLD
import Derived.Test.YtfcmpbkafbhdgaaGreatDoorWc0
set_option maxRecDepth 100000
set_option maxHeartbeats 4000000
set_option linter.unusedVariables false
namespace Go.Pw
open Go.Proofs
attribute [local irreducible] Exec WL W andThen Y0 DL QB
theorem Kj {w0 w : World} {s : PHeap} {H : List Res} {i : (List certify_entry)} {t : Int} {u : Int} {j : Value} {r : Bool} (hm : QF i t u = some r) (hS : St w0 s (Res.arr enccertify_entry 60 j i :: H) w) :
  Calls Tryz.prog 186 #[j, U t, U u] w fun e w' => ∃ v, e = .returned v ∧ ((fun (ai : Bool) => ∃ (x : PHeap) , PHeap.le s x ∧ St w0 x (Res.arr enccertify_entry 60 j i :: H) w' ∧ v = Value.bool (ai)) r) := by
 unfold QF at hm
 refine Qb Tryz.func186 Z Z ?_
 obtain ⟨k, a, hm⟩ := Zg hm
 refine Zc (Zd (g ?_))
 refine Zc (Qm (M := fun f' w' => (fun (k : Bool) => ∃ (y : PHeap) , PHeap.le s y ∧ St w0 y (Res.arr enccertify_entry 60 j i :: H) w' ∧ Fx f' [(6, Vb k)]) k) ?_ ?_)
 ·refine KG (n0 := 37) (qs 0 37 .done) Yp (by kernel_rfl) (by kernel_rfl) ?_
  have b := hS.drew
  obtain ⟨a9, c, a⟩ := Zg a
  obtain ⟨ar, aj, l⟩ := b.arr_at c
  refine G ?_
  refine Qe S62.h Z l Z (Qf c).1 (Qf c).2.1 ⟨Z, ?_⟩
  refine G ?_
  refine Qs (F := (Qc .i64)) (b) l A3.h Z Z Z c (Sub.iso (Kr (Sub.fst (Sub.refl _)) Z)) ?_
  intro a2 ac
  obtain rfl := Qt.1 ac
  refine ⟨Z, ?_⟩
  obtain ⟨aA, d, a⟩ := Zg a
  obtain ⟨au, ak, m⟩ := b.arr_at d
  refine G ?_
  refine Qe S62.h Z m Z (Qf d).1 (Qf d).2.1 ⟨Z, ?_⟩
  refine G ?_
  refine Qs (F := (Qc .i64)) (b) m A3.h Z Z Z d (Sub.iso (Kr (Sub.fst (Sub.refl _)) Z)) ?_
  intro a3 ad
  obtain rfl := Qt.1 ad
  refine ⟨Z, ?_⟩
  refine G ?_
  rcases Qk a with ⟨aa, a⟩ | ⟨aa, a⟩
  ·cases a
   refine G ?_
   exact V
  obtain ⟨av, al, n⟩ := b.arr_at c
  refine G ?_
  refine Qe S62.h Z n Z (Qf c).1 (Qf c).2.1 ⟨Z, ?_⟩
  refine G ?_
  refine Qs (F := (Qc .i64)) (b) n A3.h Z Z Z c (Sub.iso (Kr (Sub.fst (Sub.refl _)) Z)) ?_
  intro a4 ae
  obtain rfl := Qt.1 ae
  refine ⟨Z, ?_⟩
  obtain ⟨aw, am, o⟩ := b.arr_at d
  refine G ?_
  refine Qe S62.h Z o Z (Qf d).1 (Qf d).2.1 ⟨Z, ?_⟩
  refine G ?_
  refine Qs (F := (Qc .i64)) (b) o A3.h Z Z Z d (Sub.iso (Kr (Sub.fst (Sub.refl _)) Z)) ?_
  intro a5 af
  obtain rfl := Qt.1 af
  refine ⟨Z, ?_⟩
  refine G ?_
  rcases Qk a with ⟨ab, a⟩ | ⟨ab, a⟩
  ·obtain ⟨ax, an, p⟩ := b.arr_at c
   refine G ?_
   refine Qe S62.h Z p Z (Qf c).1 (Qf c).2.1 ⟨Z, ?_⟩
   refine G ?_
   refine Qs (F := (Qc .i64)) (b) p A3.h Z Z Z c (Sub.iso (Kr (Kr (Sub.refl _) Z) Z)) ?_
   intro a6 ag
   obtain rfl := Qt.1 ag
   refine ⟨Z, ?_⟩
   obtain ⟨ay, ao, q⟩ := b.arr_at d
   refine G ?_
   refine Qe S62.h Z q Z (Qf d).1 (Qf d).2.1 ⟨Z, ?_⟩
   refine G ?_
   refine Qs (F := (Qc .i64)) (b) q A3.h Z Z Z d (Sub.iso (Kr (Kr (Sub.refl _) Z) Z)) ?_
   intro a7 ah
   obtain rfl := Qt.1 ah
   refine ⟨Z, ?_⟩
   cases a
   refine G ?_
   exact V
  cases a
  refine G ?_
  exact V
 intro ap a8 z
 obtain ⟨a1, a0, az, ⟨aq, rfl⟩⟩ := z
 cases hm
 refine G ?_
 exact fr
theorem Qen : Y1 Tryz.prog 57 "Less" = some (186, false) := by kernel_rfl
theorem QdS {w0 w : World} {s : PHeap} {H : List Res} {q : (List certify_entry)} {k : Int} {i : Int} {c : Nat} {b : Value} {r : Bool × (List certify_entry)} (hm : KT q k i = some r) (hS : St w0 s (Res.box c 62 [b] :: Res.arr enccertify_entry 60 b q :: H) w) :
  Calls Tryz.prog 48 #[Value.iface 57 (Value.pointer (some ⟨c, 0, none⟩)), U k, U i] w fun e w' => ∃ v, e = .returned v ∧ ((QK fun (a6 : Bool) (ax : (List certify_entry)) => ∃ (ad : PHeap) , PHeap.le s ad ∧ St w0 ad (Res.box c 62 [b] :: Res.arr enccertify_entry 60 b ax :: H) w' ∧ v = Value.bool (a6)) r) := by
 unfold KT at hm
 refine Qb Tryz.func48 Z Z ?_
 obtain ⟨p, aj, aO, aw, ap⟩ := Qo hm
 refine Zc (Zd (g ?_))
 refine Zc (Zd (g ?_))
 refine Zc (Qm (M := fun f' w' => ∃ s', (p = .next s' ∨ p = .brk s') ∧ (QK fun (ab : Int) (ac : (List certify_entry)) => ∃ (ae : PHeap) , PHeap.le s ae ∧ St w0 ae (Res.box c 62 [b] :: Res.arr enccertify_entry 60 b ac :: H) w' ∧ Fx f' [(0, Value.iface 57 (Vq c)), (1, U k), (2, U i), (7, U ab)]) s') ?_ ?_)
 ·refine G ?_
  refine Y8 (fun s' f' w' => (QK fun (d : Int) (m : (List certify_entry)) => ∃ (af : PHeap) , PHeap.le s af ∧ St w0 af (Res.box c 62 [b] :: Res.arr enccertify_entry 60 b m :: H) w' ∧ Fx f' [(0, Value.iface 57 (Vq c)), (1, U k), (2, U i), (7, U d)]) s') aj ?_ ?_
  ·have aI := hS.f1
   exact V
  intro a4 a7 a8 bd ak a aa
  obtain ⟨d, m⟩ := a4
  replace a := Qy a
  obtain ⟨a1, aP, aJ, ⟨a9, rfl⟩⟩ := ak
  refine Qbe (Zc (Zd (g ?_)))
  refine Zc (Zc (Qm (M := fun f' w' => ∃ (ag : PHeap) , PHeap.le a1 ag ∧ St w0 ag (Res.box c 62 [b] :: Res.arr enccertify_entry 60 b m :: H) w' ∧ Fx f' [(0, Value.iface 57 (Vq c)), (1, U k), (2, U i), (7, U d), (8, U (IntKind.i64.wrap ((IntKind.i64.wrap (2 * d)) + 1))), (21, Vb (((decide (i ≤ (IntKind.i64.wrap ((IntKind.i64.wrap (2 * d)) + 1)))) || decide ((IntKind.i64.wrap ((IntKind.i64.wrap (2 * d)) + 1)) < 0))))]) ?_ ?_))
  ·refine G ?_
   rcases tf (decide (i ≤ (IntKind.i64.wrap ((IntKind.i64.wrap (2 * d)) + 1)))) with aq | aq
   ·refine G ?_
    exact V
   refine G ?_
   exact V
  intro aA be al
  obtain ⟨a2, aQ, t, ⟨aB, rfl⟩⟩ := al
  refine G ?_
  rcases Qk a with ⟨y, a⟩ | ⟨y, a⟩
  ·cases a
   refine G ?_
   exact ⟨_, .inr (aa (by intro _ h; cases h)), V⟩
  obtain ⟨o, j, a⟩ := Zg a
  refine W_c Z y (Qa0 (QT (Ze (Zc (Zd (g ?_))))))
  refine Zc (Zc (Zd (g ?_)))
  refine Zc (Qm (M := fun f' w' => (fun (o : Bool) => ∃ (ah : PHeap) , PHeap.le a2 ah ∧ St w0 ah (Res.box c 62 [b] :: Res.arr enccertify_entry 60 b m :: H) w' ∧ Fx f' [(0, Value.iface 57 (Vq c)), (1, U k), (2, U i), (7, U d), (9, U (IntKind.i64.wrap ((IntKind.i64.wrap (2 * d)) + 1))), (10, U (IntKind.i64.wrap ((IntKind.i64.wrap ((IntKind.i64.wrap (2 * d)) + 1)) + 1))), (33, Vb o)]) o) ?_ ?_)
  ·refine G ?_
   rcases Qk j with ⟨ar, j⟩ | ⟨ar, j⟩
   ·obtain ⟨bl, ay, j⟩ := Zg j
    refine G ?_
    refine Ku Qen Tryz.underlying57 A62.h (t.f1).f1 Z Z Z Tryz.func186 Z QlM (Zi Z (Zi Z Qw)) ((Kj ay t.f1).mono ?_)
    rintro _ bf ⟨_, rfl, ⟨aY, aR, aK, rfl⟩⟩
    refine ⟨_, Z, ?_⟩
    cases j
    refine G ?_
    exact V
   cases j
   refine G ?_
   exact V
  intro aC bg am
  obtain ⟨a3, aS, aL, ⟨aD, rfl⟩⟩ := am
  obtain ⟨n, l, a⟩ := Zg a
  refine g ?_
  refine Qm (M := fun f' w' => (fun (n : Int) => ∃ (ai : PHeap) , PHeap.le a3 ai ∧ St w0 ai (Res.box c 62 [b] :: Res.arr enccertify_entry 60 b m :: H) w' ∧ Fx f' [(0, Value.iface 57 (Vq c)), (1, U k), (2, U i), (7, U d), (9, U n)]) n) ?_ ?_
  ·rcases Qk l with ⟨au, l⟩ | ⟨au, l⟩
   ·cases l
    refine G ?_
    exact V
   cases l
   refine G ?_
   exact V
  intro aE bh an
  obtain ⟨aZ, aT, u, ⟨aF, rfl⟩⟩ := an
  obtain ⟨bm, az, a⟩ := Zg a
  refine G ?_
  refine Ku Qen Tryz.underlying57 A62.h (u.f1).f1 Z Z Z Tryz.func186 Z QlM (Zi Z (Zi Z Qw)) ((Kj az u.f1).mono ?_)
  rintro _ bi ⟨_, rfl, ⟨ba, aU, x, rfl⟩⟩
  refine ⟨_, Z, ?_⟩
  refine G ?_
  rcases Qk a with ⟨av, a⟩ | ⟨av, a⟩
  ·cases a
   refine G ?_
   exact ⟨_, .inr (aa (by intro _ h; cases h)), V⟩
  obtain ⟨aV, a0, a⟩ := Zg a
  refine G ?_
  refine Ku Qem Tryz.underlying57 A62.h x.f1 Z Z Z Tryz.func189 Z QlL (Zi Z (Zi Z Qw)) ((Ki a0 x).mono ?_)
  rintro _ bj ⟨_, rfl, ⟨bb, aW, aM, rfl⟩⟩
  refine ⟨_, Z, ?_⟩
  cases a
  refine G ?_
  exact ⟨_, Z, V⟩
 rintro aG bk ⟨a5, z, ao⟩
 have hm := z.elim (aw _) (ap _)
 clear z
 obtain ⟨ab, ac⟩ := a5
 replace hm := Qy hm
 obtain ⟨bc, aX, aN, ⟨aH, rfl⟩⟩ := ao
 cases hm
 refine G ?_
 exact fr
theorem Z60 : Jl Tryz.prog 60 = some (Value.agg #[Value.slice none 0 0, U 0, U 0]) := by kernel_rfl
theorem C60 : Tryz.prog.concrete 60 = true := by kernel_rfl
theorem Qni : (Tryz.f187.name == "runtime.NumGoroutine") = false := by kernel_rfl
theorem Qb7 {w0 w : World} {s : PHeap} {H : List Res} {j : (List certify_entry)} {b : Nat} {k : Value} {r : certify_entry × (List certify_entry)} (hm : Kk j = some r) (hS : St w0 s (Res.box b 62 [k] :: Res.arr enccertify_entry 60 k j :: H) w) :
  Calls Tryz.prog 187 #[Value.pointer (some ⟨b, 0, none⟩)] w fun e w' => ∃ v, e = .returned v ∧ ((QK fun (f : certify_entry) (p : (List certify_entry)) => ∃ (d : PHeap) (l : Value) (m : Value), PHeap.le s d ∧ St w0 d (Res.box b 62 [m] :: Res.arr enccertify_entry 60 m p :: H) w' ∧ v = Value.iface 60 (Value.agg #[l, U (f.dist), U (f.order)]) ∧ SliceRep encFact d l f.facts) r) := by
 unfold Kk at hm
 refine Qb Tryz.func187 Z Z (G ?_)
 refine Qv (hS.f1) S62.h Z Z ?_
 obtain ⟨ak, a, hm⟩ := Zg hm
 obtain ⟨z, y, g⟩ := (hS.f1).arr_at a
 refine G ?_
 refine Qe S62.h Z g Z (Qf a).1 (Qf a).2.1 (G ?_)
 refine Qs (F := enccertify_entry) (hS.f1) g A60.h Z Z Z a (Sub.refl _) ?_
 intro ag q
 obtain ⟨ae, rfl, ad⟩ := JB.1 q
 refine G ?_
 refine Exec.alloc (cs := [Vn, U 0, U 0]) hS Z60 Z Z ?_
 intro x ah aa
 refine G ?_
 refine Yo Z Z Z ?_
 intro ai i
 obtain ⟨ac, t, hm⟩ := Zg hm
 refine G ?_
 refine Qaz (i.f2) S62.h Z Z Z t ?_
 intro n c
 refine G ?_
 refine Qp (ds := [n]) (es := [n]) i.f1 A62.h Z Z Z (Q5 c.one) (Zj c.one QV) (Nat.le_of_ble_eq_true Z) Z ?_
 intro aj o
 obtain ⟨af, u, hm⟩ := Zg hm
 have ab := (o.f2).arr_head c (by simpa using YI u)
 refine G ?_
 refine Exec.makeInterface C60 Z Z ?_
 cases hm
 refine G ?_
 refine ⟨_, Qaf Z, ?_⟩
 exact V
theorem QkH : Y1 Tryz.prog 57 "Pop" = some (187, true) := by kernel_rfl
theorem Qet {w0 w : World} {s : PHeap} {H : List Res} {b : (List certify_entry)} {a : Nat} {g : Value} {r : certify_entry × (List certify_entry)} (hm : Yl b = some r) (hS : St w0 s (Res.box a 62 [g] :: Res.arr enccertify_entry 60 g b :: H) w) :
  Calls Tryz.prog 21 #[Value.iface 57 (Value.pointer (some ⟨a, 0, none⟩))] w fun e w' => ∃ v, e = .returned v ∧ ((QK fun (d : certify_entry) (m : (List certify_entry)) => ∃ (c : PHeap) (i : Value) (j : Value), PHeap.le s c ∧ St w0 c (Res.box a 62 [j] :: Res.arr enccertify_entry 60 j m :: H) w' ∧ v = Value.iface 60 (Value.agg #[i, U (d.dist), U (d.order)]) ∧ SliceRep encFact c i d.facts) r) := by
 unfold Yl at hm
 refine Qb Tryz.func21 Z Z (G ?_)
 refine Ku QhG Tryz.underlying57 A62.h (hS.f1).f1 Z Z Z Tryz.func20 Z N20 Qw ((Km (J0 b) hS.f1).mono ?_)
 rintro _ al ⟨_, rfl, ⟨af, x, f, rfl⟩⟩
 refine ⟨_, Z, ?_⟩
 obtain ⟨y, n, hm⟩ := Zg hm
 refine G ?_
 refine Ku Qem Tryz.underlying57 A62.h f.f1 Z Z Z Tryz.func189 Z QlL (Zi Z (Zi Z Qw)) ((Ki n f).mono ?_)
 rintro _ am ⟨_, rfl, ⟨ag, z, k, rfl⟩⟩
 refine ⟨_, Z, ?_⟩
 obtain ⟨q, o, hm⟩ := Zg hm
 obtain ⟨ap, aa⟩ := q
 replace hm := Qy hm
 refine G ?_
 refine Tc Z Z Z Z (QdS o k.f1).r ?_
 rintro _ an ⟨ah, ab, l, rfl⟩
 obtain ⟨t, p, hm⟩ := Zg hm
 obtain ⟨aq, ac⟩ := t
 replace hm := Qy hm
 refine G ?_
 refine QdL QkH Tryz.underlying57 Z Z Tryz.func187 Z Qni Qw ((Qb7 p (l.f1).f1).mono ?_)
 rintro _ ao ⟨_, rfl, ⟨ai, aj, ak, ad, u, rfl, ae⟩⟩
 refine ⟨_, Z, ?_⟩
 cases hm
 refine G ?_
 exact fr
instance F60_0 : FTy Tryz.prog 60 0 0 := ⟨by kernel_rfl⟩
instance F33_1 : FTy Tryz.prog 33 1 1 := ⟨by kernel_rfl⟩
instance A31 : ATy Tryz.prog 31 false 1 := ⟨by kernel_rfl⟩
instance S31 : STy Tryz.prog 31 69 2 32 := ⟨by kernel_rfl⟩
instance A69 : ATy Tryz.prog 69 true 2 := ⟨by kernel_rfl⟩
instance F69_0 : FTy Tryz.prog 69 0 0 := ⟨by kernel_rfl⟩
theorem JL {w0 w : World} {s : PHeap} {H : List Res} {d : (List Fact)} {c : Value} {r : Bool} (hm : Jf d = some r) (hS : St w0 s (H) w) (t : SliceRep encFact s c d) :
  Calls Tryz.prog 74 #[c] w fun e w' => ∃ v, e = .returned v ∧ ((fun (ay : Bool) => ∃ (n : PHeap) , PHeap.le s n ∧ St w0 n (H) w' ∧ v = Value.bool (ay)) r) := by
 unfold Jf at hm
 refine Qb Tryz.func74 Z Z ?_
 obtain ⟨j, y, am, ak, af⟩ := Qo hm
 refine Zc (Zd (g ?_))
 refine Zc (Zc (Zd (g ?_)))
 refine Qm (M := fun f' w' => ∃ s', (j = .next s' ∨ j = .brk s') ∧ (fun (_ : Unit) => ∃ (o : PHeap) , PHeap.le s o ∧ St w0 o (H) w' ∧ Fx f' [(0, c), (5, c), (6, U ((d.length : Int)))]) s') ?_ ?_
 ·refine G ?_
  refine Q2 (fun k' s' f' w' => (fun (_ : Unit) => ∃ (p : PHeap) , PHeap.le s p ∧ St w0 p (H) w' ∧ Fx f' [(7, U (k' : Int)), (0, c), (5, c), (6, U ((d.length : Int)))]) s') y ?_ ?_ ?_
  ·exact V
  ·intro ap aP a2 a4 aU aG z b an
   obtain ⟨ax, aq, l, ⟨a5, rfl⟩⟩ := z
   obtain ⟨ba, ar, b⟩ := Zg b
   refine G ?_
   refine Jk Z Z Z ar ?_
   intro az aK u
   refine G ?_
   refine Zw (E := encFact) l A52.h Z Z Z u ?_
   intro aS au
   obtain rfl := Q9.1 au
   refine G ?_
   refine Exec.alloc (cs := [U 0, U 0]) l Z52 Z Z ?_
   intro a0 aV aC
   refine G ?_
   refine Yo Z Z Z ?_
   intro aW ad
   obtain ⟨i, a, b⟩ := Zg b
   refine g ?_
   refine Zc (Qm (M := fun f' w' => (fun (i : Bool) => ∃ (q : PHeap) , PHeap.le ax q ∧ St w0 q (H) w' ∧ Fx f' [(0, c), (5, c), (6, U ((d.length : Int))), (7, U ((ap : Int))), (34, Vb i)]) i) ?_ ?_)
   ·refine KG (n0 := 23) (qs 0 23 .done) Yp (by kernel_rfl) (by kernel_rfl) ?_
    have ae := ad.drew
    refine G ?_
    rcases Qk a with ⟨ag, a⟩ | ⟨ag, a⟩
    ·cases a
     refine G ?_
     exact V
    refine G ?_
    rcases Qk a with ⟨ah, a⟩ | ⟨ah, a⟩
    ·cases a
     refine G ?_
     exact V
    refine G ?_
    rcases Qk a with ⟨ai, a⟩ | ⟨ai, a⟩
    ·obtain ⟨bb, av, a⟩ := Zg a
     refine G ?_
     refine Q6 S23.h Z Z Z (t.mono aq) av ?_
     intro a1 aL x a3
     refine ⟨Z, ?_⟩
     refine G ?_
     refine Zw (E := (Qc .i64)) ae A3.h Z Z Z (x.sub (Sub.iso (Sub.fst (Sub.refl _))) Z) ?_
     intro aT aw
     obtain rfl := Qt.1 aw
     refine ⟨Z, ?_⟩
     cases a
     refine G ?_
     exact V
    cases a
    refine G ?_
    exact V
   intro a6 aX ab
   obtain ⟨aM, aH, aD, ⟨a7, rfl⟩⟩ := ab
   refine G ?_
   rcases Qk b with ⟨aj, b⟩ | ⟨aj, b⟩
   ·cases b
    have al := am _ (an (by intro _ h; cases h))
    cases al
    refine G ?_
    exact fr
   cases b
   refine G ?_
   exact ⟨_, Z, V⟩
  intro aQ a8 aY aa ao
  obtain ⟨aN, aI, aE, ⟨a9, rfl⟩⟩ := aa
  refine G ?_
  exact ⟨_, .inl ao, V⟩
 rintro aA aZ ⟨aR, m, ac⟩
 have hm := m.elim (ak _) (af _)
 clear m
 obtain ⟨aO, aJ, aF, ⟨aB, rfl⟩⟩ := ac
 cases hm
 refine G ?_
 exact fr
theorem Qak {w0 w : World} {s : PHeap} {H : List Res} {b : (List Fact)} {c : Int} {d : Value} {r : Int} (hm : Kc b c = some r) (hS : St w0 s (H) w) (ai : SliceRep encFact s d b) :
  Calls Tryz.prog 94 #[d, U c] w fun e w' => ∃ v, e = .returned v ∧ ((fun (ah : Int) => ∃ (m : PHeap) , PHeap.le s m ∧ St w0 m (H) w' ∧ v = U ah) r) := by
 unfold Kc at hm
 refine Qb Tryz.func94 Z Z ?_
 obtain ⟨i, q, ac, aa, y⟩ := Qo hm
 refine Zc (Zd (g ?_))
 refine Zc (Zc (Zd (g ?_)))
 refine Qm (M := fun f' w' => ∃ s', (i = .next s' ∨ i = .brk s') ∧ (fun (_ : Unit) => ∃ (n : PHeap) , PHeap.le s n ∧ St w0 n (H) w' ∧ Fx f' [(1, U c), (7, d), (8, U ((b.length : Int)))]) s') ?_ ?_
 ·refine G ?_
  refine Q2 (fun k' s' f' w' => (fun (_ : Unit) => ∃ (o : PHeap) , PHeap.le s o ∧ St w0 o (H) w' ∧ Fx f' [(9, U (k' : Int)), (1, U c), (7, d), (8, U ((b.length : Int)))]) s') q ?_ ?_ ?_
  ·exact V
  ·intro az a7 al am aB ay t a ad
   obtain ⟨a4, a0, j, ⟨an, rfl⟩⟩ := t
   obtain ⟨aG, af, a⟩ := Zg a
   refine G ?_
   refine Jk Z Z Z af ?_
   intro aj a3 p
   refine G ?_
   refine Zw (E := encFact) j A52.h Z Z Z p ?_
   intro aA ag
   obtain rfl := Q9.1 ag
   refine G ?_
   refine Exec.alloc (cs := [U 0, U 0]) j Z52 Z Z ?_
   intro ak aC au
   refine G ?_
   refine Yo Z Z Z ?_
   intro aD av
   refine G ?_
   rcases Qk a with ⟨z, a⟩ | ⟨z, a⟩
   ·cases a
    have ab := ac _ (ad (by intro _ h; cases h))
    cases ab
    refine G ?_
    exact fr
   cases a
   refine G ?_
   exact ⟨_, Z, V⟩
  intro a8 ao aE u ae
  obtain ⟨a5, a1, aw, ⟨ap, rfl⟩⟩ := u
  refine G ?_
  exact ⟨_, .inl ae, V⟩
 rintro aq aF ⟨a9, l, x⟩
 have hm := l.elim (aa _) (y _)
 clear l
 obtain ⟨a6, a2, ax, ⟨ar, rfl⟩⟩ := x
 cases hm
 refine G ?_
 exact fr
theorem Ym {w0 w : World} {s : PHeap} {H : List Res} {j : (List Fact)} {b : (List Fact)} {c : Value} {d : Value} {r : Bool} (hm : Jp j b = some r) (hS : St w0 s (H) w) (am : SliceRep encFact s c j) (an : SliceRep encFact s d b) :
  Calls Tryz.prog 75 #[c, d] w fun e w' => ∃ v, e = .returned v ∧ ((fun (al : Bool) => ∃ (o : PHeap) , PHeap.le s o ∧ St w0 o (H) w' ∧ v = Value.bool (al)) r) := by
 unfold Jp at hm
 refine Qb Tryz.func75 Z Z ?_
 obtain ⟨l, x, af, ad, ab⟩ := Qo hm
 refine Zc (Zd (g ?_))
 refine Zc (Zc (Zd (g ?_)))
 refine Qm (M := fun f' w' => ∃ s', (l = .next s' ∨ l = .brk s') ∧ (fun (_ : Unit) => ∃ (p : PHeap) , PHeap.le s p ∧ St w0 p (H) w' ∧ Fx f' [(0, c), (7, d), (8, U ((b.length : Int)))]) s') ?_ ?_
 ·refine G ?_
  refine Q2 (fun k' s' f' w' => (fun (_ : Unit) => ∃ (t : PHeap) , PHeap.le s t ∧ St w0 t (H) w' ∧ Fx f' [(9, U (k' : Int)), (0, c), (7, d), (8, U ((b.length : Int)))]) s') x ?_ ?_ ?_
  ·exact V
  ·intro a4 aE aq ar aI a3 y a ag
   obtain ⟨aA, a5, m, ⟨au, rfl⟩⟩ := y
   obtain ⟨aO, ai, a⟩ := Zg a
   refine G ?_
   refine Jk Z Z Z ai ?_
   intro ao a9 u
   refine G ?_
   refine Zw (E := encFact) m A52.h Z Z Z u ?_
   intro aH aj
   obtain rfl := Q9.1 aj
   refine G ?_
   refine Exec.alloc (cs := [U 0, U 0]) m Z52 Z Z ?_
   intro ap aJ az
   refine G ?_
   refine Yo Z Z Z ?_
   intro aK i
   refine G ?_
   refine KG (n0 := 7) (qs 0 3 (.q 4 (.q 5 (.e 3 [4, 5] (.q 6 .done))))) Yp (by kernel_rfl) (by kernel_rfl) (G ?_)
   refine Zn (i.drew) A3.h Z Z Z ⟨Z, ?_⟩
   refine G ?_
   refine Zn (i.drew) A3.h Z Z Z ⟨Z, ?_⟩
   obtain ⟨aP, ak, a⟩ := Zg a
   refine G ?_
   refine Tc Z Z Z Z (Qak ak i.drew rq).r ?_
   rintro _ aL ⟨aB, a6, a0, rfl⟩
   refine ⟨agq, ?_⟩
   refine G ?_
   rcases Qk a with ⟨ac, a⟩ | ⟨ac, a⟩
   ·cases a
    have ae := af _ (ag (by intro _ h; cases h))
    cases ae
    refine G ?_
    exact fr
   cases a
   refine G ?_
   exact ⟨_, Z, V⟩
  intro aF av aM z ah
  obtain ⟨aC, a7, a1, ⟨aw, rfl⟩⟩ := z
  refine G ?_
  exact ⟨_, .inl ah, V⟩
 rintro ax aN ⟨aG, n, aa⟩
 have hm := n.elim (ad _) (ab _)
 clear n
 obtain ⟨aD, a8, a2, ⟨ay, rfl⟩⟩ := aa
 cases hm
 refine G ?_
 exact fr
theorem Qcz {w0 w : World} {s : PHeap} {H : List Res} {c : (List Fact)} {d : (List Fact)} {j : Value} {k : Value} {r : Bool} (hm : Kf c d = some r) (hS : St w0 s (H) w) (l : SliceRep encFact s j c) (z : SliceRep encFact s k d) :
  Calls Tryz.prog 51 #[j, k] w fun e w' => ∃ v, e = .returned v ∧ ((fun (y : Bool) => ∃ (h : PHeap) , PHeap.le s h ∧ St w0 h (H) w' ∧ v = Value.bool (y)) r) := by
 unfold Kf at hm
 refine Qb Tryz.func51 Z Z ?_
 obtain ⟨b, a, hm⟩ := Zg hm
 refine Zc (Zd (g ?_))
 refine Zc (Qm (M := fun f' w' => (fun (b : Bool) => ∃ (i : PHeap) , PHeap.le s i ∧ St w0 i (H) w' ∧ Fx f' [(4, Vb b)]) b) ?_ ?_)
 ·obtain ⟨aq, t, a⟩ := Zg a
  refine G ?_
  refine Tc Z Z Z Z (JL t hS l).r ?_
  rintro _ am ⟨ai, ae, n, rfl⟩
  refine G ?_
  rcases Qk a with ⟨p, a⟩ | ⟨p, a⟩
  ·obtain ⟨ar, u, a⟩ := Zg a
   refine G ?_
   refine Tc Z Z Z Z (JL u n rq).r ?_
   rintro _ an ⟨aj, af, o, rfl⟩
   refine G ?_
   rcases Qk a with ⟨q, a⟩ | ⟨q, a⟩
   ·obtain ⟨au, x, a⟩ := Zg a
    refine G ?_
    refine Tc Z Z Z Z (Ym x o rq rq).r ?_
    rintro _ ao ⟨ak, ag, ac, rfl⟩
    cases a
    refine G ?_
    exact V
   cases a
   refine G ?_
   exact V
  cases a
  refine G ?_
  exact V
 intro aa ap m
 obtain ⟨al, ah, ad, ⟨ab, rfl⟩⟩ := m
 cases hm
 refine G ?_
 exact fr
theorem N50 : (Tryz.f50.name == "runtime.NumGoroutine") = false := by kernel_rfl
theorem Qb8 {w0 w : World} {s : PHeap} {H : List Res} {a : Nogood} {c : (List Fact)} {i : Value} {b f : Nat} {r : Bool} (hm : Kl a c = some r) (hS : St w0 s (H) w) (j : SliceRep encFact s i a.Facts) (k : At s b f (Qa encFact) c) :
  Calls Tryz.prog 50 #[Value.agg #[i, U (a.Dist)], Value.pointer (some ⟨b, f, none⟩)] w fun e w' => ∃ v, e = .returned v ∧ ((fun (o : Bool) => ∃ (g : PHeap) , PHeap.le s g ∧ St w0 g (H) w' ∧ v = Value.bool (o)) r) := by
 unfold Kl at hm
 refine Qb Tryz.func50 Z Z (G ?_)
 refine Yz Z Z ?_
 intro p y d
 refine G ?_
 refine Zw (E := (Qa encFact)) d A23.h Z Z Z k ?_
 intro x l
 have n := Qr.1 l
 obtain ⟨aa, m, hm⟩ := Zg hm
 refine G ?_
 refine Tc Z Z Z Z (Qcz m d n j).r ?_
 rintro _ z ⟨u, t, q, rfl⟩
 cases hm
 refine G ?_
 exact fr
theorem Qcs {w0 w : World} {s : PHeap} {H : List Res} {c : (List Fact)} {u : (List Int)} {d : Value} {i : Value} {r : Bool} (hm : Ys c u = some r) (hS : St w0 s (H) w) (a0 : SliceRep encFact s d c) (x : SliceRep (Qc .i64) s i u) :
  Calls Tryz.prog 23 #[d, i] w fun e w' => ∃ v, e = .returned v ∧ ((fun (az : Bool) => ∃ (o : PHeap) , PHeap.le s o ∧ St w0 o (H) w' ∧ v = Value.bool (az)) r) := by
 unfold Ys at hm
 refine Qb Tryz.func23 Z Z ?_
 obtain ⟨l, aa, an, al, ah⟩ := Qo hm
 refine Zc (Zd (g ?_))
 refine Zc (Zc (Zd (g ?_)))
 refine Qm (M := fun f' w' => ∃ s', (l = .next s' ∨ l = .brk s') ∧ (fun (_ : Unit) => ∃ (p : PHeap) , PHeap.le s p ∧ St w0 p (H) w' ∧ Fx f' [(1, i), (7, d), (8, U ((c.length : Int)))]) s') ?_ ?_
 ·refine G ?_
  refine Q2 (fun k' s' f' w' => (fun (_ : Unit) => ∃ (q : PHeap) , PHeap.le s q ∧ St w0 q (H) w' ∧ Fx f' [(9, U (k' : Int)), (1, i), (7, d), (8, U ((c.length : Int)))]) s') aa ?_ ?_ ?_
  ·exact V
  ·intro aq aR a4 a6 aW aI ab b ao
   obtain ⟨ay, ar, m, ⟨a7, rfl⟩⟩ := ab
   obtain ⟨bc, au, b⟩ := Zg b
   refine G ?_
   refine Jk Z Z Z au ?_
   intro a1 aM y
   refine G ?_
   refine Zw (E := encFact) m A52.h Z Z Z y ?_
   intro aU av
   obtain rfl := Q9.1 av
   refine G ?_
   refine Exec.alloc (cs := [U 0, U 0]) m Z52 Z Z ?_
   intro a2 aX aE
   refine G ?_
   refine Yo Z Z Z ?_
   intro aY af
   obtain ⟨j, a, b⟩ := Zg b
   refine g ?_
   refine Zc (Qm (M := fun f' w' => (fun (j : Bool) => ∃ (t : PHeap) , PHeap.le ay t ∧ St w0 t (H) w' ∧ Fx f' [(1, i), (7, d), (8, U ((c.length : Int))), (9, U ((aq : Int))), (32, Vb j)]) j) ?_ ?_)
   ·refine KG (n0 := 20) (qs 0 20 .done) Yp (by kernel_rfl) (by kernel_rfl) ?_
    have ag := af.drew
    refine G ?_
    rcases Qk a with ⟨ai, a⟩ | ⟨ai, a⟩
    ·cases a
     refine G ?_
     exact V
    refine G ?_
    rcases Qk a with ⟨aj, a⟩ | ⟨aj, a⟩
    ·cases a
     refine G ?_
     exact V
    obtain ⟨bd, aw, a⟩ := Zg a
    refine G ?_
    refine Q6 S22.h Z Z Z (x.mono ar) aw ?_
    intro a3 aN z a5
    refine ⟨Z, ?_⟩
    refine G ?_
    refine Zw (E := (Qc .i64)) ag A3.h Z Z Z z ?_
    intro aV ax
    obtain rfl := Qt.1 ax
    refine ⟨Z, ?_⟩
    cases a
    refine G ?_
    exact V
   intro a8 aZ ad
   obtain ⟨aO, aJ, aF, ⟨a9, rfl⟩⟩ := ad
   refine G ?_
   rcases Qk b with ⟨ak, b⟩ | ⟨ak, b⟩
   ·cases b
    have am := an _ (ao (by intro _ h; cases h))
    cases am
    refine G ?_
    exact fr
   cases b
   refine G ?_
   exact ⟨_, Z, V⟩
  intro aS aA ba ac ap
  obtain ⟨aP, aK, aG, ⟨aB, rfl⟩⟩ := ac
  refine G ?_
  exact ⟨_, .inl ap, V⟩
 rintro aC bb ⟨aT, n, ae⟩
 have hm := n.elim (al _) (ah _)
 clear n
 obtain ⟨aQ, aL, aH, ⟨aD, rfl⟩⟩ := ae
 cases hm
 refine G ?_
 exact fr
theorem Z69 : Jl Tryz.prog 69 = some (Value.agg #[Value.slice none 0 0, U 0]) := by kernel_rfl
instance S139 : STy Tryz.prog 139 70 1 24 := ⟨by kernel_rfl⟩
theorem Z70 : Jl Tryz.prog 70 = some (Value.slice none 0 0) := by kernel_rfl
theorem QaP {w0 w : World} {s : PHeap} {H : List Res} {aj : (List Int)} {i : Effect} {l : Value} {m : Value} {r : (List (List Fact)) × (Option Int)} (hm : J2 aj i = some r) (hS : St w0 s (H) w) (aI : SliceRep (Qc .i64) s l aj) (aJ : SliceRep encFact s m i.When) :
  Calls Tryz.prog 95 #[l, Value.agg #[m, U (i.Var), U (i.Val)]] w fun e w' => ∃ v, e = .returned v ∧ ((QK fun (aG : (List (List Fact))) (aH : (Option Int)) => ∃ (aa : PHeap) (ai : Value), PHeap.le s aa ∧ St w0 aa (H) w' ∧ v = Value.tuple #[ai, Yc 39 (aH)] ∧ SliceRep (Qa encFact) aa ai aG) r) := by
 unfold J2 at hm
 refine Qb Tryz.func95 Z Z (G ?_)
 refine Yz Z Z ?_
 intro aK b1 aw
 obtain ⟨z, an, hm⟩ := Zg hm
 refine G ?_
 refine J8 (fun k' s' f' w' => (fun (z : (List (List Fact))) => ∃ (af : PHeap) (o : Value), PHeap.le s af ∧ St w0 af (Res.arr (Qa encFact) 23 o z :: H) w' ∧ Fx f' [(13, U (k' : Int)), (0, l), (6, o), (11, m), (12, U ((i.When.length : Int)))]) s') an ?_ ?_ ?_
 ·have aY := aw.nilArr (Qa encFact) 23
  exact V
 ·intro ae z bq aO b2 be ap b
  obtain ⟨aD, o, bf, ab, ⟨aP, rfl⟩⟩ := ap
  obtain ⟨a, a6, b⟩ := Zg b
  refine G ?_
  refine Jk Z Z Z a6 ?_
  intro aL bn al
  refine G ?_
  refine Zw (E := encFact) ab A52.h Z Z Z al ?_
  intro bx a7
  obtain rfl := Q9.1 a7
  refine G ?_
  refine Exec.alloc (cs := [U 0, U 0]) ab Z52 Z Z ?_
  intro n b3 aZ
  refine G ?_
  refine Yo Z Z Z ?_
  intro b4 ac
  obtain ⟨ak, a8, b⟩ := Zg b
  refine G ?_
  refine Jk Z Z Z a8 ?_
  intro aM bo am
  refine G ?_
  refine Zw (E := (Qc .i64)) ac A3.h Z Z Z am ?_
  intro bz a9
  obtain rfl := Qt.1 a9
  obtain ⟨bw, aA, b⟩ := Zg b
  obtain ⟨x, ao, b⟩ := Zg b
  refine G ?_
  refine J8 (fun k' s' f' w' => (fun (x : (List (List Fact))) => ∃ (ag : PHeap) (p : Value), PHeap.le aD ag ∧ St w0 ag (Res.arr (Qa encFact) 23 p x :: Res.box n 52 [U (a.Var), U (a.Val)] :: H) w' ∧ Fx f' [(22, U (k' : Int)), (0, l), (6, p), (8, Vq n), (11, m), (12, U ((i.When.length : Int))), (13, U ((ae : Int))), (21, U ak)]) s') ao ?_ ?_ ?_
  ·have ba := ac.f1
   exact V
  ·intro d x br aQ b5 a5 aq u
   obtain ⟨aE, p, bg, ax, ⟨aR, rfl⟩⟩ := aq
   obtain ⟨y, j, u⟩ := Zg u
   refine Zc (Zd (g ?_))
   refine Zc (KB (Zx (decide_eq_true (by omega))) (QT (Ze (Zc (Qbe (Zc (Zd (g ?_))))))))
   refine Zc (Zd (g ?_))
   refine Qm (M := fun f' w' => (fun (y : (List (List Fact))) => ∃ (ah : PHeap) (q : Value), PHeap.le aE ah ∧ St w0 ah (Res.arr (Qa encFact) 23 q y :: Res.box n 52 [U (a.Var), U (a.Val)] :: H) w' ∧ Fx f' [(0, l), (6, q), (8, Vq n), (11, m), (12, U ((i.When.length : Int))), (13, U ((ae : Int))), (21, U ak), (22, U ((d : Int)))]) y) ?_ ?_
   ·rcases Qk j with ⟨a3, j⟩ | ⟨a3, j⟩
    ·refine G ?_
     refine Exec.build Z (Qd (c := [U (a.Var)]) (Qi Z Z) (Qd (c := [U ((d : Int))]) (Qi Z Z) Qg)) (v := Value.agg #[U (a.Var), U ((d : Int))]) (fun _ => by kernel_rfl) (G ?_)
     refine Exec.buildSlice (Te := 52) (cs := [U (a.Var), U ((d : Int))]) ax Z (Qd (c := [U (a.Var), U ((d : Int))]) (Qi Z Z) Qg) (fun _ => by kernel_rfl) ?_
     intro t b6 ay
     have az := St.boxArr (E := encFact) (xs := [(⟨a.Var, (d : Int)⟩ : Fact)]) ay ⟨[U (a.Var), U ((d : Int))], [], rfl, ⟨[U (a.Var)], [U ((d : Int))], rfl, rfl, rfl⟩, rfl⟩ (by simp [maxLen])
     obtain ⟨bs, bh, a0, aC⟩ := az.freezeArr
     refine G ?_
     refine Exec.buildSlice (Te := 23) (cs := [Vs (some ⟨t, 0, none⟩) 1 1]) a0 Z (Qd (c := [Vs (some ⟨t, 0, none⟩) 1 1]) (Qi Z Z) Qg) (fun _ => by kernel_rfl) ?_
     intro aN b7 a1
     obtain ⟨bi, aB, j⟩ := Zg j
     refine G ?_
     refine Q0 (E := (Qa encFact)) (ys := [[(⟨a.Var, (d : Int)⟩ : Fact)]]) a1.f1 S70.h Z23 Z (by decide) Z Z Z Z ⟨[Vs (some ⟨t, 0, none⟩) 1 1], [], Z, ⟨_, Z, aC⟩, Z⟩ Z aB ?_
     intro b0 b8 bb
     cases j
     refine G ?_
     exact V
    cases j
    refine G ?_
    exact V
   intro aS b9 av
   obtain ⟨aF, q, bj, a2, ⟨aT, rfl⟩⟩ := av
   cases u
   refine G ?_
   exact ⟨aF, q, lq, (a2.f1).f1, (Fx.mk (FxL.cons (Ja a5 (by have h := YI aA; simp at h; simp only [maxLen]; omega)) fxl))⟩
  intro aU bA ar
  obtain ⟨bt, p, bk, bc, ⟨aV, rfl⟩⟩ := ar
  cases b
  refine G ?_
  exact V
 intro aW bB au
 obtain ⟨bu, o, bl, ad, ⟨aX, rfl⟩⟩ := au
 refine G ?_
 refine Qv (ad) S70.h Z Z (G ?_)
 rcases Qk hm with ⟨a4, hm⟩ | ⟨a4, hm⟩
 ·refine G ?_
  refine Exec.makeInterface C39 Z Z ?_
  cases hm
  refine G ?_
  refine ⟨_, KA Z, ?_⟩
  exact V
 cases hm
 refine G ?_
 refine ⟨_, KA Z, ?_⟩
 obtain ⟨bv, bm, bd, bp⟩ := ad.freezeArr
 exact V
theorem QeK {w0 w : World} {s : PHeap} {H : List Res} {b : (List Fact)} {c : Value} {r : (List Fact)} (hm : Y5 b = some r) (hS : St w0 s (Res.arr encFact 52 c b :: H) w) :
  Calls Tryz.prog 19 #[c] w fun e w' => ∃ v, e = .returned v ∧ ((fun (p : (List Fact)) => ∃ (f : PHeap) (g : Value), PHeap.le s f ∧ St w0 f (Res.arr encFact 52 c b :: Res.arr encFact 52 g p :: H) w' ∧ v = g) r) := by
 unfold Y5 at hm
 refine Qb Tryz.func19 Z Z ?_
 obtain ⟨i, y, t, j, m⟩ := hS.nilShape
 refine G ?_
 refine QaU Tryz.underlying23 Z j Z (G ?_)
 rcases tf (i.isNone) with a | a
 ·have n := m a
  replace hm := (show (some []) = ((app 16 [] b).bind fun d => some d) from by simp [n, app]).trans hm
  refine KB ((Zx a)) ?_
  cases hm
  refine G ?_
  refine ⟨_, Qaf Z, ?_⟩
  have u := hS.nilArr encFact 52
  exact V
 refine K6 ((Zx a)) (G ?_)
 refine Exec.buildSlice (Te := 52) (cs := []) hS Z Qg (fun _ => by kernel_rfl) ?_
 intro q aa k
 refine G ?_
 have l := St.boxArr (E := encFact) (xs := []) k rfl (by simp [maxLen])
 obtain ⟨d, o, hm⟩ := Zg hm
 refine G ?_
 refine QeP (E := encFact) (l.f1).f1 S23.h Z52 Z (by decide) Z Z Z o ?_
 intro z ab x
 cases hm
 refine G ?_
 exact fr
theorem QaR {w0 w : World} {s : PHeap} {H : List Res} {b : Int} {r : Bool} (hm : Yv b = some r) (hS : St w0 s (H) w) :
  Calls Tryz.prog 110 #[U b] w fun e w' => ∃ v, e = .returned v ∧ ((fun (c : Bool) => ∃ (a : PHeap) , PHeap.le s a ∧ St w0 a (H) w' ∧ v = Value.bool (c)) r) := by
 unfold Yv at hm
 refine Qb Tryz.func110 Z Z ?_
 cases hm
 refine G ?_
 exact fr
theorem K2 {w0 w : World} {s : PHeap} {H : List Res} {a : Int} {b : Int} {r : Int} (hm : KM a b = some r) (hS : St w0 s (H) w) :
  Calls Tryz.prog 83 #[U a, U b] w fun e w' => ∃ v, e = .returned v ∧ ((fun (k : Int) => ∃ (c : PHeap) , PHeap.le s c ∧ St w0 c (H) w' ∧ v = U k) r) := by
 unfold KM at hm
 refine Qb Tryz.func83 Z Z (G ?_)
 refine Tc Z Z Z Z (QaR (QaQ a) hS).r ?_
 rintro _ q ⟨o, m, d, rfl⟩
 refine G ?_
 refine Tc Z Z Z Z (QaR (QaQ b) d).r ?_
 rintro _ t ⟨p, n, l, rfl⟩
 refine G ?_
 rcases Qk hm with ⟨f, hm⟩ | ⟨f, hm⟩
 ·refine G ?_
  rcases Qk hm with ⟨g, hm⟩ | ⟨g, hm⟩
  ·cases hm
   refine G ?_
   exact fr
  cases hm
  refine G ?_
  exact fr
 refine G ?_
 rcases Qk hm with ⟨h, hm⟩ | ⟨h, hm⟩
 ·cases hm
  refine G ?_
  exact fr
 refine G ?_
 rcases Qk hm with ⟨i, hm⟩ | ⟨i, hm⟩
 ·cases hm
  refine G ?_
  exact fr
 refine G ?_
 rcases Qk hm with ⟨j, hm⟩ | ⟨j, hm⟩
 ·cases hm
  refine G ?_
  exact fr
 cases hm
 refine G ?_
 exact fr
theorem Qcb {w0 w : World} {s : PHeap} {H : List Res} {c : (List Int)} {b : Value} {r : Int} (hm : Ya c = some r) (hS : St w0 s (H) w) (ah : SliceRep (Qc .i64) s b c) :
  Calls Tryz.prog 82 #[b] w fun e w' => ∃ v, e = .returned v ∧ ((fun (ag : Int) => ∃ (j : PHeap) , PHeap.le s j ∧ St w0 j (H) w' ∧ v = U ag) r) := by
 unfold Ya at hm
 refine Qb Tryz.func82 Z Z ?_
 obtain ⟨d, o, ab, z, x⟩ := Qo hm
 refine Zc (Zd (g ?_))
 refine Zc (Zd (g ?_))
 refine Zc (Zc (Zd (g ?_)))
 refine Qm (M := fun f' w' => ∃ s', (d = .next s' ∨ d = .brk s') ∧ (fun (_ : Unit) => ∃ (l : PHeap) , PHeap.le s l ∧ St w0 l (H) w' ∧ Fx f' [(3, U 0), (6, b), (7, U ((c.length : Int)))]) s') ?_ ?_
 ·refine G ?_
  refine Q2 (fun k' s' f' w' => (fun (_ : Unit) => ∃ (m : PHeap) , PHeap.le s m ∧ St w0 m (H) w' ∧ Fx f' [(8, U (k' : Int)), (3, U 0), (6, b), (7, U ((c.length : Int)))]) s') o ?_ ?_ ?_
  ·exact V
  ·intro av a3 aj ak a7 au p a ac
   obtain ⟨a0, aw, u, ⟨al, rfl⟩⟩ := p
   obtain ⟨aA, ae, a⟩ := Zg a
   refine G ?_
   refine Jk Z Z Z ae ?_
   intro ai az n
   refine G ?_
   refine Zw (E := (Qc .i64)) u A3.h Z Z Z n ?_
   intro a6 af
   obtain rfl := Qt.1 af
   refine G ?_
   rcases Qk a with ⟨y, a⟩ | ⟨y, a⟩
   ·cases a
    have aa := ab _ (ac (by intro _ h; cases h))
    cases aa
    refine G ?_
    exact fr
   cases a
   refine G ?_
   exact ⟨_, Z, V⟩
  intro a4 am a8 q ad
  obtain ⟨a1, ax, aq, ⟨an, rfl⟩⟩ := q
  refine G ?_
  exact ⟨_, .inl ad, V⟩
 rintro ao a9 ⟨a5, i, t⟩
 have hm := i.elim (z _) (x _)
 clear i
 obtain ⟨a2, ay, ar, ⟨ap, rfl⟩⟩ := t
 cases hm
 refine G ?_
 exact fr
theorem QcJ {w0 w : World} {s : PHeap} {H : List Res} {a : Fact} {b : Fact} {r : Int} (hm : Yg a b = some r) (hS : St w0 s (H) w) :
  Calls Tryz.prog 142 #[Value.agg #[U (a.Var), U (a.Val)], Value.agg #[U (b.Var), U (b.Val)]] w fun e w' => ∃ v, e = .returned v ∧ ((fun (o : Int) => ∃ (f : PHeap) , PHeap.le s f ∧ St w0 f (H) w' ∧ v = U o) r) := by
 unfold Yg at hm
 refine Qb Tryz.func142 Z Z (G ?_)
 refine Yz Z Z ?_
 intro p ag u
 refine G ?_
 refine Yz Z Z ?_
 intro q ah d
 refine G ?_
 refine KG (n0 := 12) (qs 0 4 (qs 5 4 (.e 4 [5, 6, 7, 8] (.e 9 [] (.e 10 [] (.e 11 [] .done)))))) Yp (by kernel_rfl) (by kernel_rfl) (G ?_)
 refine Zn ((d.drew).f1) A3.h Z Z Z ⟨Z, ?_⟩
 refine G ?_
 refine Zn (d.drew) A3.h Z Z Z ⟨Z, ?_⟩
 refine G ?_
 refine Zn ((d.drew).f1) A3.h Z Z Z ⟨Z, ?_⟩
 refine G ?_
 refine Zn (d.drew) A3.h Z Z Z ⟨Z, ?_⟩
 refine G ?_
 refine Tc Z Z Z Z (K2 (K1 a.Var b.Var) d.drew).r ?_
 rintro _ ai ⟨ac, y, g, rfl⟩
 refine ⟨agq, ?_⟩
 refine G ?_
 refine Tc Z Z Z Z (K2 (K1 a.Val b.Val) g).r ?_
 rintro _ aj ⟨ad, z, i, rfl⟩
 refine ⟨agq, ?_⟩
 refine G ?_
 refine Exec.buildSlice (Te := 3) (cs := [U ((Qn a.Var b.Var)), U ((Qn a.Val b.Val))]) i Z (Qd (c := [U ((Qn a.Var b.Var))]) (Qi Z Z) (Qd (c := [U ((Qn a.Val b.Val))]) (Qi Z Z) Qg)) (fun _ => by kernel_rfl) ?_
 intro t ak j
 refine ⟨agq, ?_⟩
 have k := St.boxArr (E := (Qc .i64)) (xs := [(Qn a.Var b.Var), (Qn a.Val b.Val)]) j ⟨[U ((Qn a.Var b.Var))], [U ((Qn a.Val b.Val))], rfl, rfl, ⟨[U ((Qn a.Val b.Val))], [], rfl, rfl, rfl⟩⟩ (by simp [maxLen])
 obtain ⟨ae, aa, l, n⟩ := k.freezeArr
 obtain ⟨am, m, hm⟩ := Zg hm
 refine G ?_
 refine Tc Z Z Z Z (Qcb m l n).r ?_
 rintro _ al ⟨af, ab, x, rfl⟩
 refine ⟨agq, ?_⟩
 cases hm
 refine G ?_
 exact fr
end Go.Pw
