/- -/
import Derived.Test.YtjbjflndiajoiaaGreatDoorLD
import Derived.Test.YtjbjflndiajoiaaGreatDoorLC
import Derived.Test.YtjbjflndiajoiaaGreatDoorWa8
set_option maxRecDepth 100000
set_option maxHeartbeats 4000000
set_option linter.unusedVariables false
namespace Go.Pw
open Go.Proofs
attribute [local irreducible] Exec WL W andThen Qax DL QX
theorem Qa1 {w0 w : World} {s : PHeap} {H : List Res} {a : (List pdb_item)} {b : Value} {r : Int} (hm : Yg a = some r) (hS : St w0 s (Res.arr encpdb_item 107 b a :: H) w) :
  Calls Tryz.prog 49 #[b] w fun e w' => ∃ v, e = .returned v ∧ ((fun (d : Int) => ∃ (c : PHeap) , PHeap.le s c ∧ St w0 c (Res.arr encpdb_item 107 b a :: H) w' ∧ v = O d) r) := by
 unfold Yg at hm
 refine Qd Tryz.func49 Z Z (G ?_)
 refine Q0 (hS) S104.h Z Z ?_
 cases hm
 refine G ?_
 exact fr
theorem QiZ : Yt Tryz.prog 102 "Len" = some (49, false) := by kernel_rfl
instance F107_0 : FTy Tryz.prog 107 0 0 := ⟨by kernel_rfl⟩
theorem QpF : (Tryz.f265.name == "runtime.NumGoroutine") = false := by kernel_rfl
theorem Qaj {w0 w : World} {s : PHeap} {H : List Res} {c : (List pdb_item)} {i : Int} {j : Int} {d : Value} {r : Bool} (hm : JA c i j = some r) (hS : St w0 s (Res.arr encpdb_item 107 d c :: H) w) :
  Calls Tryz.prog 265 #[d, O i, O j] w fun e w' => ∃ v, e = .returned v ∧ ((fun (n : Bool) => ∃ (k : PHeap) , PHeap.le s k ∧ St w0 k (Res.arr encpdb_item 107 d c :: H) w' ∧ v = Value.bool (n)) r) := by
 unfold JA at hm
 refine Qd Tryz.func265 Z Z (G ?_)
 refine JE (n0 := 11) (qs 0 11 .done) JM (by kernel_rfl) (by kernel_rfl) ?_
 obtain ⟨y, a, hm⟩ := V hm
 obtain ⟨q, o, f⟩ := (hS.drew).arr_at a
 refine G ?_
 refine Qa S104.h Z f Z (Qb a).1 (Qb a).2.1 ⟨Z, ?_⟩
 refine G ?_
 refine Qf (F := (U .i64)) (hS.drew) f A3.h Z Z Z a (Sub.iso (QdG (Sub.refl _))) ?_
 intro u l
 obtain rfl := Qg.1 l
 refine ⟨Z, ?_⟩
 obtain ⟨z, b, hm⟩ := V hm
 obtain ⟨t, p, g⟩ := (hS.drew).arr_at b
 refine G ?_
 refine Qa S104.h Z g Z (Qb b).1 (Qb b).2.1 ⟨Z, ?_⟩
 refine G ?_
 refine Qf (F := (U .i64)) (hS.drew) g A3.h Z Z Z b (Sub.iso (QdG (Sub.refl _))) ?_
 intro x m
 obtain rfl := Qg.1 m
 refine ⟨Z, ?_⟩
 cases hm
 refine G ?_
 refine ⟨_, KR Z, ?_⟩
 exact ⟨s, (Zv _), hS.drew, Z⟩
theorem Qfi : Yt Tryz.prog 102 "Less" = some (265, false) := by kernel_rfl
theorem QpE : (Tryz.f268.name == "runtime.NumGoroutine") = false := by kernel_rfl
theorem Qai {w0 w : World} {s : PHeap} {H : List Res} {n : (List pdb_item)} {l : Int} {m : Int} {d : Value} {r : (List pdb_item)} (hm : J9 n l m = some r) (hS : St w0 s (Res.arr encpdb_item 107 d n :: H) w) :
  Calls Tryz.prog 268 #[d, O l, O m] w fun e w' => ∃ v, e = .returned v ∧ ((fun (p : (List pdb_item)) => ∃ (o : PHeap) , PHeap.le s o ∧ St w0 o (Res.arr encpdb_item 107 d p :: H) w' ∧ v = Value.tuple #[]) r) := by
 unfold J9 at hm
 refine Qd Tryz.func268 Z Z (JE (n0 := 14) (qs 0 13 (.e 13 [2, 3] .done)) JM (by kernel_rfl) (by kernel_rfl) ?_)
 obtain ⟨an, b, hm⟩ := V hm
 obtain ⟨ac, y, f⟩ := (hS.drew).arr_at b
 refine G ?_
 refine Qa S104.h Z f Z (Qb b).1 (Qb b).2.1 ⟨Z, ?_⟩
 refine G ?_
 refine Qf (F := encpdb_item) (hS.drew) f A107.h Z Z Z b (Sub.refl _) ?_
 intro aj q
 obtain rfl := YO.1 q
 refine ⟨Z, ?_⟩
 obtain ⟨ao, a, hm⟩ := V hm
 obtain ⟨ad, z, g⟩ := (hS.drew).arr_at a
 refine G ?_
 refine Qa S104.h Z g Z (Qb a).1 (Qb a).2.1 ⟨Z, ?_⟩
 refine G ?_
 refine Qf (F := encpdb_item) (hS.drew) g A107.h Z Z Z a (Sub.refl _) ?_
 intro ak t
 obtain rfl := YO.1 t
 refine ⟨Z, ?_⟩
 obtain ⟨ae, aa, i⟩ := (hS.drew).arr_at a
 refine G ?_
 refine Qa S104.h Z i Z (Qb a).1 (Qb a).2.1 ⟨Z, ?_⟩
 obtain ⟨ah, u, hm⟩ := V hm
 refine G ?_
 refine Qx hS.drew i A107.h Z Z Z Z (YO.2 Z) u ?_
 intro al k
 refine ⟨agq, ?_⟩
 obtain ⟨ap, c, hm⟩ := V hm
 obtain ⟨af, ab, j⟩ := k.arr_at c
 refine G ?_
 refine Qa S104.h Z j Z (Qb c).1 (Qb c).2.1 ?_
 obtain ⟨ai, x, hm⟩ := V hm
 refine G ?_
 refine Qx k j A107.h Z Z Z Z (YO.2 Z) x ?_
 intro am ag
 cases hm
 refine G ?_
 refine ⟨_, Qhg Z, ?_⟩
 exact fq
theorem Qfh : Yt Tryz.prog 102 "Swap" = some (268, false) := by kernel_rfl
theorem Qgw {w0 w : World} {s : PHeap} {H : List Res} {m : (List pdb_item)} {q : Int} {c : Nat} {b : Value} {r : (List pdb_item)} (hm : Qag m q = some r) (hS : St w0 s (Res.box c 104 [b] :: Res.arr encpdb_item 107 b m :: H) w) :
  Calls Tryz.prog 76 #[Value.iface 102 (Value.pointer (some ⟨c, 0, none⟩)), O q] w fun e w' => ∃ v, e = .returned v ∧ ((fun (ak : (List pdb_item)) => ∃ (x : PHeap) , PHeap.le s x ∧ St w0 x (Res.box c 104 [b] :: Res.arr encpdb_item 107 b ak :: H) w' ∧ v = Value.tuple #[]) r) := by
 unfold Qag at hm
 refine Qd Tryz.func76 Z Z ?_
 obtain ⟨l, ab, a3, ai, af⟩ := Qr hm
 refine Qp (M := fun f' w' => ∃ s', (l = .next s' ∨ l = .brk s') ∧ (QI fun (t : Int) (u : (List pdb_item)) => ∃ (y : PHeap) , PHeap.le s y ∧ St w0 y (Res.box c 104 [b] :: Res.arr encpdb_item 107 b u :: H) w' ∧ Fx f' [(0, Value.iface 102 (Vq c)), (1, O t)]) s') ?_ ?_
 ·refine G ?_
  refine KA (fun s' f' w' => (QI fun (i : Int) (j : (List pdb_item)) => ∃ (z : PHeap) , PHeap.le s z ∧ St w0 z (Res.box c 104 [b] :: Res.arr encpdb_item 107 b j :: H) w' ∧ Fx f' [(0, Value.iface 102 (Vq c)), (1, O i)]) s') ab ?_ ?_
  ·have az := hS.f1
   exact fq
  intro ao aq ar aE ac a aj
  obtain ⟨i, j⟩ := ao
  replace a := Q7 a
  obtain ⟨an, a4, n, ⟨au, rfl⟩⟩ := ac
  refine G ?_
  refine Exec.quo Z Z Z (by decide) ?_
  obtain ⟨k, d, a⟩ := V a
  refine g ?_
  refine Zc (Zc (Qp (M := fun f' w' => (fun (k : Bool) => ∃ (aa : PHeap) , PHeap.le an aa ∧ St w0 aa (Res.box c 104 [b] :: Res.arr encpdb_item 107 b j :: H) w' ∧ Fx f' [(0, Value.iface 102 (Vq c)), (1, O i), (4, O (IntKind.i64.wrap ((IntKind.i64.wrap (i - 1)).tdiv 2))), (17, Vb k)]) k) ?_ ?_))
  ·refine G ?_
   rcases Qs d with ⟨ag, d⟩ | ⟨ag, d⟩
   ·cases d
    refine G ?_
    exact fq
   obtain ⟨aJ, al, d⟩ := V d
   refine G ?_
   refine Kt Qfi Tryz.underlying102 A104.h (n.f1).f1 Z Z Z Tryz.func265 Z QpF (Zi Z (Zi Z Qw)) ((Qaj al n.f1).mono ?_)
   rintro _ aF ⟨_, rfl, ⟨aA, a5, a0, rfl⟩⟩
   refine ⟨_, Z, ?_⟩
   cases d
   refine G ?_
   exact fq
  intro av aG ad
  obtain ⟨aB, a6, o, ⟨aw, rfl⟩⟩ := ad
  refine G ?_
  rcases Qs a with ⟨ah, a⟩ | ⟨ah, a⟩
  ·cases a
   refine G ?_
   exact ⟨_, .inr (aj (by intro _ h; cases h)), fq⟩
  obtain ⟨a7, am, a⟩ := V a
  refine G ?_
  refine Kt Qfh Tryz.underlying102 A104.h (o.f1).f1 Z Z Z Tryz.func268 Z QpE (Zi Z (Zi Z Qw)) ((Qai am o.f1).mono ?_)
  rintro _ aH ⟨_, rfl, ⟨aC, a8, a1, rfl⟩⟩
  refine ⟨_, Z, ?_⟩
  cases a
  refine G ?_
  exact ⟨_, Z, fq⟩
 rintro ax aI ⟨ap, p, ae⟩
 have hm := p.elim (ai _) (af _)
 clear p
 obtain ⟨t, u⟩ := ap
 replace hm := Q7 hm
 obtain ⟨aD, a9, a2, ⟨ay, rfl⟩⟩ := ae
 refine ?_
 cases hm
 refine ⟨_, Qhg Z, ?_⟩
 exact fq
theorem QcM {w0 w : World} {s : PHeap} {H : List Res} {c : (List pdb_item)} {b : pdb_item} {a : Nat} {g : Value} {r : (List pdb_item)} (hm : Kl c b = some r) (hS : St w0 s (Res.box a 104 [g] :: Res.arr encpdb_item 107 g c :: H) w) :
  Calls Tryz.prog 48 #[Value.iface 102 (Value.pointer (some ⟨a, 0, none⟩)), Value.iface 107 (Value.agg #[O (b.dist), O (b.state)])] w fun e w' => ∃ v, e = .returned v ∧ ((fun (k : (List pdb_item)) => ∃ (f : PHeap) (i : Value), PHeap.le s f ∧ St w0 f (Res.box a 104 [i] :: Res.arr encpdb_item 107 i k :: H) w' ∧ v = Value.tuple #[]) r) := by
 unfold Kl at hm
 refine Qd Tryz.func48 Z Z ?_
 obtain ⟨l, m, hm⟩ := V hm
 refine G ?_
 refine QdN Qlv Tryz.underlying102 Z Z Tryz.func267 Z QqW (Zi Z Qw) ((Qfn m (hS.f1).f1).mono ?_)
 rintro _ ab ⟨_, rfl, ⟨x, aa, p, d, rfl⟩⟩
 refine ⟨_, Z, ?_⟩
 refine G ?_
 refine Kt QiZ Tryz.underlying102 A104.h (d.f1).f1 Z Z Z Tryz.func49 Z N49 Qw ((Qa1 (Yr l) d.f1).mono ?_)
 rintro _ ac ⟨_, rfl, ⟨y, q, j, rfl⟩⟩
 refine ⟨_, Z, ?_⟩
 obtain ⟨t, n, hm⟩ := V hm
 refine G ?_
 refine Tc Z Z Z Z (Qgw n j.f1).r ?_
 rintro _ ad ⟨z, u, o, rfl⟩
 cases hm
 refine G ?_
 refine ⟨_, Qhg Z, ?_⟩
 exact fq
theorem Qfp {w0 w : World} {s : PHeap} {H : List Res} {q : (List pdb_item)} {k : Int} {i : Int} {c : Nat} {b : Value} {r : Bool × (List pdb_item)} (hm : Y1 q k i = some r) (hS : St w0 s (Res.box c 104 [b] :: Res.arr encpdb_item 107 b q :: H) w) :
  Calls Tryz.prog 77 #[Value.iface 102 (Value.pointer (some ⟨c, 0, none⟩)), O k, O i] w fun e w' => ∃ v, e = .returned v ∧ ((QI fun (a6 : Bool) (ax : (List pdb_item)) => ∃ (ad : PHeap) , PHeap.le s ad ∧ St w0 ad (Res.box c 104 [b] :: Res.arr encpdb_item 107 b ax :: H) w' ∧ v = Value.bool (a6)) r) := by
 unfold Y1 at hm
 refine Qd Tryz.func77 Z Z ?_
 obtain ⟨p, aj, aO, aw, ap⟩ := Qr hm
 refine Zc (Zd (g ?_))
 refine Zc (Zd (g ?_))
 refine Zc (Qp (M := fun f' w' => ∃ s', (p = .next s' ∨ p = .brk s') ∧ (QI fun (ab : Int) (ac : (List pdb_item)) => ∃ (ae : PHeap) , PHeap.le s ae ∧ St w0 ae (Res.box c 104 [b] :: Res.arr encpdb_item 107 b ac :: H) w' ∧ Fx f' [(0, Value.iface 102 (Vq c)), (1, O k), (2, O i), (7, O ab)]) s') ?_ ?_)
 ·refine G ?_
  refine KA (fun s' f' w' => (QI fun (d : Int) (m : (List pdb_item)) => ∃ (af : PHeap) , PHeap.le s af ∧ St w0 af (Res.box c 104 [b] :: Res.arr encpdb_item 107 b m :: H) w' ∧ Fx f' [(0, Value.iface 102 (Vq c)), (1, O k), (2, O i), (7, O d)]) s') aj ?_ ?_
  ·have aI := hS.f1
   exact fq
  intro a4 a7 a8 bd ak a aa
  obtain ⟨d, m⟩ := a4
  replace a := Q7 a
  obtain ⟨a1, aP, aJ, ⟨a9, rfl⟩⟩ := ak
  refine Qcv (Zc (Zd (g ?_)))
  refine Zc (Zc (Qp (M := fun f' w' => ∃ (ag : PHeap) , PHeap.le a1 ag ∧ St w0 ag (Res.box c 104 [b] :: Res.arr encpdb_item 107 b m :: H) w' ∧ Fx f' [(0, Value.iface 102 (Vq c)), (1, O k), (2, O i), (7, O d), (8, O (IntKind.i64.wrap ((IntKind.i64.wrap (2 * d)) + 1))), (21, Vb (((decide (i ≤ (IntKind.i64.wrap ((IntKind.i64.wrap (2 * d)) + 1)))) || decide ((IntKind.i64.wrap ((IntKind.i64.wrap (2 * d)) + 1)) < 0))))]) ?_ ?_))
  ·refine G ?_
   rcases tf (decide (i ≤ (IntKind.i64.wrap ((IntKind.i64.wrap (2 * d)) + 1)))) with aq | aq
   ·refine G ?_
    exact fq
   refine G ?_
   exact fq
  intro aA be al
  obtain ⟨a2, aQ, t, ⟨aB, rfl⟩⟩ := al
  refine G ?_
  rcases Qs a with ⟨y, a⟩ | ⟨y, a⟩
  ·cases a
   refine G ?_
   exact ⟨_, .inr (aa (by intro _ h; cases h)), fq⟩
  obtain ⟨o, j, a⟩ := V a
  refine W_c Z y (Qa4 (Jt (Ze (Zc (Zd (g ?_))))))
  refine Zc (Zc (Zd (g ?_)))
  refine Zc (Qp (M := fun f' w' => (fun (o : Bool) => ∃ (ah : PHeap) , PHeap.le a2 ah ∧ St w0 ah (Res.box c 104 [b] :: Res.arr encpdb_item 107 b m :: H) w' ∧ Fx f' [(0, Value.iface 102 (Vq c)), (1, O k), (2, O i), (7, O d), (9, O (IntKind.i64.wrap ((IntKind.i64.wrap (2 * d)) + 1))), (10, O (IntKind.i64.wrap ((IntKind.i64.wrap ((IntKind.i64.wrap (2 * d)) + 1)) + 1))), (33, Vb o)]) o) ?_ ?_)
  ·refine G ?_
   rcases Qs j with ⟨ar, j⟩ | ⟨ar, j⟩
   ·obtain ⟨bl, ay, j⟩ := V j
    refine G ?_
    refine Kt Qfi Tryz.underlying102 A104.h (t.f1).f1 Z Z Z Tryz.func265 Z QpF (Zi Z (Zi Z Qw)) ((Qaj ay t.f1).mono ?_)
    rintro _ bf ⟨_, rfl, ⟨aY, aR, aK, rfl⟩⟩
    refine ⟨_, Z, ?_⟩
    cases j
    refine G ?_
    exact fq
   cases j
   refine G ?_
   exact fq
  intro aC bg am
  obtain ⟨a3, aS, aL, ⟨aD, rfl⟩⟩ := am
  obtain ⟨n, l, a⟩ := V a
  refine g ?_
  refine Qp (M := fun f' w' => (fun (n : Int) => ∃ (ai : PHeap) , PHeap.le a3 ai ∧ St w0 ai (Res.box c 104 [b] :: Res.arr encpdb_item 107 b m :: H) w' ∧ Fx f' [(0, Value.iface 102 (Vq c)), (1, O k), (2, O i), (7, O d), (9, O n)]) n) ?_ ?_
  ·rcases Qs l with ⟨au, l⟩ | ⟨au, l⟩
   ·cases l
    refine G ?_
    exact fq
   cases l
   refine G ?_
   exact fq
  intro aE bh an
  obtain ⟨aZ, aT, u, ⟨aF, rfl⟩⟩ := an
  obtain ⟨bm, az, a⟩ := V a
  refine G ?_
  refine Kt Qfi Tryz.underlying102 A104.h (u.f1).f1 Z Z Z Tryz.func265 Z QpF (Zi Z (Zi Z Qw)) ((Qaj az u.f1).mono ?_)
  rintro _ bi ⟨_, rfl, ⟨ba, aU, x, rfl⟩⟩
  refine ⟨_, Z, ?_⟩
  refine G ?_
  rcases Qs a with ⟨av, a⟩ | ⟨av, a⟩
  ·cases a
   refine G ?_
   exact ⟨_, .inr (aa (by intro _ h; cases h)), fq⟩
  obtain ⟨aV, a0, a⟩ := V a
  refine G ?_
  refine Kt Qfh Tryz.underlying102 A104.h x.f1 Z Z Z Tryz.func268 Z QpE (Zi Z (Zi Z Qw)) ((Qai a0 x).mono ?_)
  rintro _ bj ⟨_, rfl, ⟨bb, aW, aM, rfl⟩⟩
  refine ⟨_, Z, ?_⟩
  cases a
  refine G ?_
  exact ⟨_, Z, fq⟩
 rintro aG bk ⟨a5, z, ao⟩
 have hm := z.elim (aw _) (ap _)
 clear z
 obtain ⟨ab, ac⟩ := a5
 replace hm := Q7 hm
 obtain ⟨bc, aX, aN, ⟨aH, rfl⟩⟩ := ao
 cases hm
 refine G ?_
 exact fr
theorem QqX : (Tryz.f266.name == "runtime.NumGoroutine") = false := by kernel_rfl
theorem QfQ {w0 w : World} {s : PHeap} {H : List Res} {g : (List pdb_item)} {b : Nat} {j : Value} {r : pdb_item × (List pdb_item)} (hm : QaE g = some r) (hS : St w0 s (Res.box b 104 [j] :: Res.arr encpdb_item 107 j g :: H) w) :
  Calls Tryz.prog 266 #[Value.pointer (some ⟨b, 0, none⟩)] w fun e w' => ∃ v, e = .returned v ∧ ((QI fun (m : pdb_item) (o : (List pdb_item)) => ∃ (i : PHeap) (k : Value), PHeap.le s i ∧ St w0 i (Res.box b 104 [k] :: Res.arr encpdb_item 107 k o :: H) w' ∧ v = Value.iface 107 (Value.agg #[O (m.dist), O (m.state)])) r) := by
 unfold QaE at hm
 refine Qd Tryz.func266 Z Z (G ?_)
 refine Q0 (hS.f1) S104.h Z Z ?_
 obtain ⟨ah, a, hm⟩ := V hm
 obtain ⟨y, x, d⟩ := (hS.f1).arr_at a
 refine G ?_
 refine Qa S104.h Z d Z (Qb a).1 (Qb a).2.1 (G ?_)
 refine Qf (F := encpdb_item) (hS.f1) d A107.h Z Z Z a (Sub.refl _) ?_
 intro ad p
 obtain rfl := YO.1 p
 refine G ?_
 refine Exec.alloc (cs := [O 0, O 0]) hS Qoz Z Z ?_
 intro u ae z
 refine G ?_
 refine KJ Z Z Z ?_
 intro af f
 obtain ⟨ab, q, hm⟩ := V hm
 refine G ?_
 refine QaY (f.f2) S104.h Z Z Z q ?_
 intro l c
 refine G ?_
 refine Qq (ds := [l]) (es := [l]) f.f1 A104.h Z Z Z (Qz c.one) (Zj c.one QU) (Nat.le_of_ble_eq_true Z) Z ?_
 intro ag n
 obtain ⟨ac, t, hm⟩ := V hm
 have aa := (n.f2).arr_head c (by simpa using Ql t)
 refine G ?_
 refine Exec.makeInterface QmZ Z Z ?_
 cases hm
 refine G ?_
 refine ⟨_, KR Z, ?_⟩
 exact fq
theorem QmK : Yt Tryz.prog 102 "Pop" = some (266, true) := by kernel_rfl
theorem QfT {w0 w : World} {s : PHeap} {H : List Res} {b : (List pdb_item)} {a : Nat} {f : Value} {r : pdb_item × (List pdb_item)} (hm : YN b = some r) (hS : St w0 s (Res.box a 104 [f] :: Res.arr encpdb_item 107 f b :: H) w) :
  Calls Tryz.prog 50 #[Value.iface 102 (Value.pointer (some ⟨a, 0, none⟩))] w fun e w' => ∃ v, e = .returned v ∧ ((QI fun (i : pdb_item) (l : (List pdb_item)) => ∃ (d : PHeap) (g : Value), PHeap.le s d ∧ St w0 d (Res.box a 104 [g] :: Res.arr encpdb_item 107 g l :: H) w' ∧ v = Value.iface 107 (Value.agg #[O (i.dist), O (i.state)])) r) := by
 unfold YN at hm
 refine Qd Tryz.func50 Z Z (G ?_)
 refine Kt QiZ Tryz.underlying102 A104.h (hS.f1).f1 Z Z Z Tryz.func49 Z N49 Qw ((Qa1 (Yr b) hS.f1).mono ?_)
 rintro _ ai ⟨_, rfl, ⟨ad, u, c, rfl⟩⟩
 refine ⟨_, Z, ?_⟩
 obtain ⟨x, m, hm⟩ := V hm
 refine G ?_
 refine Kt Qfh Tryz.underlying102 A104.h c.f1 Z Z Z Tryz.func268 Z QpE (Zi Z (Zi Z Qw)) ((Qai m c).mono ?_)
 rintro _ aj ⟨_, rfl, ⟨ae, y, j, rfl⟩⟩
 refine ⟨_, Z, ?_⟩
 obtain ⟨p, n, hm⟩ := V hm
 obtain ⟨am, z⟩ := p
 replace hm := Q7 hm
 refine G ?_
 refine Tc Z Z Z Z (Qfp n j.f1).r ?_
 rintro _ ak ⟨af, aa, k, rfl⟩
 obtain ⟨q, o, hm⟩ := V hm
 obtain ⟨an, ab⟩ := q
 replace hm := Q7 hm
 refine G ?_
 refine QdN QmK Tryz.underlying102 Z Z Tryz.func266 Z QqX Qw ((QfQ o (k.f1).f1).mono ?_)
 rintro _ al ⟨_, rfl, ⟨ag, ah, ac, t, rfl⟩⟩
 refine ⟨_, Z, ?_⟩
 cases hm
 refine G ?_
 exact fr
instance F107_1 : FTy Tryz.prog 107 1 1 := ⟨by kernel_rfl⟩
theorem QfR {w0 w : World} {s : PHeap} {H : List Res} {p : System} {aB : (List Int)} {a5 : Value} {an : Value} {af : Value} {z : Value} {r : (List Int)} (hm : YJ p aB = some r) (hS : St w0 s (H) w) (cD : SliceRep (U .i64) s a5 p.Costs) (cE : SliceRep encEdge s an p.Edges) (cF : SliceRep encBool s af p.Goals) (bm : SliceRep (U .i64) s z aB) :
  Calls Tryz.prog 21 #[Value.agg #[O (p.States), O (p.Init), a5, an, af], z] w fun e w' => ∃ v, e = .returned v ∧ ((fun (cC : (List Int)) => ∃ (a4 : PHeap) (bj : Value), PHeap.le s a4 ∧ St w0 a4 (H) w' ∧ v = bj ∧ SliceRep (U .i64) a4 bj cC) r) := by
 unfold YJ at hm
 refine Qd Tryz.func21 Z Z (G ?_)
 refine Kq Z Z ?_
 intro a9 e7 b5
 obtain ⟨dL, cd, hm⟩ := V hm
 refine G ?_
 refine Qbx (F := encEdge) (T2 := 100) b5 S101.h Z55 Z Z Z cd ?_
 intro d dI e8 b6
 obtain ⟨y, bq, hm⟩ := V hm
 refine G ?_
 refine QO (fun k' s' f' w' => (fun (y : (List (List Edge))) => ∃ (aZ : PHeap) (b : List Value), PHeap.le s aZ ∧ St w0 aZ (Res.box a9 58 [O (p.States), O (p.Init), a5, an, af] :: Res.arr encRaw 55 d b :: Res.rows encEdge 100 b y :: H) w' ∧ Fx f' [(23, O (k' : Int)), (1, z), (2, Vq a9), (5, d), (21, an), (22, O ((p.Edges.length : Int)))]) s') bq ?_ ?_ ?_
 ·have d1 := b6.f2
  exact fq
 ·intro dK y ej cX e9 dF bu u
  obtain ⟨ek, b, dM, aL, ⟨cY, rfl⟩⟩ := bu
  obtain ⟨i, ce, u⟩ := V u
  refine G ?_
  refine Jk Z Z Z ce ?_
  intro cG ee bn
  refine G ?_
  refine Zw (E := encEdge) aL A100.h Z Z Z bn ?_
  intro ex cf
  obtain rfl := Jz.1 cf
  refine G ?_
  refine Exec.alloc (cs := [O 0, O 0, O 0]) aL QeW Z Z ?_
  intro cH eA d2
  refine G ?_
  refine KJ Z Z Z ?_
  intro eB b7
  refine G ?_
  refine JE (n0 := 11) (qs 0 9 (.e 9 [0, 1, 2, 3, 4, 5, 6, 7] (.e 10 [0, 1, 2] .done))) JM (by kernel_rfl) (by kernel_rfl) ?_
  have ai := b7.drew
  obtain ⟨ei, aV, u⟩ := V u
  obtain ⟨d0, t, aC, _⟩ := (((ai.f3).f3).f1).rows_at aV
  obtain ⟨ds, cN, ac⟩ := ((ai.f3).f3).arr_at t
  refine G ?_
  refine Qa S101.h Z ac Z (Qb t).1 (Qb t).2.1 ⟨Z, ?_⟩
  refine G ?_
  refine Qf (F := encRaw) ((ai.f3).f3) ac A55.h Z Z Z t (Sub.refl _) ?_
  intro cA aW
  replace aW := (K5.1 aW).1
  subst cA
  refine ⟨Z, ?_⟩
  refine G ?_
  refine Exec.buildSlice (Te := 100) (cs := [O (i.From), O (i.Label), O (i.To)]) ai Z (Qc (c := [O (i.From), O (i.Label), O (i.To)]) (Qe Z Z) Qi) (fun _ => by kernel_rfl) ?_
  intro cI eC aj
  refine ⟨(Qh (Q1 Z Z (Zm (v := d) Z Z ⟨Z, Z⟩)) (Qh (Q1 Z Z (Zp F100_2.h Z Z Z ⟨Z, Z⟩)) (Qh (Q1 Z Z (Zn (aj.f1) A3.h Z Z Z ⟨Z, Z⟩)) (Qh (Q1 Z Z (Zm (v := d) Z Z ⟨Z, Z⟩)) (Qh (Q1 Z Z (Zp F100_2.h Z Z Z ⟨Z, Z⟩)) (Qh (Q1 Z Z (Zn (aj.f1) A3.h Z Z Z ⟨Z, Z⟩)) (Qh (Q1 Z Z (Qa S101.h Z ac Z (Qb t).1 (Qb t).2.1 ⟨Z, Z⟩)) (Qh (Q1 Z Z (Qf (F := encRaw) ((aj.f4).f4) ac A55.h Z Z Z t (Sub.refl _) (fun _ q => ⟨Z, (K5.1 q).1⟩))) J5)))))))), ?_⟩
  have b8 := (((aj.f4).f4).f1).rows_split aC (Qb aV).2.2
  obtain ⟨dN, cg, u⟩ := V u
  refine G ?_
  refine Q5 (E := encEdge) (ys := [i]) (b8.f3).f1 S55.h QeW Z (by decide) Z Z Z Z ⟨[O (i.From), O (i.Label), O (i.To)], [], Z, ⟨[O (i.From)], [O (i.Label), O (i.To)], Z, Z, ⟨[O (i.Label)], [O (i.To)], Z, Z, Z⟩⟩, Z⟩ Z cg ?_
  intro ey eD b9
  refine ⟨agq, ?_⟩
  refine G ?_
  refine Qa S101.h Z ac Z (Qb t).1 (Qb t).2.1 ?_
  obtain ⟨dO, ch, u⟩ := V u
  refine G ?_
  refine Qbw ((b9.f2).f2).f2 aC ac A55.h Z Z Z Z ch ?_
  intro dJ eE d3
  cases u
  refine G ?_
  exact fq
 intro cZ eF bv
 obtain ⟨cy, b, bX, bA, ⟨da, rfl⟩⟩ := bv
 obtain ⟨dP, ci, hm⟩ := V hm
 refine G ?_
 refine JJ (E := (U .i64)) bA S22.h Z3 Z Z Z Z ci ?_
 intro n eG bB
 refine G ?_
 refine Exec.buildSlice (Te := 107) (cs := []) bB Z Qi (fun _ => by kernel_rfl) ?_
 intro cJ eH d4
 refine G ?_
 refine Kq Z Z ?_
 intro m eI bC
 have bD := St.boxArr (E := encpdb_item) (xs := []) bC.f1 rfl (by simp [maxLen])
 obtain ⟨c3, br, hm⟩ := V hm
 refine G ?_
 refine QO (fun k' s' f' w' => (QI fun (ax : (List Int)) (ay : (List pdb_item)) => ∃ (ba : PHeap) (ao : Value), PHeap.le cy ba ∧ St w0 ba (Res.arr encRaw 55 d b :: Res.rows encEdge 100 b y :: Res.arr (U .i64) 3 n ax :: Res.box m 104 [ao] :: Res.arr encpdb_item 107 ao ay :: H) w' ∧ Fx f' [(48, O (k' : Int)), (1, z), (5, d), (8, n), (9, Vq m), (46, af), (47, O ((p.Goals.length : Int)))]) s') br ?_ ?_ ?_
 ·have d5 := (bD.f3).drop
  exact fq
 ·intro aw c4 el db eJ dG bw j
  obtain ⟨ax, ay⟩ := c4
  replace j := Q7 j
  obtain ⟨cz, ao, dQ, au, ⟨dc, rfl⟩⟩ := bw
  obtain ⟨fc, cj, j⟩ := V j
  refine G ?_
  refine Jk Z Z Z cj ?_
  intro cK ef bo
  refine G ?_
  refine Zw (E := encBool) au A4.h Z Z Z bo ?_
  intro ez ck
  obtain rfl := Jc.1 ck
  obtain ⟨fd, a2, j⟩ := V j
  obtain ⟨dt, cO, aD⟩ := (au.f2).arr_at a2
  refine G ?_
  refine Qa S22.h Z aD Z (Qb a2).1 (Qb a2).2.1 ?_
  obtain ⟨dR, cl, j⟩ := V j
  refine G ?_
  refine Qx au.f2 aD A3.h Z Z Z Z (Qg.2 Z) cl ?_
  intro eK aM
  obtain ⟨bh, o, j⟩ := V j
  refine g ?_
  refine Zc (Zd (g ?_))
  refine Qp (M := fun f' w' => (QI fun (aO : (List Int)) (aP : (List pdb_item)) => ∃ (bb : PHeap) (a6 : Value), PHeap.le cz bb ∧ St w0 bb (Res.arr encRaw 55 d b :: Res.rows encEdge 100 b y :: Res.arr (U .i64) 3 n aO :: Res.box m 104 [a6] :: Res.arr encpdb_item 107 a6 aP :: H) w' ∧ Fx f' [(1, z), (5, d), (8, n), (9, Vq m), (46, af), (47, O ((p.Goals.length : Int))), (48, O ((aw : Int)))]) bh) ?_ ?_
  ·rcases Qs o with ⟨bP, o⟩ | ⟨bP, o⟩
   ·obtain ⟨fe, a3, o⟩ := V o
    obtain ⟨du, cP, aE⟩ := aM.arr_at a3
    refine G ?_
    refine Qa S22.h Z aE Z (Qb a3).1 (Qb a3).2.1 ?_
    obtain ⟨dS, cm, o⟩ := V o
    refine G ?_
    refine Qx aM aE A3.h Z Z Z Z (Qg.2 Z) cm ?_
    intro eL bE
    refine G ?_
    refine Exec.makeInterface QpG Z Z (G ?_)
    refine Exec.build Z (Qc (c := [O 0]) (Qe Z Z) (Qc (c := [O ((aw : Int))]) (Qe Z Z) Qi)) (v := Value.agg #[O 0, O ((aw : Int))]) (fun _ => by kernel_rfl) (G ?_)
    refine Exec.makeInterface QmZ Z Z ?_
    obtain ⟨dT, cn, o⟩ := V o
    refine G ?_
    refine Tc Z Z Z (Zi Z (Zi Z Qw)) (QcM cn (bE.f4).f4).r ?_
    rintro _ eM ⟨em, e0, dU, d6, rfl⟩
    cases o
    refine G ?_
    exact fq
   cases o
   refine G ?_
   exact fq
  intro dd eN b2
  obtain ⟨aO, aP⟩ := bh
  replace j := Q7 j
  obtain ⟨en, a6, dV, d7, ⟨de, rfl⟩⟩ := b2
  cases j
  refine G ?_
  exact fq
 intro df eO bx
 obtain ⟨ax, ay⟩ := c3
 replace hm := Q7 hm
 obtain ⟨bc, ao, bY, bF, ⟨dg, rfl⟩⟩ := bx
 obtain ⟨aA, bs, dH, bU, bO⟩ := Qr hm
 refine Zc (Zd (g ?_))
 refine Zc (YW (Zx (decide_eq_false (by omega))) (Qjp (QcY (QcY (Qf0 (Ze (Zc (Qp (M := fun f' w' => ∃ s', (aA = .next s' ∨ aA = .brk s') ∧ (QI fun (aQ : (List Int)) (aR : (List pdb_item)) => ∃ (bd : PHeap) (a7 : Value), PHeap.le bc bd ∧ St w0 bd (Res.arr encRaw 55 d b :: Res.rows encEdge 100 b y :: Res.arr (U .i64) 3 n aQ :: Res.box m 104 [a7] :: Res.arr encpdb_item 107 a7 aR :: H) w' ∧ Fx f' [(1, z), (5, d), (8, n), (9, Vq m)]) s') ?_ ?_))))))))
 ·refine G ?_
  refine KA (fun s' f' w' => (QI fun (aS : (List Int)) (az : (List pdb_item)) => ∃ (be : PHeap) (a8 : Value), PHeap.le bc be ∧ St w0 be (Res.arr encRaw 55 d b :: Res.rows encEdge 100 b y :: Res.arr (U .i64) 3 n aS :: Res.box m 104 [a8] :: Res.arr encpdb_item 107 a8 az :: H) w' ∧ Fx f' [(1, z), (5, d), (8, n), (9, Vq m)]) s') bs ?_ ?_
  ·have d8 := bF.f4
   exact fq
  intro c5 cQ dh eP bz a bV
  obtain ⟨aS, az⟩ := c5
  replace a := Q7 a
  obtain ⟨eo, a8, bZ, bG, ⟨di, rfl⟩⟩ := bz
  refine G ?_
  refine Tc Z Z Z Z (Qa1 (Yr az) bG.f4).r ?_
  rintro _ eQ ⟨ep, ca, bH, rfl⟩
  refine G ?_
  rcases Qs a with ⟨bQ, a⟩ | ⟨bQ, a⟩
  ·refine G ?_
   refine Exec.makeInterface QpG Z Z ?_
   obtain ⟨c6, co, a⟩ := V a
   obtain ⟨ad, dW⟩ := c6
   replace a := Q7 a
   refine G ?_
   refine Tc Z Z Z Z (QfT co bH.f4).r ?_
   rintro _ eR ⟨c0, e1, cb, bI, rfl⟩
   refine G ?_
   refine QcJ QmZ Z Z (G ?_)
   refine Exec.alloc (cs := [O 0, O 0]) bI Qoz Z Z ?_
   intro ag eS d9
   refine G ?_
   refine KJ Z Z Z ?_
   intro eT bJ
   refine G ?_
   refine JE (n0 := 8) (qs 0 8 .done) JM (by kernel_rfl) (by kernel_rfl) ?_
   have aa := bJ.drew
   obtain ⟨ff, ak, a⟩ := V a
   obtain ⟨dv, cR, aF⟩ := (aa.f5).arr_at ak
   refine G ?_
   refine Qa S22.h Z aF Z (Qb ak).1 (Qb ak).2.1 ⟨Z, ?_⟩
   refine G ?_
   refine Qf (F := (U .i64)) (aa.f5) aF A3.h Z Z Z ak (Sub.refl _) ?_
   intro e2 cp
   obtain rfl := Qg.1 cp
   refine ⟨Z, ?_⟩
   refine G ?_
   rcases Qs a with ⟨bR, a⟩ | ⟨bR, a⟩
   ·cases a
    refine G ?_
    exact ⟨_, Z, fq⟩
   obtain ⟨aY, al, a⟩ := V a
   obtain ⟨aK, ah, ar, _⟩ := (((aa.f4).f4).f1).rows_at al
   obtain ⟨dw, cS, aG⟩ := ((aa.f4).f4).arr_at ah
   refine G ?_
   refine Qa S101.h Z aG Z (Qb ah).1 (Qb ah).2.1 (G ?_)
   refine Qf (F := encRaw) ((aa.f4).f4) aG A55.h Z Z Z ah (Sub.refl _) ?_
   intro cB aX
   replace aX := (K5.1 aX).1
   subst cB
   refine G ?_
   refine Q0 ((((aa.f4).f4).f1).rows_split ar (Qb al).2.2) S55.h Z Z ?_
   obtain ⟨ew, cq, a⟩ := V a
   obtain ⟨c7, bt, a⟩ := V a
   refine G ?_
   refine QO (fun k' s' f' w' => (QI fun (a0 : (List Int)) (a1 : (List pdb_item)) => ∃ (bf : PHeap) (ap : Value), PHeap.le c0 bf ∧ St w0 bf (Res.arr encRaw 55 d b :: Res.rows encEdge 100 b y :: Res.arr (U .i64) 3 n a0 :: Res.box m 104 [ap] :: Res.box ag 107 [O (ad.dist), O (ad.state)] :: Res.arr encpdb_item 107 ap a1 :: H) w' ∧ Fx f' [(93, O (k' : Int)), (1, z), (5, d), (8, n), (9, Vq m), (12, Vq ag), (91, aK), (92, O ((aY.length : Int)))]) s') bt ?_ ?_ ?_
   ·have dA := aa.f2
    exact fq
   ·intro bW c8 er dj eU bT b0 l
    obtain ⟨a0, a1⟩ := c8
    replace l := Q7 l
    obtain ⟨c1, ap, cc, av, ⟨dk, rfl⟩⟩ := b0
    obtain ⟨bk, am, l⟩ := V l
    obtain ⟨dx, cT, aH⟩ := ((av.f1).rows_split ar (Qb al).2.2).arr_at am
    refine G ?_
    refine Qa S55.h Z aH Z (Qb am).1 (Qb am).2.1 (G ?_)
    refine Qf (F := encEdge) ((av.f1).rows_split ar (Qb al).2.2) aH A100.h Z Z Z am (Sub.refl _) ?_
    intro e3 cr
    obtain rfl := Jz.1 cr
    refine G ?_
    refine Exec.alloc (cs := [O 0, O 0, O 0]) av QeW Z Z ?_
    intro cL eV dB
    refine G ?_
    refine KJ Z Z Z ?_
    intro eW bK
    refine G ?_
    refine JE (n0 := 8) (qs 0 8 .done) JM (by kernel_rfl) (by kernel_rfl) ?_
    have ae := bK.drew
    obtain ⟨bl, ct, l⟩ := V l
    refine G ?_
    refine Qy S22.h Z Z Z (bm.mono (Zt (Zt (Zt (Zt (Zt bX bY) bZ) ca) cb) cc)) ct ?_
    intro cM eg bp cW
    refine ⟨Z, ?_⟩
    refine G ?_
    refine Zw (E := (U .i64)) ae A3.h Z Z Z bp ?_
    intro e4 cu
    obtain rfl := Qg.1 cu
    refine ⟨Z, ?_⟩
    obtain ⟨fg, ab, l⟩ := V l
    obtain ⟨dy, cU, aI⟩ := (ae.f3).arr_at ab
    refine G ?_
    refine Qa S22.h Z aI Z (Qb ab).1 (Qb ab).2.1 (G ?_)
    refine Qf (F := (U .i64)) (ae.f3) aI A3.h Z Z Z ab (Sub.refl _) ?_
    intro e5 cv
    obtain rfl := Qg.1 cv
    obtain ⟨bi, x, l⟩ := V l
    refine g ?_
    refine Qp (M := fun f' w' => (QI fun (aT : (List Int)) (aU : (List pdb_item)) => ∃ (bg : PHeap) (aq : Value), PHeap.le c1 bg ∧ St w0 bg (Res.arr encRaw 55 d b :: Res.rows encEdge 100 b y :: Res.arr (U .i64) 3 n aT :: Res.box m 104 [aq] :: Res.box ag 107 [O (ad.dist), O (ad.state)] :: Res.arr encpdb_item 107 aq aU :: H) w' ∧ Fx f' [(1, z), (5, d), (8, n), (9, Vq m), (12, Vq ag), (91, aK), (92, O ((aY.length : Int))), (93, O ((bW : Int)))]) bi) ?_ ?_
    ·rcases Qs x with ⟨bS, x⟩ | ⟨bS, x⟩
     ·obtain ⟨dz, cV, aJ⟩ := (ae.f3).arr_at ab
      refine G ?_
      refine Qa S22.h Z aJ Z (Qb ab).1 (Qb ab).2.1 ?_
      obtain ⟨dX, cw, x⟩ := V x
      refine G ?_
      refine Qx ae.f3 aJ A3.h Z Z Z Z (Qg.2 Z) cw ?_
      intro eX bL
      refine G ?_
      refine Exec.makeInterface QpG Z Z (G ?_)
      refine Exec.build Z (Qc (c := [O (IntKind.i64.wrap (ad.dist + bl))]) (Qe Z Z) (Qc (c := [O (bk.From)]) (Qe Z Z) Qi)) (v := Value.agg #[O (IntKind.i64.wrap (ad.dist + bl)), O (bk.From)]) (fun _ => by kernel_rfl) (G ?_)
      refine Exec.makeInterface QmZ Z Z ?_
      obtain ⟨dY, cx, x⟩ := V x
      refine G ?_
      refine Tc Z Z Z (Zi Z (Zi Z Qw)) (QcM cx (bL.f6).f5).r ?_
      rintro _ eY ⟨es, e6, dZ, dC, rfl⟩
      cases x
      refine G ?_
      exact fq
     cases x
     refine G ?_
     exact fq
    intro dl eZ b3
    obtain ⟨aT, aU⟩ := bi
    replace l := Q7 l
    obtain ⟨c2, aq, ea, bM, ⟨dm, rfl⟩⟩ := b3
    cases l
    refine G ?_
    exact ⟨c2, aq, lq, (((((bM.f5).f5).f5).f5).f5).f5, (Fx.mk (FxL.cons (QM bT (by have h := Ql cq; simpa [maxLen] using h)) fxl))⟩
   intro dn fa b1
   obtain ⟨a0, a1⟩ := c7
   replace a := Q7 a
   obtain ⟨et, ap, eb, dD, ⟨dp, rfl⟩⟩ := b1
   cases a
   refine G ?_
   exact ⟨_, Z, fq⟩
  cases a
  refine G ?_
  exact ⟨_, .inr (bV (by intro _ h; cases h)), fq⟩
 rintro dq fb ⟨c9, aN, b4⟩
 have hm := aN.elim (bU _) (bO _)
 clear aN
 obtain ⟨aQ, aR⟩ := c9
 replace hm := Q7 hm
 obtain ⟨eu, a7, ec, bN, ⟨dr, rfl⟩⟩ := b4
 cases hm
 refine G ?_
 refine ⟨_, KR Z, ?_⟩
 obtain ⟨ev, ed, dE, eh⟩ := bN.f2.freezeArr
 exact fq
theorem Qdi {w0 w : World} {s : PHeap} {H : List Res} {l : Task} {ap : (List Int)} {m : (List Int)} {t : Value} {u : Value} {x : Value} {y : Value} {z : Value} {ag : Value} {r : (Option pdb_Database) × (Option Int)} (hm : Qac l ap m = some r) (hS : St w0 s (H) w) (a4 : SliceRep (U .i64) s t l.Vars) (a5 : SliceRep (U .i64) s u l.Init) (a6 : SliceRep encFact s x l.Goal) (a7 : SliceRep encOp s y l.Ops) (aY : SliceRep (U .i64) s z ap) (aZ : SliceRep (U .i64) s ag m) :
  Calls Tryz.prog 6 #[Value.agg #[t, u, x, y], z, ag] w fun e w' => ∃ v, e = .returned v ∧ ((QI fun (ao : (Option pdb_Database)) (a3 : (Option Int)) => (∃ b : pdb_Database, ao = some b ∧ ∃ (k : PHeap) (ax : Value) (ay : Value) (az : Value) (a0 : Value) (ai : Nat) (a1 : Value) (a2 : Value), PHeap.le s k ∧ St w0 k (Res.box ai 64 [a1, a2, O (b.system.States), O (b.system.Init), ax, ay, az, a0] :: Res.arr (U .i64) 3 a1 b.vars :: Res.arr (U .i64) 3 a2 b.pattern :: H) w' ∧ v = Value.tuple #[Value.pointer (some ⟨ai, 0, none⟩), K4 52 (a3)] ∧ SliceRep (U .i64) k ax b.system.Costs ∧ SliceRep encEdge k ay b.system.Edges ∧ SliceRep encBool k az b.system.Goals ∧ SliceRep (U .i64) k a0 b.table) ∨ (ao = none ∧ ∃ (ar : PHeap) , PHeap.le s ar ∧ St w0 ar (H) w' ∧ v = Value.tuple #[Value.pointer none, K4 52 (a3)])) r) := by
 unfold Qac at hm
 refine Qd Tryz.func6 Z Z (G ?_)
 refine Kq Z Z ?_
 intro o bs aB
 obtain ⟨b5, aO, hm⟩ := V hm
 refine G ?_
 refine Tc Z Z Z Z (Qae aO aB a4 a5 a6 a7).r ?_
 rintro _ bt ⟨au, aN, aC, rfl⟩
 refine G ?_
 refine Qv (T := 52) Tryz.underlying39 Z Z Z (G ?_)
 rcases Qs hm with ⟨am, hm⟩ | ⟨am, hm⟩
 ·cases hm
  refine G ?_
  refine ⟨_, QaL Z, ?_⟩
  refine (Or.inr ⟨Z, ?_⟩); exact ⟨au, aN, aC.drop, (QeF Z Z)⟩
 refine W_c Z am (Qa4 (Jt (Ze (Zc (Zc (Qp (M := fun f' w' => ∃ (av : PHeap) , PHeap.le au av ∧ St w0 av (Res.box o 26 [t, u, x, y] :: H) w' ∧ Fx f' [(1, z), (2, ag), (3, Vq o), (26, Vb (((decide (0 < (m.length : Int))) && !decide ((m.length : Int) = (l.Ops.length : Int)))))]) ?_ ?_))))))
 ·refine G ?_
  rcases tf (decide (0 < (m.length : Int))) with aI | aI
  ·refine G ?_
   exact fq
  refine G ?_
  exact fq
 intro ba bu a9
 obtain ⟨aU, bf, ak, ⟨bb, rfl⟩⟩ := a9
 refine G ?_
 rcases Qs hm with ⟨aJ, hm⟩ | ⟨aJ, hm⟩
 ·refine G ?_
  refine Exec.makeInterface C52 Z Z ?_
  cases hm
  refine G ?_
  refine ⟨_, QaL Z, ?_⟩
  refine (Or.inr ⟨Z, ?_⟩); exact ⟨aU, lq, ak.drop, (QeF Z Z)⟩
 obtain ⟨b6, aP, hm⟩ := V hm
 refine G ?_
 refine Tc Z Z Z Z (Qap aP ak rq).r ?_
 rintro _ bv ⟨aV, bg, al, rfl⟩
 refine G ?_
 rcases Qs hm with ⟨aK, hm⟩ | ⟨aK, hm⟩
 ·refine G ?_
  refine Exec.makeInterface C52 Z Z ?_
  cases hm
  refine G ?_
  refine ⟨_, QaL Z, ?_⟩
  refine (Or.inr ⟨Z, ?_⟩); exact ⟨aV, lq, al.drop, (QeF Z Z)⟩
 obtain ⟨aX, aQ, hm⟩ := V hm
 obtain ⟨b7, a⟩ := aX
 replace hm := Q7 hm
 refine G ?_
 refine Tc Z Z Z Z (Qa0 aQ al rq rq rq rq rq).r ?_
 rintro _ bw ⟨aw, d, i, j, bh, aD, rfl, bm, bn, bo⟩
 refine G ?_
 refine Exec.alloc (cs := [O 0, O 0, Vn, Vn, Vn]) aD Z58 Z Z ?_
 intro aj bx be
 refine G ?_
 refine KJ Z Z Z ?_
 intro bz aE
 refine G ?_
 refine Qv (T := 52) Tryz.underlying39 Z Z Z (G ?_)
 rcases Qs hm with ⟨an, hm⟩ | ⟨an, hm⟩
 ·cases hm
  refine G ?_
  refine ⟨_, QaL Z, ?_⟩
  refine (Or.inr ⟨Z, ?_⟩); exact ⟨aw, lq, (aE.drop).drop, (QeF Z Z)⟩
 obtain ⟨ad, n, hm⟩ := V hm
 refine W_c Z an (Qa4 (Jt (Ze (Zc (Zc (Zd (g ?_)))))))
 refine Qp (M := fun f' w' => (fun (ad : (List Int)) => ∃ (af : PHeap) (ah : Value), PHeap.le aw af ∧ St w0 af (Res.box o 26 [t, u, x, y] :: Res.box aj 58 [O (a.States), O (a.Init), d, i, j] :: H) w' ∧ Fx f' [(1, z), (2, ah), (3, Vq o), (9, Vq aj)] ∧ SliceRep (U .i64) af ah ad) ad) ?_ ?_
 ·rcases Qs n with ⟨aL, n⟩ | ⟨aL, n⟩
  ·cases n
   refine G ?_
   exact fq
  cases n
  refine G ?_
  exact fq
 intro bc b0 aA
 obtain ⟨bp, ah, bi, p, ⟨bd, rfl⟩, aM⟩ := aA
 refine G ?_
 refine JE (n0 := 11) (.q 0 (.q 1 (.q 3 (qs 5 3 (.e 2 [3, 5, 6, 7] (.e 4 [5, 6, 7] (.e 8 [5] (.q 9 (.e 10 [] .done))))))))) JM (by kernel_rfl) (by kernel_rfl) (G ?_)
 refine Zn (p.drew) A22.h Z Z Z ⟨Z, ?_⟩
 refine G ?_
 refine QK (ds := [O (a.States), O (a.Init), d, i, j]) ((p.drew).f1) A58.h Z Z Z ⟨Z, ?_⟩
 refine G ?_
 refine QK (ds := [O (a.States), O (a.Init), d, i, j]) ((p.drew).f1) A58.h Z Z Z ⟨Z, ?_⟩
 obtain ⟨b8, aR, hm⟩ := V hm
 refine G ?_
 refine Tc Z Z Z Z (Q8 aR p.drew rq).r ?_
 rintro aa b1 ⟨bq, _, bj, aF, rfl⟩
 refine ⟨agq, ?_⟩
 obtain ⟨b9, aS, hm⟩ := V hm
 refine G ?_
 refine Tc Z Z Z Z (Q8 aS aF rq).r ?_
 rintro ab b2 ⟨br, _, bk, aG, rfl⟩
 refine ⟨agq, ?_⟩
 obtain ⟨bA, aT, hm⟩ := V hm
 refine G ?_
 refine Tc Z Z Z Z (QfR aT aG rq rq rq (aM.mono lq)).r ?_
 rintro ac b3 ⟨aW, _, bl, ae, rfl, aq⟩
 refine ⟨agq, ?_⟩
 refine G ?_
 refine Exec.build Z (Qc (c := [aa]) (Qe Z (Qz (ae.f1).arr_one)) (Qc (c := [ab]) (Qe Z (Qz ae.arr_one)) (Qc (c := [O (a.States), O (a.Init), d, i, j]) (Qe Z Z) (Qc (c := [ac]) (Qe Z (Qz aq.one)) Qi)))) (v := Value.agg #[aa, ab, O (a.States), O (a.Init), d, i, j, ac]) (fun _ => by kernel_rfl) ⟨Z, ?_⟩
 refine G ?_
 refine Exec.box (cs := [aa, ab, O (a.States), O (a.Init), d, i, j, ac]) ae Z Z Z ?_
 intro a8 b4 aH
 refine ⟨agq, ?_⟩
 cases hm
 refine G ?_
 refine ⟨_, QaL Z, ?_⟩
 refine (Or.inl ⟨_, Z, ?_⟩); exact ⟨aW, d, i, j, ac, a8, aa, ab, lq, ((((((aH.f3).drop).f3).drop).f1).f2).f2, (QeF Z Z), rq, rq, rq, aq⟩
instance F64_3 : FTy Tryz.prog 64 3 7 := ⟨by kernel_rfl⟩
theorem QdP {w0 w : World} {s : PHeap} {H : List Res} {a : pdb_Database} {d : Nat} {b : Value} {c : Value} {g : Value} {h : Value} {i : Value} {j : Value} {r : (List Int)} (hm : Kw a = some r) (hS : St w0 s (Res.box d 64 [b, c, O (a.system.States), O (a.system.Init), g, h, i, j] :: Res.arr (U .i64) 3 b a.vars :: Res.arr (U .i64) 3 c a.pattern :: H) w) (p : SliceRep (U .i64) s g a.system.Costs) (q : SliceRep encEdge s h a.system.Edges) (t : SliceRep encBool s i a.system.Goals) (l : SliceRep (U .i64) s j a.table) :
  Calls Tryz.prog 34 #[Value.pointer (some ⟨d, 0, none⟩)] w fun e w' => ∃ v, e = .returned v ∧ ((fun (o : (List Int)) => ∃ (f : PHeap) (k : Value), PHeap.le s f ∧ St w0 f (Res.box d 64 [b, c, O (a.system.States), O (a.system.Init), g, h, i, j] :: Res.arr (U .i64) 3 b a.vars :: Res.arr (U .i64) 3 c a.pattern :: H) w' ∧ v = k ∧ SliceRep (U .i64) f k o) r) := by
 unfold Kw at hm
 refine Qd Tryz.func34 Z Z (G ?_)
 refine YX Tryz.underlying37 Z Z Z ?_
 obtain ⟨ae, n, hm⟩ := V hm
 refine G ?_
 refine Tc Z Z Z Z (Q8 n hS l).r ?_
 rintro ac ad ⟨aa, _, x, m, rfl⟩
 cases hm
 refine G ?_
 refine ⟨_, KR Z, ?_⟩
 obtain ⟨ab, y, u, z⟩ := m.freezeArr
 exact fq
theorem Qi4 {w0 w : World} {s : PHeap} {H : List Res} {b : (List Int)} {m : (List Int)} {i : Value} {j : Value} {r : Bool} (hm : Qda b m = some r) (hS : St w0 s (H) w) (l : SliceRep (U .i64) s i b) (y : SliceRep (U .i64) s j m) :
  Calls Tryz.prog 33 #[i, j] w fun e w' => ∃ v, e = .returned v ∧ ((fun (au : Bool) => ∃ (q : PHeap) , PHeap.le s q ∧ St w0 q (H) w' ∧ v = Value.bool (au)) r) := by
 unfold Qda at hm
 refine Qd Tryz.func33 Z Z (G ?_)
 rcases Qs hm with ⟨o, hm⟩ | ⟨o, hm⟩
 ·cases hm
  refine G ?_
  exact fr
 obtain ⟨n, ac, al, aj, ag⟩ := Qr hm
 refine W_c Z o (Qa4 (Jt (Ze (Zc (Zc (Zd (g ?_)))))))
 refine Qp (M := fun f' w' => ∃ s', (n = .next s' ∨ n = .brk s') ∧ (fun (_ : Unit) => ∃ (t : PHeap) , PHeap.le s t ∧ St w0 t (H) w' ∧ Fx f' [(0, i), (1, j), (12, O ((b.length : Int)))]) s') ?_ ?_
 ·refine G ?_
  refine QF (fun k' s' f' w' => (fun (_ : Unit) => ∃ (u : PHeap) , PHeap.le s u ∧ St w0 u (H) w' ∧ Fx f' [(13, O (k' : Int)), (0, i), (1, j), (12, O ((b.length : Int)))]) s') ac ?_ ?_ ?_
  ·exact fq
  ·intro a8 aF ab a0 aK ai ad a am
   obtain ⟨x, d, c, ⟨a1, rfl⟩⟩ := ad
   refine G ?_
   refine JE (n0 := 9) (qs 0 9 .done) JM (by kernel_rfl) (by kernel_rfl) ?_
   obtain ⟨aN, ao, a⟩ := V a
   refine G ?_
   refine Qy S22.h Z Z Z (l.mono d) ao ?_
   intro av aB z ax
   refine ⟨Z, ?_⟩
   refine G ?_
   refine Zw (E := (U .i64)) c.drew A3.h Z Z Z z ?_
   intro aI ap
   obtain rfl := Qg.1 ap
   refine ⟨Z, ?_⟩
   obtain ⟨aO, aq, a⟩ := V a
   refine G ?_
   refine Qy S22.h Z Z Z (y.mono d) aq ?_
   intro aw aC aa ay
   refine ⟨Z, ?_⟩
   refine G ?_
   refine Zw (E := (U .i64)) c.drew A3.h Z Z Z aa ?_
   intro aJ ar
   obtain rfl := Qg.1 ar
   refine ⟨Z, ?_⟩
   refine G ?_
   rcases Qs a with ⟨ah, a⟩ | ⟨ah, a⟩
   ·cases a
    have ak := al _ (am (by intro _ h; cases h))
    cases ak
    refine G ?_
    refine ⟨_, KR Z, ?_⟩
    exact ⟨x, d, c.drew, Z⟩
   have az := Zu a
   subst ab
   refine G ?_
   refine ⟨_, Z, ?_⟩; exact ⟨x, d, c.drew, (Fx.mk (FxL.cons (QM ai (SliceRep.le l)) fxl))⟩
  intro aG a2 aL ae an
  obtain ⟨aD, a9, a6, ⟨a3, rfl⟩⟩ := ae
  refine G ?_
  exact ⟨_, .inl an, fq⟩
 rintro a4 aM ⟨aH, p, af⟩
 have hm := p.elim (aj _) (ag _)
 clear p
 obtain ⟨aE, aA, a7, ⟨a5, rfl⟩⟩ := af
 cases hm
 refine G ?_
 exact fr
theorem QpA : Ji Tryz.prog 125 = some (Value.agg #[O 0, Value.slice none 0 0]) := by kernel_rfl
theorem QeN {w0 w : World} {s : PHeap} {H : List Res} {a : Int} {r : Bool} (hm : Yi a = some r) (hS : St w0 s (H) w) :
  Calls Tryz.prog 88 #[O a] w fun e w' => ∃ v, e = .returned v ∧ ((fun (i : Bool) => ∃ (b : PHeap) , PHeap.le s b ∧ St w0 b (H) w' ∧ v = Value.bool (i)) r) := by
 unfold Yi at hm
 refine Qd Tryz.func88 Z Z (Zc (Zd (g ?_)))
 refine Zc (Qp (M := fun f' w' => ∃ (c : PHeap) , PHeap.le s c ∧ St w0 c (H) w' ∧ Fx f' [(2, Vb (((decide ((-1) ≤ a)) && decide (a ≤ 1099511627776))))]) ?_ ?_)
 ·refine G ?_
  rcases tf (decide ((-1) ≤ a)) with h | h
  ·refine G ?_
   exact fq
  refine G ?_
  exact fq
 intro j o d
 obtain ⟨n, m, l, ⟨k, rfl⟩⟩ := d
 cases hm
 refine G ?_
 exact fr
instance A125 : ATy Tryz.prog 125 true 2 := ⟨by kernel_rfl⟩
theorem Qi6 {w0 w : World} {s : PHeap} {H : List Res} {b : (List Fact)} {g : Value} {r : (List Fact)} (hm : Qdb b = some r) (hS : St w0 s (H) w) (d : SliceRep encFact s g b) :
  Calls Tryz.prog 89 #[g] w fun e w' => ∃ v, e = .returned v ∧ ((fun (t : (List Fact)) => ∃ (c : PHeap) (i : Value), PHeap.le s c ∧ St w0 c (H) w' ∧ v = i ∧ SliceRep encFact c i t) r) := by
 unfold Qdb at hm
 refine Qd Tryz.func89 Z Z ?_
 obtain ⟨j, aa, x, k, o⟩ := d.nilShape
 refine G ?_
 refine QaR Tryz.underlying23 Z k Z (G ?_)
 rcases tf (j.isNone) with a | a
 ·have p := o a
  replace hm := (show (some []) = ((app 16 [] b).bind fun f => some f) from by simp [p, app]).trans hm
  refine QcA ((Zx a)) ?_
  cases hm
  refine G ?_
  exact fr
 refine YW ((Zx a)) (G ?_)
 refine Exec.buildSlice (Te := 36) (cs := []) hS Z Qi (fun _ => by kernel_rfl) ?_
 intro u ae l
 refine G ?_
 have m := St.boxArr (E := encFact) (xs := []) l rfl (by simp [maxLen])
 obtain ⟨f, q, hm⟩ := V hm
 refine G ?_
 refine QaI (E := encFact) (ys := b) m S23.h Z36 Z (by decide) Z Z Z d q ?_
 intro ad af n
 cases hm
 refine G ?_
 refine ⟨_, KR Z, ?_⟩
 obtain ⟨ac, z, y, ab⟩ := n.freezeArr
 exact fq
instance A162 : ATy Tryz.prog 162 false 1 := ⟨by kernel_rfl⟩
instance S162 : STy Tryz.prog 162 160 3 40 := ⟨by kernel_rfl⟩
theorem N90 : (Tryz.f90.name == "runtime.NumGoroutine") = false := by kernel_rfl
theorem Qay {w0 w : World} {s : PHeap} {H : List Res} {a : (List certify_entry)} {b : Value} {r : Int} (hm : JZ a = some r) (hS : St w0 s (Res.arr enccertify_entry 160 b a :: H) w) :
  Calls Tryz.prog 90 #[b] w fun e w' => ∃ v, e = .returned v ∧ ((fun (d : Int) => ∃ (c : PHeap) , PHeap.le s c ∧ St w0 c (Res.arr enccertify_entry 160 b a :: H) w' ∧ v = O d) r) := by
 unfold JZ at hm
 refine Qd Tryz.func90 Z Z (G ?_)
 refine Q0 (hS) S162.h Z Z ?_
 cases hm
 refine G ?_
 exact fr
theorem Qra : Tryz.prog.concrete 157 = true := by kernel_rfl
theorem QmJ : Yt Tryz.prog 157 "Len" = some (90, false) := by kernel_rfl
instance A160 : ATy Tryz.prog 160 true 3 := ⟨by kernel_rfl⟩
theorem QqU : (Tryz.f272.name == "runtime.NumGoroutine") = false := by kernel_rfl
theorem QcR {w0 w : World} {s : PHeap} {H : List Res} {n : (List certify_entry)} {l : Int} {m : Int} {d : Value} {r : (List certify_entry)} (hm : Ku n l m = some r) (hS : St w0 s (Res.arr enccertify_entry 160 d n :: H) w) :
  Calls Tryz.prog 272 #[d, O l, O m] w fun e w' => ∃ v, e = .returned v ∧ ((fun (p : (List certify_entry)) => ∃ (o : PHeap) , PHeap.le s o ∧ St w0 o (Res.arr enccertify_entry 160 d p :: H) w' ∧ v = Value.tuple #[]) r) := by
 unfold Ku at hm
 refine Qd Tryz.func272 Z Z (JE (n0 := 14) (qs 0 13 (.e 13 [2, 3] .done)) JM (by kernel_rfl) (by kernel_rfl) ?_)
 obtain ⟨ar, b, hm⟩ := V hm
 obtain ⟨ae, aa, f⟩ := (hS.drew).arr_at b
 refine G ?_
 refine Qa S162.h Z f Z (Qb b).1 (Qb b).2.1 ⟨Z, ?_⟩
 refine G ?_
 refine Qf (F := enccertify_entry) (hS.drew) f A160.h Z Z Z b (Sub.refl _) ?_
 intro an q
 obtain ⟨al, rfl, y⟩ := Kx.1 q
 refine ⟨Z, ?_⟩
 obtain ⟨au, a, hm⟩ := V hm
 obtain ⟨af, ab, g⟩ := (hS.drew).arr_at a
 refine G ?_
 refine Qa S162.h Z g Z (Qb a).1 (Qb a).2.1 ⟨Z, ?_⟩
 refine G ?_
 refine Qf (F := enccertify_entry) (hS.drew) g A160.h Z Z Z a (Sub.refl _) ?_
 intro ao t
 obtain ⟨am, rfl, z⟩ := Kx.1 t
 refine ⟨Z, ?_⟩
 obtain ⟨ag, ac, i⟩ := (hS.drew).arr_at a
 refine G ?_
 refine Qa S162.h Z i Z (Qb a).1 (Qb a).2.1 ⟨Z, ?_⟩
 obtain ⟨aj, u, hm⟩ := V hm
 refine G ?_
 refine Qx hS.drew i A160.h Z Z Z Z (Kx.2 ⟨_, Z, y⟩) u ?_
 intro ap k
 refine ⟨agq, ?_⟩
 obtain ⟨av, c, hm⟩ := V hm
 obtain ⟨ah, ad, j⟩ := k.arr_at c
 refine G ?_
 refine Qa S162.h Z j Z (Qb c).1 (Qb c).2.1 ?_
 obtain ⟨ak, x, hm⟩ := V hm
 refine G ?_
 refine Qx k j A160.h Z Z Z Z (Kx.2 ⟨_, Z, z⟩) x ?_
 intro aq ai
 cases hm
 refine G ?_
 refine ⟨_, Qhg Z, ?_⟩
 exact fq
theorem Qlu : Yt Tryz.prog 157 "Swap" = some (272, false) := by kernel_rfl
theorem Qfo {w0 w : World} {s : PHeap} {H : List Res} {i : (List certify_entry)} {a : Int} {d : Int} {c : Nat} {b : Value} {r : Bool} (hm : Y0 i a d = some r) (hS : St w0 s (Res.box c 162 [b] :: Res.arr enccertify_entry 160 b i :: H) w) :
  Calls Tryz.prog 77 #[Value.iface 157 (Value.pointer (some ⟨c, 0, none⟩)), O a, O d] w fun e w' => ∃ v, e = .returned v ∧ ((fun (ae : Bool) => ∃ (m : PHeap) , PHeap.le s m ∧ St w0 m (Res.box c 162 [b] :: Res.arr enccertify_entry 160 b i :: H) w' ∧ v = Value.bool (ae)) r) := by
 unfold Y0 at hm
 refine Qd Tryz.func77 Z Z ?_
 obtain ⟨k, q, aq, ab, y⟩ := Qr hm
 refine Zc (Zd (g ?_))
 refine Zc (Zd (g ?_))
 refine Zc (Qp (M := fun f' w' => ∃ s', (k = .next s' ∨ k = .brk s') ∧ (fun (_ : Unit) => ∃ (n : PHeap) , PHeap.le s n ∧ St w0 n (Res.box c 162 [b] :: Res.arr enccertify_entry 160 b i :: H) w' ∧ Fx f' [(0, Value.iface 157 (Vq c)), (1, O a), (2, O d), (7, O a)]) s') ?_ ?_)
 ·refine G ?_
  refine KA (fun s' f' w' => (fun (_ : Unit) => ∃ (o : PHeap) , PHeap.le s o ∧ St w0 o (Res.box c 162 [b] :: Res.arr enccertify_entry 160 b i :: H) w' ∧ Fx f' [(0, Value.iface 157 (Vq c)), (1, O a), (2, O d), (7, O a)]) s') q ?_ ?_
  ·have am := hS.f1
   exact fq
  intro ay af ag a0 t j ac
  obtain ⟨ad, ar, an, ⟨ah, rfl⟩⟩ := t
  refine Qcv (Zc (Zd (g ?_)))
  refine Zc (Zc (Qp (M := fun f' w' => ∃ (p : PHeap) , PHeap.le ad p ∧ St w0 p (Res.box c 162 [b] :: Res.arr enccertify_entry 160 b i :: H) w' ∧ Fx f' [(0, Value.iface 157 (Vq c)), (1, O a), (2, O d), (7, O a), (8, O (IntKind.i64.wrap ((IntKind.i64.wrap (2 * a)) + 1))), (21, Vb (((decide (d ≤ (IntKind.i64.wrap ((IntKind.i64.wrap (2 * a)) + 1)))) || decide ((IntKind.i64.wrap ((IntKind.i64.wrap (2 * a)) + 1)) < 0))))]) ?_ ?_))
  ·refine G ?_
   rcases tf (decide (d ≤ (IntKind.i64.wrap ((IntKind.i64.wrap (2 * a)) + 1)))) with z | z
   ·refine G ?_
    exact fq
   refine G ?_
   exact fq
  intro ai a1 u
  obtain ⟨aw, au, ao, ⟨aj, rfl⟩⟩ := u
  refine G ?_
  rcases Qs j with ⟨aa, j⟩ | ⟨aa, j⟩
  ·cases j
   refine G ?_
   exact ⟨_, .inr (ac (by intro _ h; cases h)), fq⟩
  refine G ?_
  cases j
 rintro ak a2 ⟨az, l, x⟩
 have hm := l.elim (ab _) (y _)
 clear l
 obtain ⟨ax, av, ap, ⟨al, rfl⟩⟩ := x
 cases hm
 refine G ?_
 exact fr
theorem Qqg : Ji Tryz.prog 160 = some (Value.agg #[Value.slice none 0 0, O 0, O 0]) := by kernel_rfl
theorem Qqj : Tryz.prog.concrete 160 = true := by kernel_rfl
theorem QqV : (Tryz.f270.name == "runtime.NumGoroutine") = false := by kernel_rfl
theorem Qd3 {w0 w : World} {s : PHeap} {H : List Res} {j : (List certify_entry)} {b : Nat} {k : Value} {r : certify_entry × (List certify_entry)} (hm : KQ j = some r) (hS : St w0 s (Res.box b 162 [k] :: Res.arr enccertify_entry 160 k j :: H) w) :
  Calls Tryz.prog 270 #[Value.pointer (some ⟨b, 0, none⟩)] w fun e w' => ∃ v, e = .returned v ∧ ((QI fun (f : certify_entry) (p : (List certify_entry)) => ∃ (d : PHeap) (l : Value) (m : Value), PHeap.le s d ∧ St w0 d (Res.box b 162 [m] :: Res.arr enccertify_entry 160 m p :: H) w' ∧ v = Value.iface 160 (Value.agg #[l, O (f.dist), O (f.order)]) ∧ SliceRep encFact d l f.facts) r) := by
 unfold KQ at hm
 refine Qd Tryz.func270 Z Z (G ?_)
 refine Q0 (hS.f1) S162.h Z Z ?_
 obtain ⟨ak, a, hm⟩ := V hm
 obtain ⟨z, y, g⟩ := (hS.f1).arr_at a
 refine G ?_
 refine Qa S162.h Z g Z (Qb a).1 (Qb a).2.1 (G ?_)
 refine Qf (F := enccertify_entry) (hS.f1) g A160.h Z Z Z a (Sub.refl _) ?_
 intro ag q
 obtain ⟨ae, rfl, ad⟩ := Kx.1 q
 refine G ?_
 refine Exec.alloc (cs := [Vn, O 0, O 0]) hS Qqg Z Z ?_
 intro x ah aa
 refine G ?_
 refine KJ Z Z Z ?_
 intro ai i
 obtain ⟨ac, t, hm⟩ := V hm
 refine G ?_
 refine QaY (i.f2) S162.h Z Z Z t ?_
 intro n c
 refine G ?_
 refine Qq (ds := [n]) (es := [n]) i.f1 A162.h Z Z Z (Qz c.one) (Zj c.one QU) (Nat.le_of_ble_eq_true Z) Z ?_
 intro aj o
 obtain ⟨af, u, hm⟩ := V hm
 have ab := (o.f2).arr_head c (by simpa using Ql u)
 refine G ?_
 refine Exec.makeInterface Qqj Z Z ?_
 cases hm
 refine G ?_
 refine ⟨_, KR Z, ?_⟩
 exact fq
theorem QmI : Yt Tryz.prog 157 "Pop" = some (270, true) := by kernel_rfl
theorem QfS {w0 w : World} {s : PHeap} {H : List Res} {b : (List certify_entry)} {a : Nat} {g : Value} {r : certify_entry × (List certify_entry)} (hm : YK b = some r) (hS : St w0 s (Res.box a 162 [g] :: Res.arr enccertify_entry 160 g b :: H) w) :
  Calls Tryz.prog 50 #[Value.iface 157 (Value.pointer (some ⟨a, 0, none⟩))] w fun e w' => ∃ v, e = .returned v ∧ ((QI fun (d : certify_entry) (m : (List certify_entry)) => ∃ (c : PHeap) (i : Value) (j : Value), PHeap.le s c ∧ St w0 c (Res.box a 162 [j] :: Res.arr enccertify_entry 160 j m :: H) w' ∧ v = Value.iface 160 (Value.agg #[i, O (d.dist), O (d.order)]) ∧ SliceRep encFact c i d.facts) r) := by
 unfold YK at hm
 refine Qd Tryz.func50 Z Z (G ?_)
 refine Kt QmJ Tryz.underlying157 A162.h (hS.f1).f1 Z Z Z Tryz.func90 Z N90 Qw ((Qay (KU b) hS.f1).mono ?_)
 rintro _ aj ⟨_, rfl, ⟨ad, u, f, rfl⟩⟩
 refine ⟨_, Z, ?_⟩
 obtain ⟨x, n, hm⟩ := V hm
 refine G ?_
 refine Kt Qlu Tryz.underlying157 A162.h f.f1 Z Z Z Tryz.func272 Z QqU (Zi Z (Zi Z Qw)) ((QcR n f).mono ?_)
 rintro _ ak ⟨_, rfl, ⟨ae, y, k, rfl⟩⟩
 refine ⟨_, Z, ?_⟩
 obtain ⟨an, o, hm⟩ := V hm
 refine G ?_
 refine Tc Z Z Z Z (Qfo o k.f1).r ?_
 rintro _ al ⟨af, z, l, rfl⟩
 obtain ⟨q, p, hm⟩ := V hm
 obtain ⟨ao, aa⟩ := q
 replace hm := Q7 hm
 refine G ?_
 refine QdN QmI Tryz.underlying157 Z Z Tryz.func270 Z QqV Qw ((Qd3 p (l.f1).f1).mono ?_)
 rintro _ am ⟨_, rfl, ⟨ag, ah, ai, ab, t, rfl, ac⟩⟩
 refine ⟨_, Z, ?_⟩
 cases hm
 refine G ?_
 exact fr
instance F160_0 : FTy Tryz.prog 160 0 0 := ⟨by kernel_rfl⟩
instance F125_1 : FTy Tryz.prog 125 1 1 := ⟨by kernel_rfl⟩
instance A123 : ATy Tryz.prog 123 false 1 := ⟨by kernel_rfl⟩
instance S123 : STy Tryz.prog 123 166 2 32 := ⟨by kernel_rfl⟩
instance A166 : ATy Tryz.prog 166 true 2 := ⟨by kernel_rfl⟩
instance F166_0 : FTy Tryz.prog 166 0 0 := ⟨by kernel_rfl⟩
theorem Qes {w0 w : World} {s : PHeap} {H : List Res} {c : (List Fact)} {u : (List Int)} {d : Value} {i : Value} {r : Bool} (hm : Qbn c u = some r) (hS : St w0 s (H) w) (a0 : SliceRep encFact s d c) (x : SliceRep (U .i64) s i u) :
  Calls Tryz.prog 74 #[d, i] w fun e w' => ∃ v, e = .returned v ∧ ((fun (az : Bool) => ∃ (o : PHeap) , PHeap.le s o ∧ St w0 o (H) w' ∧ v = Value.bool (az)) r) := by
 unfold Qbn at hm
 refine Qd Tryz.func74 Z Z ?_
 obtain ⟨l, aa, an, al, ah⟩ := Qr hm
 refine Zc (Zd (g ?_))
 refine Zc (Zc (Zd (g ?_)))
 refine Qp (M := fun f' w' => ∃ s', (l = .next s' ∨ l = .brk s') ∧ (fun (_ : Unit) => ∃ (p : PHeap) , PHeap.le s p ∧ St w0 p (H) w' ∧ Fx f' [(1, i), (7, d), (8, O ((c.length : Int)))]) s') ?_ ?_
 ·refine G ?_
  refine QF (fun k' s' f' w' => (fun (_ : Unit) => ∃ (q : PHeap) , PHeap.le s q ∧ St w0 q (H) w' ∧ Fx f' [(9, O (k' : Int)), (1, i), (7, d), (8, O ((c.length : Int)))]) s') aa ?_ ?_ ?_
  ·exact fq
  ·intro aq aR a4 a6 aW aI ab b ao
   obtain ⟨ay, ar, m, ⟨a7, rfl⟩⟩ := ab
   obtain ⟨bc, au, b⟩ := V b
   refine G ?_
   refine Jk Z Z Z au ?_
   intro a1 aM y
   refine G ?_
   refine Zw (E := encFact) m A36.h Z Z Z y ?_
   intro aU av
   obtain rfl := JH.1 av
   refine G ?_
   refine Exec.alloc (cs := [O 0, O 0]) m Z36 Z Z ?_
   intro a2 aX aE
   refine G ?_
   refine KJ Z Z Z ?_
   intro aY af
   obtain ⟨j, a, b⟩ := V b
   refine g ?_
   refine Zc (Qp (M := fun f' w' => (fun (j : Bool) => ∃ (t : PHeap) , PHeap.le ay t ∧ St w0 t (H) w' ∧ Fx f' [(1, i), (7, d), (8, O ((c.length : Int))), (9, O ((aq : Int))), (32, Vb j)]) j) ?_ ?_)
   ·refine JE (n0 := 20) (qs 0 20 .done) JM (by kernel_rfl) (by kernel_rfl) ?_
    have ag := af.drew
    refine G ?_
    rcases Qs a with ⟨ai, a⟩ | ⟨ai, a⟩
    ·cases a
     refine G ?_
     exact fq
    refine G ?_
    rcases Qs a with ⟨aj, a⟩ | ⟨aj, a⟩
    ·cases a
     refine G ?_
     exact fq
    obtain ⟨bd, aw, a⟩ := V a
    refine G ?_
    refine Qy S22.h Z Z Z (x.mono ar) aw ?_
    intro a3 aN z a5
    refine ⟨Z, ?_⟩
    refine G ?_
    refine Zw (E := (U .i64)) ag A3.h Z Z Z z ?_
    intro aV ax
    obtain rfl := Qg.1 ax
    refine ⟨Z, ?_⟩
    cases a
    refine G ?_
    exact fq
   intro a8 aZ ad
   obtain ⟨aO, aJ, aF, ⟨a9, rfl⟩⟩ := ad
   refine G ?_
   rcases Qs b with ⟨ak, b⟩ | ⟨ak, b⟩
   ·cases b
    have am := an _ (ao (by intro _ h; cases h))
    cases am
    refine G ?_
    exact fr
   cases b
   refine G ?_
   exact ⟨_, Z, fq⟩
  intro aS aA ba ac ap
  obtain ⟨aP, aK, aG, ⟨aB, rfl⟩⟩ := ac
  refine G ?_
  exact ⟨_, .inl ap, fq⟩
 rintro aC bb ⟨aT, n, ae⟩
 have hm := n.elim (al _) (ah _)
 clear n
 obtain ⟨aQ, aL, aH, ⟨aD, rfl⟩⟩ := ae
 cases hm
 refine G ?_
 exact fr
instance F160_1 : FTy Tryz.prog 160 1 1 := ⟨by kernel_rfl⟩
theorem Qjd : Ji Tryz.prog 166 = some (Value.agg #[Value.slice none 0 0, O 0]) := by kernel_rfl
theorem QcS {w0 w : World} {s : PHeap} {H : List Res} {a : (List Nogood)} {i : (List Fact)} {b : Value} {c d : Nat} {r : Int} (hm : Yo a i = some r) (hS : St w0 s (Res.arr encNogood 166 b a :: H) w) (ac : At s c d (Qm encFact) i) :
  Calls Tryz.prog 159 #[b, Value.func (.func 126) #[] #[Value.pointer (some ⟨c, d, none⟩)]] w fun e w' => ∃ v, e = .returned v ∧ ((fun (ab : Int) => ∃ (m : PHeap) , PHeap.le s m ∧ St w0 m (Res.arr encNogood 166 b a :: H) w' ∧ v = O ab) r) := by
 unfold Yo at hm
 refine Qd Tryz.func159 Z Z (G ?_)
 refine Q0 (hS) S123.h Z Z ?_
 obtain ⟨j, p, ao, z, x⟩ := Qr hm
 refine g ?_
 refine Qp (M := fun f' w' => ∃ s', (j = .next s' ∨ j = .brk s') ∧ (fun (_ : Unit) => ∃ (n : PHeap) , PHeap.le s n ∧ St w0 n (Res.arr encNogood 166 b a :: H) w' ∧ Fx f' [(0, b), (1, Value.func (.func 126) #[] #[Vp (some ⟨c, d, none⟩)]), (7, O ((a.length : Int)))]) s') ?_ ?_
 ·refine G ?_
  refine QF (fun k' s' f' w' => (fun (_ : Unit) => ∃ (o : PHeap) , PHeap.le s o ∧ St w0 o (Res.arr encNogood 166 b a :: H) w' ∧ Fx f' [(8, O (k' : Int)), (0, b), (1, Value.func (.func 126) #[] #[Vp (some ⟨c, d, none⟩)]), (7, O ((a.length : Int)))]) s') p ?_ ?_ ?_
  ·exact fq
  ·intro aq az ad ae a2 an q y ap
   obtain ⟨aw, ar, ak, ⟨af, rfl⟩⟩ := q
   refine G ?_
   cases y
  intro a0 ag a3 t aa
  obtain ⟨ax, au, al, ⟨ah, rfl⟩⟩ := t
  refine G ?_
  exact ⟨_, .inl aa, fq⟩
 rintro ai a4 ⟨a1, l, u⟩
 have hm := l.elim (z _) (x _)
 clear l
 obtain ⟨ay, av, am, ⟨aj, rfl⟩⟩ := u
 cases hm
 refine G ?_
 exact fr
theorem QdV {w0 w : World} {s : PHeap} {H : List Res} {a : (List Nogood)} {d : (List Fact)} {b : Value} {c f : Nat} {r : Bool} (hm : Qan a d = some r) (hS : St w0 s (Res.arr encNogood 166 b a :: H) w) (h : At s c f (Qm encFact) d) :
  Calls Tryz.prog 125 #[b, Value.func (.func 126) #[] #[Value.pointer (some ⟨c, f, none⟩)]] w fun e w' => ∃ v, e = .returned v ∧ ((fun (j : Bool) => ∃ (g : PHeap) , PHeap.le s g ∧ St w0 g (Res.arr encNogood 166 b a :: H) w' ∧ v = Value.bool (j)) r) := by
 unfold Qan at hm
 refine Qd Tryz.func125 Z Z ?_
 obtain ⟨o, i, hm⟩ := V hm
 refine G ?_
 refine Tc Z Z Z Z (QcS i hS h).r ?_
 rintro _ n ⟨m, l, k, rfl⟩
 cases hm
 refine G ?_
 exact fr
theorem QdR {w0 w : World} {s : PHeap} {H : List Res} {b : (List Fact)} {a : (List Nogood)} {c : Value} {d : Value} {r : Bool} (hm : Yj b a = some r) (hS : St w0 s (Res.arr encNogood 166 d a :: H) w) (f : SliceRep encFact s c b) :
  Calls Tryz.prog 91 #[c, d] w fun e w' => ∃ v, e = .returned v ∧ ((fun (l : Bool) => ∃ (g : PHeap) , PHeap.le s g ∧ St w0 g (Res.arr encNogood 166 d a :: H) w' ∧ v = Value.bool (l)) r) := by
 unfold Yj at hm
 refine Qd Tryz.func91 Z Z (G ?_)
 refine Exec.box (cs := [c]) hS Z Z (Qz f.one) ?_
 intro m u h
 refine G ?_
 obtain ⟨q, o, i, k⟩ := St.freezeVar (E := (Qm encFact)) (y := b) h ⟨_, rfl, f⟩
 refine G ?_
 refine Exec.makeFunc Z (Zi Z Qw) ?_
 obtain ⟨z, j, hm⟩ := V hm
 refine G ?_
 refine Tc Z Z Z Z (QdV j i k).r ?_
 rintro _ x ⟨t, p, n, rfl⟩
 cases hm
 refine G ?_
 exact fr
theorem QfV {w0 w : World} {s : PHeap} {H : List Res} {q : Task} {b : Int} {t : Int} {u : Value} {x : Value} {y : Value} {o : Value} {r : (Option Int) × Certificate} (hm : YP q b t = some r) (hS : St w0 s (H) w) (a7 : SliceRep (U .i64) s u q.Vars) (a8 : SliceRep (U .i64) s x q.Init) (a9 : SliceRep encFact s y q.Goal) (aA : SliceRep encOp s o q.Ops) :
  Calls Tryz.prog 66 #[Value.agg #[u, x, y, o], O b, O t] w fun e w' => ∃ v, e = .returned v ∧ ((QI fun (b1 : (Option Int)) (a4 : Certificate) => ∃ (af : PHeap) (a3 : Value), PHeap.le s af ∧ St w0 af (H) w' ∧ v = Value.tuple #[Value.agg #[O (a4.Bound), a3], K4 52 (b1)] ∧ SliceRep encNogood af a3 a4.Nogoods) r) := by
 unfold YP at hm
 refine Qd Tryz.func66 Z Z (G ?_)
 refine Kq Z Z ?_
 intro j c7 aJ
 refine G ?_
 refine Exec.alloc (cs := [O 0, Vn]) aJ QpA Z Z ?_
 intro l c8 aK
 obtain ⟨cY, bo, hm⟩ := V hm
 refine G ?_
 refine Tc Z Z Z Z (Qae bo aK a7 a8 a9 aA).r ?_
 rintro _ c9 ⟨cp, bY, aL, rfl⟩
 refine G ?_
 refine Qv (T := 52) Tryz.underlying39 Z Z Z (G ?_)
 rcases Qs hm with ⟨bb, hm⟩ | ⟨bb, hm⟩
 ·refine G ?_
  cases hm
 refine G ?_
 refine Tc Z Z Z Z (QeN (Qcr b) aL).r ?_
 rintro _ cA ⟨cq, bZ, aM, rfl⟩
 refine G ?_
 rcases Qs hm with ⟨bc, hm⟩ | ⟨bc, hm⟩
 ·refine G ?_
  cases hm
 refine G ?_
 refine Exec.build Z (Qc (c := [O b]) (Qe Z Z) Qi) (v := Value.agg #[O b, Vn]) (fun _ => by kernel_rfl) (G ?_)
 refine Exec.alloc (cs := [O 0, Vn]) aM QpA Z Z ?_
 intro m cB bJ
 refine G ?_
 refine KJ Z Z Z ?_
 intro cC aN
 refine G ?_
 rcases Qs hm with ⟨bd, hm⟩ | ⟨bd, hm⟩
 ·refine G ?_
  cases hm
 refine G ?_
 refine Qd2 Z Z Z (G ?_)
 refine QbE Z Z Z ?_
 obtain ⟨b2, bp, hm⟩ := V hm
 refine G ?_
 refine Tc Z Z Z Z (Qi6 bp aN rq).r ?_
 rintro z cD ⟨ay, _, ca, aO, rfl, ax⟩
 refine G ?_
 refine Exec.build Z (Qc (c := [z]) (Qe Z (Qz ax.one)) Qi) (v := Value.agg #[z, O 0, O 0]) (fun _ => by kernel_rfl) (G ?_)
 refine Exec.buildSlice (Te := 160) (cs := [z, O 0, O 0]) aO Z (Qc (c := [z, O 0, O 0]) (Qe Z Z) Qi) (fun _ => by kernel_rfl) ?_
 intro b3 cE bK
 refine G ?_
 refine Kq Z Z ?_
 intro n cF aP
 have aQ := St.boxArr (E := enccertify_entry) (xs := [(⟨b2, 0, 0⟩ : certify_entry)]) aP.f1 ⟨[z, O 0, O 0], [], rfl, ⟨[z], [O 0, O 0], rfl, ⟨_, rfl, ax⟩, ⟨[O 0], [O 0], rfl, rfl, rfl⟩⟩, rfl⟩ (by simp [maxLen])
 obtain ⟨al, aC, bU, bk, aZ⟩ := Qr hm
 refine g ?_
 refine Zc (Zd (g ?_))
 refine Zc (Qp (M := fun f' w' => ∃ s', (al = .next s' ∨ al = .brk s') ∧ (QI fun (a5 : (List Nogood)) (au : (List certify_entry)) => ∃ (az : PHeap) (ah : Value) (ai : Value), PHeap.le ay az ∧ St w0 az (Res.box j 26 [u, x, y, o] :: Res.box l 125 [O 0, Vn] :: Res.box m 125 [O b, ah] :: Res.box n 162 [ai] :: Res.arr encNogood 166 ah a5 :: Res.arr enccertify_entry 160 ai au :: H) w' ∧ Fx f' [(1, O b), (2, O (max 0 (min t 4096))), (3, Vq j), (6, Vq l), (9, Vq m), (10, Vq n), (11, O 1)]) s') ?_ ?_)
 ·refine G ?_
  refine KA (fun s' f' w' => (QI fun (a6 : (List Nogood)) (ae : (List certify_entry)) => ∃ (a0 : PHeap) (aj : Value) (ak : Value), PHeap.le ay a0 ∧ St w0 a0 (Res.box j 26 [u, x, y, o] :: Res.box l 125 [O 0, Vn] :: Res.box m 125 [O b, aj] :: Res.box n 162 [ak] :: Res.arr encNogood 166 aj a6 :: Res.arr enccertify_entry 160 ak ae :: H) w' ∧ Fx f' [(1, O b), (2, O (max 0 (min t 4096))), (3, Vq j), (6, Vq l), (9, Vq m), (10, Vq n), (11, O 1)]) s') aC ?_ ?_
  ·have bL := aQ.nilArr encNogood 166
   exact fq
  intro bx b7 b9 cG aE a bm
  obtain ⟨a6, ae⟩ := bx
  replace a := Q7 a
  obtain ⟨cr, aj, ak, cb, aR, ⟨bA, rfl⟩⟩ := aE
  refine G ?_
  refine Tc Z Z Z Z (Qay (KU ae) aR.f5).r ?_
  rintro _ cH ⟨ct, cc, aS, rfl⟩
  refine G ?_
  rcases Qs a with ⟨be, a⟩ | ⟨be, a⟩
  ·refine G ?_
   refine Exec.makeInterface Qra Z Z ?_
   obtain ⟨bz, bq, a⟩ := V a
   obtain ⟨d, av⟩ := bz
   replace a := Q7 a
   refine G ?_
   refine Tc Z Z Z Z (QfS bq aS.f4).r ?_
   rintro _ cI ⟨cu, p, ac, cd, aT, rfl, bw⟩
   refine G ?_
   refine QcJ Qqj Z Z (G ?_)
   refine Exec.alloc (cs := [Vn, O 0, O 0]) aT Qqg Z Z ?_
   intro ab cJ bM
   refine G ?_
   refine KJ Z Z Z ?_
   intro cK aU
   obtain ⟨cZ, br, a⟩ := V a
   refine G ?_
   refine Tc Z Z Z Z (QdR br aU.f6 bw).r ?_
   rintro _ cL ⟨cv, ce, aV, rfl⟩
   refine G ?_
   rcases Qs a with ⟨bf, a⟩ | ⟨bf, a⟩
   ·cases a
    refine G ?_
    exact ⟨_, Z, fq⟩
   obtain ⟨da, bs, a⟩ := V a
   refine G ?_
   refine Tc Z Z Z Z (Qes bs aV rq rq).r ?_
   rintro _ cM ⟨ag, cf, an, rfl⟩
   refine G ?_
   rcases Qs a with ⟨bg, a⟩ | ⟨bg, a⟩
   ·refine G ?_
    cases a
   refine G ?_
   refine Q0 (an) S123.h Z Z (G ?_)
   rcases Qs a with ⟨bh, a⟩ | ⟨bh, a⟩
   ·refine G ?_
    cases a
   refine G ?_
   refine Exec.build Z (Qc (c := [p]) (Qe Z (Qz (rq).one)) (Qc (c := [O (d.dist)]) (Qe Z Z) Qi)) (v := Value.agg #[p, O (d.dist)]) (fun _ => by kernel_rfl) (G ?_)
   refine Exec.buildSlice (Te := 166) (cs := [p, O (d.dist)]) an Z (Qc (c := [p, O (d.dist)]) (Qe Z Z) Qi) (fun _ => by kernel_rfl) ?_
   intro b4 cN aW
   obtain ⟨aw, bt, a⟩ := V a
   refine G ?_
   refine Q5 (E := encNogood) (ys := [(⟨d.facts, d.dist⟩ : Nogood)]) aW.f1 S123.h Qjd Z (by decide) Z Z Z Z ⟨[p, O (d.dist)], [], Z, ⟨[p], [O (d.dist)], Z, ⟨_, Z, rq⟩, Z⟩, Z⟩ Z bt ?_
   intro aa cO ad
   refine G ?_
   refine Qq (ds := [aa]) (es := [O b, aa]) ad.f6 A123.h Z Z Z (Qz ((ad.f6).f1).arr_one) (Zj ((ad.f6).f1).arr_one QU) (Nat.le_of_ble_eq_true Z) Z ?_
   intro cP aX
   obtain ⟨am, aD, bV, bl, ba⟩ := Qr a
   refine g ?_
   refine Zc (Zd (g ?_))
   refine Qp (M := fun f' w' => ∃ s', (am = .next s' ∨ am = .brk s') ∧ (fun (_ : Unit) => ∃ (a1 : PHeap) , PHeap.le ag a1 ∧ St w0 a1 (Res.box j 26 [u, x, y, o] :: Res.box l 125 [O 0, Vn] :: Res.box m 125 [O b, aa] :: Res.box n 162 [ac] :: Res.box ab 160 [p, O (d.dist), O (d.order)] :: Res.arr encNogood 166 aa aw :: Res.arr enccertify_entry 160 ac av :: H) w' ∧ Fx f' [(1, O b), (2, O (max 0 (min t 4096))), (3, Vq j), (6, Vq l), (9, Vq m), (10, Vq n), (11, O 1), (12, Vq ab), (88, o), (89, O ((q.Ops.length : Int)))]) s') ?_ ?_
   ·refine G ?_
    refine QF (fun k' s' f' w' => (fun (_ : Unit) => ∃ (a2 : PHeap) , PHeap.le ag a2 ∧ St w0 a2 (Res.box j 26 [u, x, y, o] :: Res.box l 125 [O 0, Vn] :: Res.box m 125 [O b, aa] :: Res.box n 162 [ac] :: Res.box ab 160 [p, O (d.dist), O (d.order)] :: Res.arr encNogood 166 aa aw :: Res.arr enccertify_entry 160 ac av :: H) w' ∧ Fx f' [(90, O (k' : Int)), (1, O b), (2, O (max 0 (min t 4096))), (3, Vq j), (6, Vq l), (9, Vq m), (10, Vq n), (11, O 1), (12, Vq ab), (88, o), (89, O ((q.Ops.length : Int)))]) s') aD ?_ ?_ ?_
    ·have aY := aX.f4
     exact ⟨ag, (Zv _), (((((aY.f2).f3).f4).f4).f6).f6, (Fx.mk)⟩
    ·intro bX c1 b8 bB cQ bT aF i bW
     obtain ⟨cw, cg, ao, ⟨bC, rfl⟩⟩ := aF
     obtain ⟨cX, bu, i⟩ := V i
     refine G ?_
     refine Jk Z Z Z bu ?_
     intro b5 cl aB
     refine G ?_
     refine Zw (E := encOp) ao A32.h Z Z Z aB ?_
     intro c6 bv
     obtain ⟨c4, c5, rfl, cm, cn⟩ := KX.1 bv
     refine G ?_
     refine Exec.alloc (cs := [Value.string (⟨#[]⟩), O 0, Vn, Vn]) ao Z32 Z Z ?_
     intro b6 cR bN
     refine G ?_
     refine KJ Z Z Z ?_
     intro cS bO
     refine G ?_
     rcases Qs i with ⟨bi, i⟩ | ⟨bi, i⟩
     ·refine G ?_
      cases i
     refine G ?_
     rcases Qs i with ⟨bj, i⟩ | ⟨bj, i⟩
     ·cases i
      refine G ?_
      exact ⟨_, Z, fq⟩
     refine G ?_
     cases i
    intro c2 bD cT aG bn
    obtain ⟨cx, ch, bP, ⟨bE, rfl⟩⟩ := aG
    refine G ?_
    exact ⟨_, .inl bn, fq⟩
   rintro bF cU ⟨c3, aq, aH⟩
   have a := aq.elim (bl _) (ba _)
   clear aq
   obtain ⟨cy, ci, bQ, ⟨bG, rfl⟩⟩ := aH
   cases a
   refine G ?_
   exact ⟨_, Z, fq⟩
  cases a
  refine G ?_
  exact ⟨_, .inr (bm (by intro _ h; cases h)), fq⟩
 rintro bH cV ⟨b0, ar, aI⟩
 have hm := ar.elim (bk _) (aZ _)
 clear ar
 obtain ⟨a5, au⟩ := b0
 replace hm := Q7 hm
 obtain ⟨cz, ah, ai, cj, bR, ⟨bI, rfl⟩⟩ := aI
 refine G ?_
 refine KJ Z Z Z ?_
 intro cW ap
 cases hm
 refine G ?_
 refine ⟨_, QaS Z ⟨_, _, Z, Kb (ap) A125.h⟩ Z, ?_⟩
 obtain ⟨c0, ck, bS, co⟩ := ap.f4.freezeArr
 exact fq
instance F125_0 : FTy Tryz.prog 125 0 0 := ⟨by kernel_rfl⟩
theorem QdS {w0 w : World} {s : PHeap} {H : List Res} {d : (List Fact)} {c : Value} {r : Bool} (hm : Qal d = some r) (hS : St w0 s (H) w) (t : SliceRep encFact s c d) :
  Calls Tryz.prog 132 #[c] w fun e w' => ∃ v, e = .returned v ∧ ((fun (ax : Bool) => ∃ (n : PHeap) , PHeap.le s n ∧ St w0 n (H) w' ∧ v = Value.bool (ax)) r) := by
 unfold Qal at hm
 refine Qd Tryz.func132 Z Z ?_
 obtain ⟨j, y, aG, am, af⟩ := Qr hm
 refine Zc (Zd (g ?_))
 refine Zc (Zc (Zd (g ?_)))
 refine Qp (M := fun f' w' => ∃ s', (j = .next s' ∨ j = .brk s') ∧ (fun (_ : Unit) => ∃ (o : PHeap) , PHeap.le s o ∧ St w0 o (H) w' ∧ Fx f' [(0, c), (5, c), (6, O ((d.length : Int)))]) s') ?_ ?_
 ·refine G ?_
  refine QF (fun k' s' f' w' => (fun (_ : Unit) => ∃ (p : PHeap) , PHeap.le s p ∧ St w0 p (H) w' ∧ Fx f' [(7, O (k' : Int)), (0, c), (5, c), (6, O ((d.length : Int)))]) s') y ?_ ?_ ?_
  ·exact fq
  ·intro ao aQ a1 a3 aV aF z b aH
   obtain ⟨aw, ap, l, ⟨a4, rfl⟩⟩ := z
   obtain ⟨bb, aq, b⟩ := V b
   refine G ?_
   refine Jk Z Z Z aq ?_
   intro ay aL u
   refine G ?_
   refine Zw (E := encFact) l A36.h Z Z Z u ?_
   intro aT ar
   obtain rfl := JH.1 ar
   refine G ?_
   refine Exec.alloc (cs := [O 0, O 0]) l Z36 Z Z ?_
   intro az aW aB
   refine G ?_
   refine KJ Z Z Z ?_
   intro aX ad
   obtain ⟨i, a, b⟩ := V b
   refine g ?_
   refine Zc (Qp (M := fun f' w' => (fun (i : Bool) => ∃ (q : PHeap) , PHeap.le aw q ∧ St w0 q (H) w' ∧ Fx f' [(0, c), (5, c), (6, O ((d.length : Int))), (7, O ((ao : Int))), (44, Vb i)]) i) ?_ ?_)
   ·refine JE (n0 := 33) (qs 0 33 .done) JM (by kernel_rfl) (by kernel_rfl) ?_
    have ae := ad.drew
    refine G ?_
    rcases Qs a with ⟨ag, a⟩ | ⟨ag, a⟩
    ·cases a
     refine G ?_
     exact fq
    refine G ?_
    rcases Qs a with ⟨ah, a⟩ | ⟨ah, a⟩
    ·cases a
     refine G ?_
     exact fq
    refine G ?_
    rcases Qs a with ⟨ai, a⟩ | ⟨ai, a⟩
    ·cases a
     refine G ?_
     exact fq
    refine G ?_
    rcases Qs a with ⟨aj, a⟩ | ⟨aj, a⟩
    ·cases a
     refine G ?_
     exact fq
    refine G ?_
    rcases Qs a with ⟨ak, a⟩ | ⟨ak, a⟩
    ·obtain ⟨bc, au, a⟩ := V a
     refine G ?_
     refine Qy S23.h Z Z Z (t.mono ap) au ?_
     intro a0 aM x a2
     refine ⟨Z, ?_⟩
     refine G ?_
     refine Zw (E := (U .i64)) ae A3.h Z Z Z (x.sub (Sub.iso (QdG (Sub.refl _))) Z) ?_
     intro aU av
     obtain rfl := Qg.1 av
     refine ⟨Z, ?_⟩
     cases a
     refine G ?_
     exact fq
    cases a
    refine G ?_
    exact fq
   intro a5 aY ab
   obtain ⟨aN, aI, aC, ⟨a6, rfl⟩⟩ := ab
   refine G ?_
   rcases Qs b with ⟨al, b⟩ | ⟨al, b⟩
   ·refine G ?_
    cases b
   cases b
   refine G ?_
   exact ⟨_, Z, fq⟩
  intro aR a7 aZ aa an
  obtain ⟨aO, aJ, aD, ⟨a8, rfl⟩⟩ := aa
  refine G ?_
  exact ⟨_, .inl an, fq⟩
 rintro a9 ba ⟨aS, m, ac⟩
 have hm := m.elim (am _) (af _)
 clear m
 obtain ⟨aP, aK, aE, ⟨aA, rfl⟩⟩ := ac
 cases hm
 refine G ?_
 exact fr
instance F166_1 : FTy Tryz.prog 166 1 1 := ⟨by kernel_rfl⟩
theorem QbC {w0 w : World} {s : PHeap} {H : List Res} {a : Certificate} {b : Value} {r : (Option Int)} (hm : Ys a = some r) (hS : St w0 s (H) w) (aJ : SliceRep encNogood s b a.Nogoods) :
  Calls Tryz.prog 93 #[Value.agg #[O (a.Bound), b]] w fun e w' => ∃ v, e = .returned v ∧ ((fun (aI : (Option Int)) => ∃ (ad : PHeap) , PHeap.le s ad ∧ St w0 ad (H) w' ∧ v = K4 52 (aI)) r) := by
 unfold Ys at hm
 refine Qd Tryz.func93 Z Z (G ?_)
 refine Kq Z Z ?_
 intro c bQ bg
 refine g ?_
 refine Zc (Zc (Qp (M := fun f' w' => ∃ (ae : PHeap) , PHeap.le s ae ∧ St w0 ae (Res.box c 125 [O (a.Bound), b] :: H) w' ∧ Fx f' [(1, Vq c), (14, Vb (((decide (a.Bound < (-1))) || decide (1099511627776 < a.Bound))))]) ?_ ?_))
 ·refine G ?_
  rcases tf (decide (a.Bound < (-1))) with a3 | a3
  ·refine G ?_
   exact fq
  refine G ?_
  exact fq
 intro aQ bR aw
 obtain ⟨af, bx, bh, ⟨aR, rfl⟩⟩ := aw
 refine G ?_
 rcases Qs hm with ⟨a4, hm⟩ | ⟨a4, hm⟩
 ·refine G ?_
  cases hm
 refine G ?_
 rcases Qs hm with ⟨aa, hm⟩ | ⟨aa, hm⟩
 ·refine G ?_
  cases hm
 obtain ⟨u, ao, bs, a7, a1⟩ := Qr hm
 refine W_c Z aa (Qa4 (Jt (Ze (Zc (Zc (Zd (g ?_)))))))
 refine Qp (M := fun f' w' => ∃ s', (u = .next s' ∨ u = .brk s') ∧ (fun (_ : Unit) => ∃ (ag : PHeap) , PHeap.le af ag ∧ St w0 ag (Res.box c 125 [O (a.Bound), b] :: H) w' ∧ Fx f' [(1, Vq c), (22, b), (23, O ((a.Nogoods.length : Int)))]) s') ?_ ?_
 ·refine G ?_
  refine QF (fun k' s' f' w' => (fun (_ : Unit) => ∃ (ah : PHeap) , PHeap.le af ah ∧ St w0 ah (Res.box c 125 [O (a.Bound), b] :: H) w' ∧ Fx f' [(24, O (k' : Int)), (1, Vq c), (22, b), (23, O ((a.Nogoods.length : Int)))]) s') ao ?_ ?_ ?_
  ·exact fq
  ·intro bw bG aO aS bS bq aq d bu
   obtain ⟨bA, bz, y, ⟨aT, rfl⟩⟩ := aq
   obtain ⟨ce, aC, d⟩ := V d
   refine G ?_
   refine Jk Z Z Z aC ?_
   intro aK b7 am
   refine G ?_
   refine Zw (E := encNogood) y A166.h Z Z Z am ?_
   intro bO aD
   obtain ⟨bM, rfl, aH⟩ := KF.1 aD
   refine G ?_
   refine Exec.alloc (cs := [Vn, O 0]) y Qjd Z Z ?_
   intro aL bT bi
   refine G ?_
   refine KJ Z Z Z ?_
   intro bU a0
   obtain ⟨cf, aE, d⟩ := V d
   refine G ?_
   refine Tc Z Z Z Z (QdS aE a0 aH).r ?_
   rintro _ bV ⟨bB, b0, bj, rfl⟩
   refine G ?_
   rcases Qs d with ⟨a5, d⟩ | ⟨a5, d⟩
   ·refine G ?_
    cases d
   cases d
   refine G ?_
   exact ⟨_, Z, fq⟩
  intro bH aU bW ar a9
  obtain ⟨bC, b1, bk, ⟨aV, rfl⟩⟩ := ar
  refine G ?_
  exact ⟨_, .inl a9, fq⟩
 rintro aW bX ⟨bI, ab, ax⟩
 have hm := ab.elim (a7 _) (a1 _)
 clear ab
 obtain ⟨ai, b2, bl, ⟨aX, rfl⟩⟩ := ax
 obtain ⟨x, ap, bt, a8, a2⟩ := Qr hm
 refine g ?_
 refine Zc (Zc (Zd (g ?_)))
 refine Qp (M := fun f' w' => ∃ s', (x = .next s' ∨ x = .brk s') ∧ (fun (_ : Unit) => ∃ (aj : PHeap) , PHeap.le ai aj ∧ St w0 aj (Res.box c 125 [O (a.Bound), b] :: H) w' ∧ Fx f' [(1, Vq c), (35, b), (36, O ((a.Nogoods.length : Int)))]) s') ?_ ?_
 ·refine G ?_
  refine QF (fun k' s' f' w' => (fun (_ : Unit) => ∃ (ak : PHeap) , PHeap.le ai ak ∧ St w0 ak (Res.box c 125 [O (a.Bound), b] :: H) w' ∧ Fx f' [(37, O (k' : Int)), (1, Vq c), (35, b), (36, O ((a.Nogoods.length : Int)))]) s') ap ?_ ?_ ?_
  ·exact fq
  ·intro aB bJ aP aY bY br au i bv
   obtain ⟨m, b3, z, ⟨aZ, rfl⟩⟩ := au
   obtain ⟨n, aF, i⟩ := V i
   refine G ?_
   refine Jk Z Z Z aF ?_
   intro aM b8 an
   refine G ?_
   refine Zw (E := encNogood) z A166.h Z Z Z an ?_
   intro bP aG
   obtain ⟨bN, rfl, b9⟩ := KF.1 aG
   refine G ?_
   refine Exec.alloc (cs := [Vn, O 0]) z Qjd Z Z ?_
   intro aN bZ bm
   refine G ?_
   refine KJ Z Z Z ?_
   intro ca o
   refine g ?_
   refine Zc (Qp (M := fun f' w' => ∃ (al : PHeap) , PHeap.le m al ∧ St w0 al (Res.box c 125 [O (a.Bound), b] :: H) w' ∧ Fx f' [(1, Vq c), (35, b), (36, O ((a.Nogoods.length : Int))), (37, O ((aB : Int))), (65, Vb (((decide (n.Dist < 0)) || (bif (decide (0 ≤ a.Bound)) then ((decide (a.Bound ≤ n.Dist)) || ((decide (a.Bound < 0)) && !decide (n.Dist = 0))) else ((decide (a.Bound < 0)) && !decide (n.Dist = 0))))))]) ?_ ?_)
   ·refine G ?_
    rcases tf (decide (n.Dist < 0)) with j | j
    ·refine G ?_
     exact fq
    refine G ?_
    rcases tf (decide (0 ≤ a.Bound)) with l | l
    ·refine G ?_
     rcases tf (decide (a.Bound ≤ n.Dist)) with p | p
     ·refine G ?_
      exact ⟨m, (Zv _), o.drop, (Fx.mk (FxL.cons Z (FxL.cons Z (FxL.cons Z (FxL.cons Z (FxL.cons (Zx (Eq.trans (QjR j) (Eq.trans (Qng l) (QqH p)))).symm fxl))))))⟩
     refine G ?_
     rcases tf (decide (a.Bound < 0)) with q | q
     ·refine G ?_
      exact ⟨m, (Zv _), o.drop, (Fx.mk (FxL.cons Z (FxL.cons Z (FxL.cons Z (FxL.cons Z (FxL.cons (Zx (Eq.trans (QjR j) (Eq.trans (Qng l) (Eq.trans (QjR p) (Qnh q))))).symm fxl))))))⟩
     refine G ?_
     exact ⟨m, (Zv _), o.drop, (Fx.mk (FxL.cons Z (FxL.cons Z (FxL.cons Z (FxL.cons Z (FxL.cons (Zx (Eq.trans (QjR j) (Eq.trans (Qng l) (Eq.trans (QjR p) (Qni q))))).symm fxl))))))⟩
    refine G ?_
    rcases tf (decide (a.Bound < 0)) with t | t
    ·refine G ?_
     exact ⟨m, (Zv _), o.drop, (Fx.mk (FxL.cons Z (FxL.cons Z (FxL.cons Z (FxL.cons Z (FxL.cons (Zx (Eq.trans (QjR j) (Eq.trans (Qpm l) (Qnh t)))).symm fxl))))))⟩
    refine G ?_
    exact ⟨m, (Zv _), o.drop, (Fx.mk (FxL.cons Z (FxL.cons Z (FxL.cons Z (FxL.cons Z (FxL.cons (Zx (Eq.trans (QjR j) (Eq.trans (Qpm l) (Qni t)))).symm fxl))))))⟩
   intro ba cb ay
   obtain ⟨bD, b4, bn, ⟨bb, rfl⟩⟩ := ay
   refine G ?_
   rcases Qs i with ⟨a6, i⟩ | ⟨a6, i⟩
   ·refine G ?_
    cases i
   cases i
   refine G ?_
   exact ⟨_, Z, fq⟩
  intro bK bc cc av aA
  obtain ⟨bE, b5, bo, ⟨bd, rfl⟩⟩ := av
  refine G ?_
  exact ⟨_, .inl aA, fq⟩
 rintro be cd ⟨bL, ac, az⟩
 have hm := ac.elim (a8 _) (a2 _)
 clear ac
 obtain ⟨bF, b6, bp, ⟨bf, rfl⟩⟩ := az
 cases hm
 refine G ?_
 exact fr
end Go.Pw
