/- -/
import Derived.Test.YtfcmpbkafbhdgaaGreatDoorLC
import Derived.Test.YtfcmpbkafbhdgaaGreatDoorLD
import Derived.Test.YtfcmpbkafbhdgaaGreatDoorWc7
set_option maxRecDepth 100000
set_option maxHeartbeats 4000000
set_option linter.unusedVariables false
namespace Go.Pw
open Go.Proofs
attribute [local irreducible] Exec WL W andThen Y0 DL QB
theorem Qgj {w0 w : World} {s : PHeap} {H : List Res} {a : Task} {c : Value} {d : Value} {f : Value} {g : Value} {r : Int} (hm : Qay a = some r) (hS : St w0 s (H) w) (j : SliceRep (Qc .i64) s c a.Vars) (k : SliceRep (Qc .i64) s d a.Init) (l : SliceRep encFact s f a.Goal) (m : SliceRep encOp s g a.Ops) :
  Calls Tryz.prog 7 #[Value.agg #[c, d, f, g]] w fun e w' => ∃ v, e = .returned v ∧ ((fun (ab : Int) => ∃ (i : PHeap) , PHeap.le s i ∧ St w0 i (H) w' ∧ v = U ab) r) := by
 unfold Qay at hm
 refine Qb Tryz.func7 Z Z (G ?_)
 refine Yz Z Z ?_
 intro ac al b
 refine G ?_
 refine KG (n0 := 9) (.q 0 (qs 2 4 (.e 1 [2, 3, 4, 5] (.e 6 [] (.q 7 (.q 8 .done)))))) Yp (by kernel_rfl) (by kernel_rfl) (G ?_)
 refine JM (ds := [c, d, f, g]) (b.drew) A26.h Z Z Z ⟨Z, ?_⟩
 refine G ?_
 refine Zn (b.drew) A22.h Z Z Z ⟨Z, ?_⟩
 refine G ?_
 refine Zn (b.drew) A22.h Z Z Z ⟨Z, ?_⟩
 obtain ⟨ap, u, hm⟩ := Zg hm
 refine G ?_
 refine Tc Z Z Z Z (QbY u b.drew j k l m).r ?_
 rintro aj am ⟨ah, _, af, o, rfl, aa⟩
 refine ⟨agq, ?_⟩
 obtain ⟨aq, x, hm⟩ := Zg hm
 refine G ?_
 refine Tc Z Z Z Z (QcU x o rq rq).r ?_
 rintro _ an ⟨ai, t, p, rfl⟩
 refine ⟨agq, ?_⟩
 obtain ⟨ao, y, hm⟩ := Zg hm
 refine G ?_
 refine Q6 S22.h Z Z Z (aa.mono t) y ?_
 intro ad ag n ae
 refine ⟨Z, ?_⟩
 refine G ?_
 refine Zw (E := (Qc .i64)) p A3.h Z Z Z n ?_
 intro ak z
 obtain rfl := Qt.1 z
 refine ⟨Z, ?_⟩
 cases hm
 refine G ?_
 exact fr
theorem Qnk : (Tryz.f119.name == "runtime.NumGoroutine") = false := by kernel_rfl
theorem QmC : Extern.findNext Tryz.f119 = none := by kernel_rfl
theorem QmE : Extern.find Tryz.f119 = some Extern.BytealgCount.count := by kernel_rfl
theorem QdQ {w0 w : World} {s : PHeap} {H : List Res} {b : ByteArray} {c : ByteArray} {r : Int} (hm : KQ b c = some r) (hS : St w0 s (H) w) :
  Calls Tryz.prog 89 #[Value.string (b), Value.string (c)] w fun e w' => ∃ v, e = .returned v ∧ ((fun (i : Int) => ∃ (a : PHeap) , PHeap.le s a ∧ St w0 a (H) w' ∧ v = U i) r) := by
 unfold KQ at hm
 refine Qb Tryz.func89 Z Z (G ?_)
 refine QC Tryz.underlying9 Z Z (G ?_)
 rcases Qk hm with ⟨d, hm⟩ | ⟨d, hm⟩
 ·refine G ?_
  cases hm
 refine G ?_
 refine QC Tryz.underlying9 Z Z (G ?_)
 rcases Qk hm with ⟨f, hm⟩ | ⟨f, hm⟩
 ·obtain ⟨j, g, hm⟩ := Zg hm
  refine G ?_
  refine J9 Tryz.underlying9 Z Z Z g ?_
  obtain ⟨k, h, hm⟩ := Zg hm
  refine G ?_
  refine Qhn Z Z Tryz.func119 Qnk Z QmC QmE Z Z h ?_
  cases hm
  refine G ?_
  exact fr
 refine G ?_
 cases hm
instance S86 : STy Tryz.prog 86 9 1 16 := ⟨by kernel_rfl⟩
theorem Z9 : Jl Tryz.prog 9 = some (Value.string ⟨#[]⟩) := by kernel_rfl
theorem Qnj : (Tryz.f149.name == "runtime.NumGoroutine") = false := by kernel_rfl
theorem QmB : Extern.findNext Tryz.f149 = none := by kernel_rfl
theorem QmD : Extern.find Tryz.f149 = some Extern.BytealgIndexByte.indexByte := by kernel_rfl
theorem QaV {w0 w : World} {s : PHeap} {H : List Res} {c : ByteArray} {a : Int} {r : Int} (hm : JN c a = some r) (hS : St w0 s (H) w) :
  Calls Tryz.prog 137 #[Value.string (c), Value.int .u8 (a)] w fun e w' => ∃ v, e = .returned v ∧ ((fun (f : Int) => ∃ (b : PHeap) , PHeap.le s b ∧ St w0 b (H) w' ∧ v = U f) r) := by
 unfold JN at hm
 refine Qb Tryz.func137 Z Z ?_
 obtain ⟨g, d, hm⟩ := Zg hm
 refine G ?_
 refine Qhm Z Z Tryz.func149 Qnj Z QmB QmD Z Z d ?_
 cases hm
 refine G ?_
 exact fr
theorem Qac {w0 w : World} {s : PHeap} {H : List Res} {b : ByteArray} {a : ByteArray} {r : Int} (hm : QX b a = some r) (hS : St w0 s (H) w) :
  Calls Tryz.prog 120 #[Value.string (b), Value.string (a)] w fun e w' => ∃ v, e = .returned v ∧ ((fun (o : Int) => ∃ (c : PHeap) , PHeap.le s c ∧ St w0 c (H) w' ∧ v = U o) r) := by
 unfold QX at hm
 refine Qb Tryz.func120 Z Z (G ?_)
 refine QC Tryz.underlying9 Z Z (g ?_)
 refine Zc (Qbe (Zc (Qm (M := fun f' w' => ∃ (d : PHeap) , PHeap.le s d ∧ St w0 d (H) w' ∧ Fx f' [(0, Value.string (b)), (1, Value.string (a)), (5, U ((a.size : Int))), (16, Vb (((decide ((a.size : Int) = 0)) || decide (a = b))))]) ?_ ?_)))
 ·refine G ?_
  rcases tf (decide ((a.size : Int) = 0)) with j | j
  ·refine G ?_
   exact V
  refine G ?_
  exact V
 intro p aa h
 obtain ⟨y, u, i, ⟨q, rfl⟩⟩ := h
 refine G ?_
 rcases Qk hm with ⟨k, hm⟩ | ⟨k, hm⟩
 ·cases hm
  refine G ?_
  exact fr
 refine G ?_
 rcases Qk hm with ⟨l, hm⟩ | ⟨l, hm⟩
 ·obtain ⟨ac, m, hm⟩ := Zg hm
  refine G ?_
  refine J9 Tryz.underlying9 Z Z Z m ?_
  obtain ⟨ad, n, hm⟩ := Zg hm
  refine G ?_
  refine Tc Z Z Z Z (QaV n i).r ?_
  rintro _ ab ⟨z, x, t, rfl⟩
  cases hm
  refine G ?_
  exact fr
 refine G ?_
 cases hm
theorem QdP {w0 w : World} {s : PHeap} {H : List Res} {b : ByteArray} {c : ByteArray} {r : Int} (hm : Y9 b c = some r) (hS : St w0 s (H) w) :
  Calls Tryz.prog 90 #[Value.string (b), Value.string (c)] w fun e w' => ∃ v, e = .returned v ∧ ((fun (f : Int) => ∃ (a : PHeap) , PHeap.le s a ∧ St w0 a (H) w' ∧ v = U f) r) := by
 unfold Y9 at hm
 refine Qb Tryz.func90 Z Z ?_
 obtain ⟨k, d, hm⟩ := Zg hm
 refine G ?_
 refine Tc Z Z Z Z (Qac d hS).r ?_
 rintro _ j ⟨i, h, g, rfl⟩
 cases hm
 refine G ?_
 exact fr
theorem Qcv {w0 w : World} {s : PHeap} {H : List Res} {d : ByteArray} {i : ByteArray} {j : Int} {ae : Int} {r : (List ByteArray)} (hm : KK d i j ae = some r) (hS : St w0 s (H) w) :
  Calls Tryz.prog 63 #[Value.string (d), Value.string (i), U j, U ae] w fun e w' => ∃ v, e = .returned v ∧ ((fun (aD : (List ByteArray)) => ∃ (af : PHeap) (am : Value), PHeap.le s af ∧ St w0 af (Res.arr encStr 9 am aD :: H) w' ∧ v = am) r) := by
 unfold KK at hm
 refine Qb Tryz.func63 Z Z (G ?_)
 rcases Qk hm with ⟨ax, hm⟩ | ⟨ax, hm⟩
 ·refine G ?_
  cases hm
 refine G ?_
 rcases Qk hm with ⟨x, hm⟩ | ⟨x, hm⟩
 ·refine G ?_
  cases hm
 obtain ⟨c, b, hm⟩ := Zg hm
 refine W_c Z x (Qa0 (QT (Ze (Zc (Zc (Zd (g ?_)))))))
 refine Qm (M := fun f' w' => (fun (c : Int) => ∃ (ag : PHeap) , PHeap.le s ag ∧ St w0 ag (H) w' ∧ Fx f' [(0, Value.string (d)), (1, Value.string (i)), (2, U j), (3, U c)]) c) ?_ ?_
 ·rcases Qk b with ⟨ay, b⟩ | ⟨ay, b⟩
  ·obtain ⟨bv, a2, b⟩ := Zg b
   refine G ?_
   refine Tc Z Z Z Z (QdQ a2 hS).r ?_
   rintro _ bl ⟨bf, aW, aR, rfl⟩
   cases b
   refine G ?_
   exact V
  cases b
  refine G ?_
  exact V
 intro aJ bm aq
 obtain ⟨ah, aX, au, ⟨aK, rfl⟩⟩ := aq
 refine G ?_
 refine QC Tryz.underlying9 Z Z (G ?_)
 refine QcD Z Z Z ?_
 obtain ⟨aY, a3, hm⟩ := Zg hm
 refine G ?_
 refine Qep (E := encStr) au S86.h Z9 Z Z Z Z a3 ?_
 intro k bn aS
 obtain ⟨n, ao, aV, a1, aw⟩ := Qo hm
 refine g ?_
 refine Zc (Zd (g ?_))
 refine Zc (Zd (g ?_))
 refine Zc (Qm (M := fun f' w' => ∃ s', (n = .next s' ∨ n = .brk s') ∧ (K3 fun (ak : ByteArray) (aa : Int) (ac : (List ByteArray)) => ∃ (ai : PHeap) , PHeap.le ah ai ∧ St w0 ai (Res.arr encStr 9 k ac :: H) w' ∧ Fx f' [(0, Value.string (ak)), (1, Value.string (i)), (2, U j), (3, U (IntKind.i64.wrap ((min c (IntKind.i64.wrap ((d.size : Int) + 1))) - 1))), (9, k), (10, U aa)]) s') ?_ ?_)
 ·refine G ?_
  refine Y8 (fun s' f' w' => (K3 fun (al : ByteArray) (ab : Int) (ad : (List ByteArray)) => ∃ (aj : PHeap) , PHeap.le ah aj ∧ St w0 aj (Res.arr encStr 9 k ad :: H) w' ∧ Fx f' [(0, Value.string (al)), (1, Value.string (i)), (2, U j), (3, U (IntKind.i64.wrap ((min c (IntKind.i64.wrap ((d.size : Int) + 1))) - 1))), (9, k), (10, U ab)]) s') ao ?_ ?_
  ·exact V
  intro aB aE aL bo ap a z
  obtain ⟨al, ab, ad⟩ := aB
  replace a := Js a
  obtain ⟨bg, aZ, av, ⟨aM, rfl⟩⟩ := ap
  refine G ?_
  rcases Qk a with ⟨az, a⟩ | ⟨az, a⟩
  ·obtain ⟨bw, a4, a⟩ := Zg a
   refine G ?_
   refine Tc Z Z Z Z (QdP a4 av).r ?_
   rintro _ bp ⟨bh, ba, q, rfl⟩
   refine G ?_
   rcases Qk a with ⟨a0, a⟩ | ⟨a0, a⟩
   ·cases a
    refine G ?_
    exact ⟨_, .inr (z (by intro _ h; cases h)), V⟩
   obtain ⟨aF, a5, a⟩ := Zg a
   refine G ?_
   refine Qa1 Tryz.underlying9 Z Z Z a5 ?_
   obtain ⟨bt, l, a⟩ := Zg a
   obtain ⟨aP, aG, o⟩ := q.arr_at l
   refine G ?_
   refine Qe S86.h Z o Z (Qf l).1 (Qf l).2.1 ?_
   obtain ⟨bb, a6, a⟩ := Zg a
   refine G ?_
   refine Jd q o A9.h Z Z Z Z (QbH.2 Z) a6 ?_
   intro bq aT
   refine G ?_
   refine QC Tryz.underlying9 Z Z ?_
   obtain ⟨aH, a7, a⟩ := Zg a
   refine G ?_
   refine YD Tryz.underlying9 Z Z Z a7 ?_
   cases a
   refine G ?_
   exact ⟨_, Z, V⟩
  cases a
  refine G ?_
  exact ⟨_, .inr (z (by intro _ h; cases h)), V⟩
 rintro aN br ⟨aC, y, ar⟩
 have hm := y.elim (a1 _) (aw _)
 clear y
 obtain ⟨ak, aa, ac⟩ := aC
 replace hm := Js hm
 obtain ⟨bi, bc, t, ⟨aO, rfl⟩⟩ := ar
 obtain ⟨bu, m, hm⟩ := Zg hm
 obtain ⟨aQ, aI, p⟩ := t.arr_at m
 refine G ?_
 refine Qe S86.h Z p Z (Qf m).1 (Qf m).2.1 ?_
 obtain ⟨bd, a8, hm⟩ := Zg hm
 refine G ?_
 refine Jd t p A9.h Z Z Z Z (QbH.2 Z) a8 ?_
 intro bs u
 obtain ⟨be, a9, hm⟩ := Zg hm
 refine G ?_
 refine Qaz (u) S86.h Z Z Z a9 ?_
 intro bk an
 obtain ⟨bj, aA, hm⟩ := Zg hm
 refine G ?_
 have aU := u.arr_head an (by simpa using YI aA)
 cases hm
 exact fr
theorem Qbl {w0 w : World} {s : PHeap} {H : List Res} {b : ByteArray} {c : ByteArray} {r : (List ByteArray)} (hm : Ko b c = some r) (hS : St w0 s (H) w) :
  Calls Tryz.prog 33 #[Value.string (b), Value.string (c)] w fun e w' => ∃ v, e = .returned v ∧ ((fun (g : (List ByteArray)) => ∃ (a : PHeap) (d : Value), PHeap.le s a ∧ St w0 a (Res.arr encStr 9 d g :: H) w' ∧ v = d) r) := by
 unfold Ko at hm
 refine Qb Tryz.func33 Z Z ?_
 obtain ⟨m, f, hm⟩ := Zg hm
 refine G ?_
 refine Tc Z Z Z Z (Qcv f hS).r ?_
 rintro k l ⟨j, _, i, h, rfl⟩
 cases hm
 refine G ?_
 exact fr
theorem QaW {w0 w : World} {s : PHeap} {H : List Res} {i : ByteArray} {c : ByteArray} {r : Bool} (hm : JO i c = some r) (hS : St w0 s (H) w) :
  Calls Tryz.prog 121 #[Value.string (i), Value.string (c)] w fun e w' => ∃ v, e = .returned v ∧ ((fun (m : Bool) => ∃ (d : PHeap) , PHeap.le s d ∧ St w0 d (H) w' ∧ v = Value.bool (m)) r) := by
 unfold JO at hm
 refine Qb Tryz.func121 Z Z ?_
 obtain ⟨b, a, hm⟩ := Zg hm
 refine Zc (Zd (g ?_))
 refine Zc (Qm (M := fun f' w' => (fun (b : Bool) => ∃ (h : PHeap) , PHeap.le s h ∧ St w0 h (H) w' ∧ Fx f' [(4, Vb b)]) b) ?_ ?_)
 ·refine G ?_
  refine QC Tryz.underlying9 Z Z (G ?_)
  refine QC Tryz.underlying9 Z Z (G ?_)
  rcases Qk a with ⟨k, a⟩ | ⟨k, a⟩
  ·refine G ?_
   refine QC Tryz.underlying9 Z Z ?_
   obtain ⟨n, l, a⟩ := Zg a
   refine G ?_
   refine Qa1 Tryz.underlying9 Z Z Z l ?_
   cases a
   refine G ?_
   exact V
  cases a
  refine G ?_
  exact V
 intro o x j
 obtain ⟨u, t, q, ⟨p, rfl⟩⟩ := j
 cases hm
 refine G ?_
 exact fr
theorem QaX {w0 w : World} {s : PHeap} {H : List Res} {c : ByteArray} {a : ByteArray} {r : ByteArray × Bool} (hm : JP c a = some r) (hS : St w0 s (H) w) :
  Calls Tryz.prog 91 #[Value.string (c), Value.string (a)] w fun e w' => ∃ v, e = .returned v ∧ ((QK fun (d : ByteArray) (f : Bool) => ∃ (b : PHeap) , PHeap.le s b ∧ St w0 b (H) w' ∧ v = Value.tuple #[Value.string (d), Value.bool (f)]) r) := by
 unfold JP at hm
 refine Qb Tryz.func91 Z Z ?_
 obtain ⟨o, h, hm⟩ := Zg hm
 refine G ?_
 refine Tc Z Z Z Z (QaW h hS).r ?_
 rintro _ n ⟨m, l, k, rfl⟩
 refine G ?_
 rcases Qk hm with ⟨g, hm⟩ | ⟨g, hm⟩
 ·cases hm
  refine G ?_
  refine ⟨_, KA Z, ?_⟩
  exact V
 refine G ?_
 refine QC Tryz.underlying9 Z Z ?_
 obtain ⟨j, i, hm⟩ := Zg hm
 refine G ?_
 refine YD Tryz.underlying9 Z Z Z i ?_
 cases hm
 refine G ?_
 refine ⟨_, KA Z, ?_⟩
 exact V
theorem Qad {w0 w : World} {s : PHeap} {H : List Res} {c : ByteArray} {a : ByteArray} {r : ByteArray × Bool} (hm : Jy c a = some r) (hS : St w0 s (H) w) :
  Calls Tryz.prog 64 #[Value.string (c), Value.string (a)] w fun e w' => ∃ v, e = .returned v ∧ ((QK fun (d : ByteArray) (f : Bool) => ∃ (b : PHeap) , PHeap.le s b ∧ St w0 b (H) w' ∧ v = Value.tuple #[Value.string (d), Value.bool (f)]) r) := by
 unfold Jy at hm
 refine Qb Tryz.func64 Z Z ?_
 obtain ⟨h, g, hm⟩ := Zg hm
 obtain ⟨i, j⟩ := h
 replace hm := Qy hm
 refine G ?_
 refine Tc Z Z Z Z (QaX g hS).r ?_
 rintro _ n ⟨m, l, k, rfl⟩
 cases hm
 refine G ?_
 refine ⟨_, KA Z, ?_⟩
 exact V
instance S79 : STy Tryz.prog 79 5 1 1 := ⟨by kernel_rfl⟩
instance A5 : ATy Tryz.prog 5 false 1 := ⟨by kernel_rfl⟩
theorem JU {w0 w : World} {s : PHeap} {H : List Res} {i : ByteArray} {r : Int × Bool} (hm : QL i = some r) (hS : St w0 s (H) w) :
  Calls Tryz.prog 65 #[Value.string (i)] w fun e w' => ∃ v, e = .returned v ∧ ((QK fun (a3 : Int) (a4 : Bool) => ∃ (q : PHeap) , PHeap.le s q ∧ St w0 q (H) w' ∧ v = Value.tuple #[U a3, Value.bool (a4)]) r) := by
 unfold QL at hm
 refine Qb Tryz.func65 Z Z ?_
 obtain ⟨m, a, hm⟩ := Zg hm
 refine Zc (Zd (g ?_))
 refine Zc (Zc (Qm (M := fun f' w' => (fun (m : Bool) => ∃ (t : PHeap) , PHeap.le s t ∧ St w0 t (H) w' ∧ Fx f' [(0, Value.string (i)), (24, Vb m)]) m) ?_ ?_))
 ·refine G ?_
  refine QC Tryz.underlying9 Z Z (G ?_)
  rcases Qk a with ⟨ak, a⟩ | ⟨ak, a⟩
  ·cases a
   refine G ?_
   exact V
  refine G ?_
  refine QC Tryz.underlying9 Z Z (G ?_)
  rcases Qk a with ⟨al, a⟩ | ⟨al, a⟩
  ·cases a
   refine G ?_
   exact V
  refine G ?_
  refine QC Tryz.underlying9 Z Z (G ?_)
  rcases Qk a with ⟨am, a⟩ | ⟨am, a⟩
  ·obtain ⟨bf, ay, a⟩ := Zg a
   refine G ?_
   refine J9 Tryz.underlying9 Z Z Z ay ?_
   cases a
   refine G ?_
   exact V
  cases a
  refine G ?_
  exact V
 intro a7 aZ ae
 obtain ⟨aU, aM, ah, ⟨a8, rfl⟩⟩ := ae
 refine G ?_
 rcases Qk hm with ⟨an, hm⟩ | ⟨an, hm⟩
 ·cases hm
  refine G ?_
  refine ⟨_, KA Z, ?_⟩
  exact V
 obtain ⟨l, az, hm⟩ := Zg hm
 refine G ?_
 refine Qdr ah Tryz.underlying9 Tryz.underlying79 Tryz.underlying5 Z Z az ?_
 intro u j ba aN aH aT
 obtain ⟨n, ab, au, aq, aj⟩ := Qo hm
 refine g ?_
 refine Qm (M := fun f' w' => ∃ s', (n = .next s' ∨ n = .brk s') ∧ (fun (p : Int) => ∃ (x : PHeap) , PHeap.le u x ∧ St w0 x (H) w' ∧ Fx f' [(4, U p), (26, j), (27, U ((l.length : Int)))]) s') ?_ ?_
 ·refine G ?_
  refine Q2 (fun k' s' f' w' => (fun (c : Int) => ∃ (y : PHeap) , PHeap.le u y ∧ St w0 y (H) w' ∧ Fx f' [(28, U (k' : Int)), (4, U c), (26, j), (27, U ((l.length : Int)))]) s') ab ?_ ?_ ?_
  ·exact V
  ·intro ax c a6 a9 bb aL ac b av
   obtain ⟨a2, aO, ai, ⟨aA, rfl⟩⟩ := ac
   obtain ⟨d, a0, b⟩ := Zg b
   refine G ?_
   refine Jk Z Z Z a0 ?_
   intro a5 aS aa
   refine G ?_
   refine Zw (E := (Qc .u8)) ai A5.h Z Z Z aa ?_
   intro aY a1
   obtain rfl := Qt.1 a1
   refine g ?_
   refine Zc (Zc (Qm (M := fun f' w' => ∃ (z : PHeap) , PHeap.le a2 z ∧ St w0 z (H) w' ∧ Fx f' [(4, U c), (6, Value.int .u8 (d)), (26, j), (27, U ((l.length : Int))), (28, U ((ax : Int))), (37, Vb (((decide (d < 48)) || decide (57 < d))))]) ?_ ?_))
   ·refine G ?_
    rcases tf (decide (d < 48)) with ao | ao
    ·refine G ?_
     exact V
    refine G ?_
    exact V
   intro aB bc af
   obtain ⟨aV, aP, aI, ⟨aC, rfl⟩⟩ := af
   refine G ?_
   rcases Qk b with ⟨ap, b⟩ | ⟨ap, b⟩
   ·cases b
    have ar := au _ (av (by intro _ h; cases h))
    cases ar
    refine G ?_
    refine ⟨_, KA Z, ?_⟩
    exact V
   refine G ?_
   refine Qal (by rw [Tryz.underlying5]; rfl) Tryz.underlying3 Z Z ?_
   cases b
   refine G ?_
   exact ⟨_, Z, V⟩
  intro c aD bd ad aw
  obtain ⟨aW, aQ, aJ, ⟨aE, rfl⟩⟩ := ad
  refine G ?_
  exact ⟨_, .inl aw, V⟩
 rintro aF be ⟨p, o, ag⟩
 have hm := o.elim (aq _) (aj _)
 clear o
 obtain ⟨aX, aR, aK, ⟨aG, rfl⟩⟩ := ag
 cases hm
 refine G ?_
 refine ⟨_, KA Z, ?_⟩
 exact V
theorem Qc0 {w0 w : World} {s : PHeap} {H : List Res} {a : ByteArray} {r : Int × Bool} (hm : Kg a = some r) (hS : St w0 s (H) w) :
  Calls Tryz.prog 34 #[Value.string (a)] w fun e w' => ∃ v, e = .returned v ∧ ((QK fun (k : Int) (l : Bool) => ∃ (b : PHeap) , PHeap.le s b ∧ St w0 b (H) w' ∧ v = Value.tuple #[U k, Value.bool (l)]) r) := by
 unfold Kg at hm
 refine Qb Tryz.func34 Z Z (G ?_)
 rcases Qk hm with ⟨d, hm⟩ | ⟨d, hm⟩
 ·cases hm
  refine G ?_
  refine ⟨_, KA Z, ?_⟩
  exact V
 obtain ⟨i, g, hm⟩ := Zg hm
 obtain ⟨m, n⟩ := i
 replace hm := Qy hm
 refine G ?_
 refine Tc Z Z Z Z (Qad g hS).r ?_
 rintro _ x ⟨t, p, c, rfl⟩
 refine G ?_
 rcases Qk hm with ⟨f, hm⟩ | ⟨f, hm⟩
 ·cases hm
  refine G ?_
  refine ⟨_, KA Z, ?_⟩
  exact V
 obtain ⟨j, h, hm⟩ := Zg hm
 obtain ⟨z, aa⟩ := j
 replace hm := Qy hm
 refine G ?_
 refine Tc Z Z Z Z (JU h c).r ?_
 rintro _ y ⟨u, q, o, rfl⟩
 cases hm
 refine G ?_
 refine ⟨_, KA Z, ?_⟩
 exact V
theorem QcF {w0 w : World} {s : PHeap} {H : List Res} {b : ByteArray} {c : ByteArray} {r : ByteArray × ByteArray × Bool} (hm : Ye b c = some r) (hS : St w0 s (H) w) :
  Calls Tryz.prog 92 #[Value.string (b), Value.string (c)] w fun e w' => ∃ v, e = .returned v ∧ ((K3 fun (f : ByteArray) (d : ByteArray) (g : Bool) => ∃ (a : PHeap) , PHeap.le s a ∧ St w0 a (H) w' ∧ v = Value.tuple #[Value.string (f), Value.string (d), Value.bool (g)]) r) := by
 unfold Ye at hm
 refine Qb Tryz.func92 Z Z ?_
 obtain ⟨t, k, hm⟩ := Zg hm
 refine G ?_
 refine Tc Z Z Z Z (Qac k hS).r ?_
 rintro _ q ⟨n, j, h, rfl⟩
 refine G ?_
 rcases Qk hm with ⟨i, hm⟩ | ⟨i, hm⟩
 ·refine G ?_
  refine KG (n0 := 10) (qs 0 10 .done) Yp (by kernel_rfl) (by kernel_rfl) ?_
  obtain ⟨o, l, hm⟩ := Zg hm
  refine G ?_
  refine Qa1 Tryz.underlying9 Z Z Z l ⟨Z, ?_⟩
  refine G ?_
  refine QC Tryz.underlying9 Z Z ⟨Z, ?_⟩
  obtain ⟨p, m, hm⟩ := Zg hm
  refine G ?_
  refine YD Tryz.underlying9 Z Z Z m ⟨Z, ?_⟩
  cases hm
  refine G ?_
  refine ⟨_, Qda Z, ?_⟩
  exact ⟨n, j, h.drew, (QkO Z Z Z)⟩
 cases hm
 refine G ?_
 refine ⟨_, Qda Z, ?_⟩
 exact V
theorem Qca {w0 w : World} {s : PHeap} {H : List Res} {b : ByteArray} {c : ByteArray} {r : ByteArray × ByteArray × Bool} (hm : KZ b c = some r) (hS : St w0 s (H) w) :
  Calls Tryz.prog 66 #[Value.string (b), Value.string (c)] w fun e w' => ∃ v, e = .returned v ∧ ((K3 fun (f : ByteArray) (d : ByteArray) (g : Bool) => ∃ (a : PHeap) , PHeap.le s a ∧ St w0 a (H) w' ∧ v = Value.tuple #[Value.string (f), Value.string (d), Value.bool (g)]) r) := by
 unfold KZ at hm
 refine Qb Tryz.func66 Z Z ?_
 obtain ⟨i, h, hm⟩ := Zg hm
 obtain ⟨k, j, l⟩ := i
 replace hm := Js hm
 refine G ?_
 refine Tc Z Z Z Z (QcF h hS).r ?_
 rintro _ p ⟨o, n, m, rfl⟩
 cases hm
 refine G ?_
 refine ⟨_, Qda Z, ?_⟩
 exact V
theorem QbV {w0 w : World} {s : PHeap} {H : List Res} {ai : ByteArray} {r : Bool × Nogood} (hm : JD ai = some r) (hS : St w0 s (H) w) :
  Calls Tryz.prog 35 #[Value.string (ai)] w fun e w' => ∃ v, e = .returned v ∧ ((QK fun (bp : Bool) (ap : Nogood) => ∃ (y : PHeap) (ao : Value), PHeap.le s y ∧ St w0 y (H) w' ∧ v = Value.tuple #[Value.agg #[ao, U (ap.Dist)], Value.bool (bp)] ∧ SliceRep encFact y ao ap.Facts) r) := by
 unfold JD at hm
 refine Qb Tryz.func35 Z Z (G ?_)
 refine Exec.alloc (cs := [Vn, U 0]) hS Z69 Z Z ?_
 intro b ci a1
 obtain ⟨bj, aV, hm⟩ := Zg hm
 obtain ⟨bs, ad⟩ := bj
 replace hm := Qy hm
 refine G ?_
 refine Tc Z Z Z Z (Qad aV a1).r ?_
 rintro _ cj ⟨bY, bJ, a2, rfl⟩
 obtain ⟨bk, aW, hm⟩ := Zg hm
 obtain ⟨bv, au, ae⟩ := bk
 replace hm := Js hm
 refine G ?_
 refine Tc Z Z Z Z (Qca aW a2).r ?_
 rintro _ ck ⟨bZ, bK, a3, rfl⟩
 obtain ⟨bl, aX, hm⟩ := Zg hm
 obtain ⟨j, bq⟩ := bl
 replace hm := Qy hm
 refine G ?_
 refine Tc Z Z Z Z (JU aX a3).r ?_
 rintro _ cl ⟨bg, bL, bC, rfl⟩
 refine g ?_
 refine Zc (Zc (Qm (M := fun f' w' => ∃ (aj : PHeap) , PHeap.le bg aj ∧ St w0 aj (Res.box b 69 [Vn, U 0] :: H) w' ∧ Fx f' [(2, Vq b), (7, Value.string (au)), (9, U j), (46, Vb (((!ad) || ((!ae) || !bq))))]) ?_ ?_))
 ·refine G ?_
  rcases tf (!ad) with aG | aG
  ·refine G ?_
   exact V
  refine G ?_
  rcases tf (!ae) with aH | aH
  ·refine G ?_
   exact V
  refine G ?_
  exact V
 intro b1 cm ay
 obtain ⟨ca, bM, a4, ⟨b2, rfl⟩⟩ := ay
 refine G ?_
 rcases Qk hm with ⟨aI, hm⟩ | ⟨aI, hm⟩
 ·refine G ?_
  refine Exec.build Z Qg (v := Value.agg #[Vn, U 0]) (fun _ => by kernel_rfl) (G ?_)
  refine Yo Z Z Z ?_
  intro cn a5
  cases hm
  refine G ?_
  refine ⟨_, QaF Z ⟨_, _, Z, JJ (a5) A69.h⟩ Z, ?_⟩
  exact V
 refine G ?_
 refine Exec.build Z (Qd (c := [U j]) (Qi Z Z) Qg) (v := Value.agg #[Vn, U j]) (fun _ => by kernel_rfl) (G ?_)
 refine Exec.alloc (cs := [Vn, U 0]) a4 Z69 Z Z ?_
 intro l co bD
 refine G ?_
 refine Yo Z Z Z ?_
 intro cp a6
 refine G ?_
 rcases Qk hm with ⟨aJ, hm⟩ | ⟨aJ, hm⟩
 ·refine G ?_
  refine Yo Z Z Z ?_
  intro cq a7
  cases hm
  refine G ?_
  refine ⟨_, QaF Z ⟨_, _, Z, JJ (a7) A69.h⟩ Z, ?_⟩
  exact V
 obtain ⟨c6, aY, hm⟩ := Zg hm
 refine G ?_
 refine J9 Tryz.underlying9 Z Z Z aY (G ?_)
 rcases Qk hm with ⟨aK, hm⟩ | ⟨aK, hm⟩
 ·refine G ?_
  refine Exec.build Z Qg (v := Value.agg #[Vn, U 0]) (fun _ => by kernel_rfl) (G ?_)
  refine Yo Z Z Z ?_
  intro cr a8
  cases hm
  refine G ?_
  refine ⟨_, QaF Z ⟨_, _, Z, JJ (a8) A69.h⟩ Z, ?_⟩
  exact V
 obtain ⟨bx, aZ, hm⟩ := Zg hm
 refine G ?_
 refine YD Tryz.underlying9 Z Z Z aZ ?_
 obtain ⟨o, ba, hm⟩ := Zg hm
 refine G ?_
 refine Tc Z Z Z Z (Qbl ba a6).r ?_
 rintro m ct ⟨ak, _, bN, t, rfl⟩
 refine G ?_
 refine Qv (t) S86.h Z Z ?_
 obtain ⟨ab, av, aR, aP, aF⟩ := Qo hm
 refine g ?_
 refine Qm (M := fun f' w' => ∃ s', (ab = .next s' ∨ ab = .brk s') ∧ (fun (ar : (List Fact)) => ∃ (al : PHeap) (z : Value), PHeap.le ak al ∧ St w0 al (Res.box b 69 [Vn, U 0] :: Res.box l 69 [z, U j] :: Res.arr encStr 9 m o :: Res.arr encFact 52 z ar :: H) w' ∧ Fx f' [(2, Vq b), (11, Vq l), (59, m), (60, U ((o.length : Int)))]) s') ?_ ?_
 ·refine G ?_
  refine Q2 (fun k' s' f' w' => (fun (q : (List Fact)) => ∃ (am : PHeap) (n : Value), PHeap.le ak am ∧ St w0 am (Res.box b 69 [Vn, U 0] :: Res.box l 69 [n, U j] :: Res.arr encStr 9 m o :: Res.arr encFact 52 n q :: H) w' ∧ Fx f' [(61, U (k' : Int)), (2, Vq b), (11, Vq l), (59, m), (60, U ((o.length : Int)))]) s') av ?_ ?_ ?_
  ·have bE := t.nilArr encFact 52
   exact V
  ·intro aU q bz b3 cu aO aw a aS
   obtain ⟨cb, n, bO, u, ⟨b4, rfl⟩⟩ := aw
   obtain ⟨c7, p, a⟩ := Zg a
   obtain ⟨bB, b0, ac⟩ := (u.f2).arr_at p
   refine G ?_
   refine Qe S86.h Z ac Z (Qf p).1 (Qf p).2.1 (G ?_)
   refine Qs (F := encStr) (u.f2) ac A9.h Z Z Z p (Sub.refl _) ?_
   intro ch bb
   obtain rfl := QbH.1 bb
   obtain ⟨bm, bc, a⟩ := Zg a
   obtain ⟨bw, bt, af⟩ := bm
   replace a := Js a
   refine G ?_
   refine Tc Z Z Z Z (Qca bc u).r ?_
   rintro _ cv ⟨cc, bP, a9, rfl⟩
   obtain ⟨bn, bd, a⟩ := Zg a
   obtain ⟨d, aq⟩ := bn
   replace a := Qy a
   refine G ?_
   refine Tc Z Z Z Z (JU bd a9).r ?_
   rintro _ cw ⟨cd, bQ, aA, rfl⟩
   obtain ⟨bo, be, a⟩ := Zg a
   obtain ⟨i, br⟩ := bo
   replace a := Qy a
   refine G ?_
   refine Tc Z Z Z Z (JU be aA).r ?_
   rintro _ cx ⟨bh, bR, bF, rfl⟩
   refine g ?_
   refine Zc (Zc (Qm (M := fun f' w' => ∃ (an : PHeap) , PHeap.le bh an ∧ St w0 an (Res.box b 69 [Vn, U 0] :: Res.box l 69 [n, U j] :: Res.arr encStr 9 m o :: Res.arr encFact 52 n q :: H) w' ∧ Fx f' [(2, Vq b), (11, Vq l), (17, U d), (19, U i), (59, m), (60, U ((o.length : Int))), (61, U ((aU : Int))), (90, Vb (((!af) || ((!aq) || !br))))]) ?_ ?_))
   ·refine G ?_
    rcases tf (!af) with aL | aL
    ·refine G ?_
     exact V
    refine G ?_
    rcases tf (!aq) with aM | aM
    ·refine G ?_
     exact V
    refine G ?_
    exact V
   intro b5 cy az
   obtain ⟨bi, bS, aB, ⟨b6, rfl⟩⟩ := az
   refine G ?_
   rcases Qk a with ⟨aN, a⟩ | ⟨aN, a⟩
   ·refine G ?_
    refine Exec.build Z Qg (v := Value.agg #[Vn, U 0]) (fun _ => by kernel_rfl) (G ?_)
    refine Yo Z Z Z ?_
    intro cz aC
    cases a
    have aQ := aR _ (aS (by intro _ h; cases h))
    cases aQ
    refine G ?_
    refine ⟨_, QaF Z ⟨_, _, Z, JJ (aC) A69.h⟩ Z, ?_⟩
    exact V
   refine G ?_
   refine Exec.build Z (Qd (c := [U d]) (Qi Z Z) (Qd (c := [U i]) (Qi Z Z) Qg)) (v := Value.agg #[U d, U i]) (fun _ => by kernel_rfl) (G ?_)
   refine Exec.buildSlice (Te := 52) (cs := [U d, U i]) aB Z (Qd (c := [U d, U i]) (Qi Z Z) Qg) (fun _ => by kernel_rfl) ?_
   intro bu c0 aD
   obtain ⟨bT, bf, a⟩ := Zg a
   refine G ?_
   refine Q0 (E := encFact) (ys := [(⟨d, i⟩ : Fact)]) aD.f4 S23.h Z52 Z (by decide) Z Z Z Z ⟨[U d, U i], [], Z, ⟨[U d], [U i], Z, Z, Z⟩, Z⟩ Z bf ?_
   intro aa c1 x
   refine G ?_
   refine Qp (ds := [aa]) (es := [aa, U j]) x.f2 A23.h Z Z Z (Q5 ((x.f2).f1).arr_one) (Zj ((x.f2).f1).arr_one QV) (Nat.le_of_ble_eq_true Z) Z ?_
   intro c2 aE
   cases a
   refine G ?_
   refine ⟨_, Z, ?_⟩; exact ⟨bi, aa, lq, (((aE.f1).f3).f2).f3, (Fx.mk (FxL.cons (Ja aO t.arr_le) fxl))⟩
  intro q b7 c3 ax aT
  obtain ⟨ce, n, bU, bG, ⟨b8, rfl⟩⟩ := ax
  refine G ?_
  exact ⟨_, .inl aT, V⟩
 rintro b9 c4 ⟨ar, ah, a0⟩
 have hm := ah.elim (aP _) (aF _)
 clear ah
 obtain ⟨cf, z, bV, bH, ⟨bA, rfl⟩⟩ := a0
 refine G ?_
 refine Yo Z Z Z ?_
 intro c5 ag
 cases hm
 refine G ?_
 refine ⟨_, QaF Z ⟨_, _, Z, JJ (ag) A69.h⟩ Z, ?_⟩
 obtain ⟨cg, bW, bI, bX⟩ := ag.f3.freezeArr
 exact V
theorem Qae {w0 w : World} {s : PHeap} {H : List Res} {ax : ByteArray} {r : Int × (Option Int) × Certificate} (hm : Ji ax = some r) (hS : St w0 s (H) w) :
  Calls Tryz.prog 12 #[Value.string (ax)] w fun e w' => ∃ v, e = .returned v ∧ ((K3 fun (bs : Int) (bt : (Option Int)) (az : Certificate) => ∃ (ad : PHeap) (ay : Value), PHeap.le s ad ∧ St w0 ad (H) w' ∧ v = Value.tuple #[Value.agg #[U (az.Bound), ay], U bs, Yc 39 (bt)] ∧ SliceRep encNogood ad ay az.Nogoods) r) := by
 unfold Ji at hm
 refine Qb Tryz.func12 Z Z (G ?_)
 refine Exec.alloc (cs := [U 0, Vn]) hS Z33 Z Z ?_
 intro l ca a9
 refine G ?_
 refine QC Tryz.underlying9 Z Z (G ?_)
 rcases Qk hm with ⟨aN, hm⟩ | ⟨aN, hm⟩
 ·refine G ?_
  refine Exec.build Z Qg (v := Value.agg #[U 0, Vn]) (fun _ => by kernel_rfl) (G ?_)
  refine Exec.makeInterface C39 Z Z (G ?_)
  refine Yo Z Z Z ?_
  intro cb aA
  cases hm
  refine G ?_
  refine ⟨_, Qi7 Z ⟨_, _, Z, JJ (aA) A33.h⟩ Z Z, ?_⟩
  exact V
 refine G ?_
 refine Exec.alloc (cs := [U 0, Vn]) a9 Z33 Z Z ?_
 intro m cc aB
 obtain ⟨i, ba, hm⟩ := Zg hm
 refine G ?_
 refine Tc Z Z Z Z (Qbl ba aB).r ?_
 rintro d cd ⟨ao, _, bJ, z, rfl⟩
 refine G ?_
 refine Qv (z) S86.h Z Z ?_
 obtain ⟨ai, a2, aX, aV, aM⟩ := Qo hm
 refine g ?_
 refine Qm (M := fun f' w' => ∃ s', (ai = .next s' ∨ ai = .brk s') ∧ (QK fun (a0 : Int) (a1 : (List Nogood)) => ∃ (ap : PHeap) (ae : Value), PHeap.le ao ap ∧ St w0 ap (Res.box l 33 [U 0, Vn] :: Res.box m 33 [U a0, ae] :: Res.arr encStr 9 d i :: Res.arr encNogood 69 ae a1 :: H) w' ∧ Fx f' [(2, Vq l), (5, Vq m), (6, d), (20, d), (21, U ((i.length : Int)))]) s') ?_ ?_
 ·refine G ?_
  refine Q2 (fun k' s' f' w' => (QK fun (q : Int) (y : (List Nogood)) => ∃ (aq : PHeap) (n : Value), PHeap.le ao aq ∧ St w0 aq (Res.box l 33 [U 0, Vn] :: Res.box m 33 [U q, n] :: Res.arr encStr 9 d i :: Res.arr encNogood 69 n y :: H) w' ∧ Fx f' [(22, U (k' : Int)), (2, Vq l), (5, Vq m), (6, d), (20, d), (21, U ((i.length : Int)))]) s') a2 ?_ ?_ ?_
  ·have bC := z.nilArr encNogood 69
   exact V
  ·intro j bn bw bz ce aU a3 a an
   obtain ⟨q, y⟩ := bn
   replace a := Qy a
   obtain ⟨bi, n, bK, aa, ⟨b0, rfl⟩⟩ := a3
   obtain ⟨ag, u, a⟩ := Zg a
   obtain ⟨bB, bx, aj⟩ := (aa.f2).arr_at u
   refine G ?_
   refine Qe S86.h Z aj Z (Qf u).1 (Qf u).2.1 (G ?_)
   refine Qs (F := encStr) (aa.f2) aj A9.h Z Z Z u (Sub.refl _) ?_
   intro bZ bb
   obtain rfl := QbH.1 bb
   refine G ?_
   refine Qv (aa.f2) S86.h Z Z (g ?_)
   refine Zc (Zc (Qm (M := fun f' w' => ∃ (ar : PHeap) , PHeap.le bi ar ∧ St w0 ar (Res.box l 33 [U 0, Vn] :: Res.box m 33 [U q, n] :: Res.arr encStr 9 d i :: Res.arr encNogood 69 n y :: H) w' ∧ Fx f' [(2, Vq l), (5, Vq m), (6, d), (7, U ((j : Int))), (8, Value.string (ag)), (9, Vb (decide ((j : Int) < (IntKind.i64.wrap ((i.length : Int) - 1))))), (20, d), (21, U ((i.length : Int))), (22, U ((j : Int))), (41, Vb (((!(decide ((j : Int) < (IntKind.i64.wrap ((i.length : Int) - 1))))) && ((decide (ag = (⟨#[]⟩))) && decide (0 < (j : Int))))))]) ?_ ?_))
   ·refine G ?_
    rcases tf (!(decide ((j : Int) < (IntKind.i64.wrap ((i.length : Int) - 1))))) with aO | aO
    ·refine G ?_
     rcases tf (decide (ag = (⟨#[]⟩))) with aP | aP
     ·refine G ?_
      exact V
     refine G ?_
     exact V
    refine G ?_
    exact V
   intro b1 cf a5
   obtain ⟨bj, bL, ak, ⟨b2, rfl⟩⟩ := a5
   refine G ?_
   rcases Qk a with ⟨al, a⟩ | ⟨al, a⟩
   ·cases a
    refine G ?_
    exact ⟨_, .inr (an (by intro _ h; cases h)), V⟩
   obtain ⟨aw, b, a⟩ := Zg a
   refine W_c Z al (Qa0 (QT (Ze (Zc (Zc (Zd (g ?_)))))))
   refine Qm (M := fun f' w' => (K3 fun (t : Bool) (ah : Int) (ac : (List Nogood)) => ∃ (au : PHeap) (o : Value), PHeap.le bj au ∧ St w0 au (Res.box l 33 [U 0, Vn] :: Res.box m 33 [U ah, o] :: Res.arr encStr 9 d i :: Res.arr encNogood 69 o ac :: H) w' ∧ Fx f' [(2, Vq l), (5, Vq m), (6, d), (7, U ((j : Int))), (9, Vb (decide ((j : Int) < (IntKind.i64.wrap ((i.length : Int) - 1))))), (10, Vb t), (20, d), (21, U ((i.length : Int))), (22, U ((j : Int)))]) aw) ?_ ?_
   ·rcases Qk b with ⟨aQ, b⟩ | ⟨aQ, b⟩
    ·obtain ⟨bo, bc, b⟩ := Zg b
     obtain ⟨cx, cy⟩ := bo
     replace b := Qy b
     refine G ?_
     refine Tc Z Z Z Z (Qc0 bc ak).r ?_
     rintro _ cg ⟨bU, bM, bD, rfl⟩
     refine G ?_
     refine Yo Z Z Z ?_
     intro ch bE
     cases b
     refine G ?_
     exact V
    refine G ?_
    refine Exec.alloc (cs := [Vn, U 0]) ak Z69 Z Z ?_
    intro bu ci aC
    obtain ⟨bp, bd, b⟩ := Zg b
    obtain ⟨cz, p⟩ := bp
    replace b := Qy b
    refine G ?_
    refine Tc Z Z Z Z (QbV bd aC).r ?_
    rintro _ cj ⟨bk, x, aZ, bF, rfl, bg⟩
    refine G ?_
    refine Yo Z Z Z ?_
    intro ck aD
    refine G ?_
    refine Exec.buildSlice (Te := 69) (cs := [x, U (p.Dist)]) aD Z (Qd (c := [x, U (p.Dist)]) (Qi Z Z) Qg) (fun _ => by kernel_rfl) ?_
    intro bv cl aE
    obtain ⟨bN, be, b⟩ := Zg b
    refine G ?_
    refine Q0 (E := encNogood) (ys := [p]) aE.f5 S31.h Z69 Z (by decide) Z Z Z Z ⟨[x, U (p.Dist)], [], Z, ⟨[x], [U (p.Dist)], Z, ⟨_, Z, bg⟩, Z⟩, Z⟩ Z be ?_
    intro af cm ab
    refine G ?_
    refine Qp (ds := [af]) (es := [U q, af]) ab.f3 A31.h Z Z Z (Q5 ((ab.f3).f1).arr_one) (Zj ((ab.f3).f1).arr_one QV) (Nat.le_of_ble_eq_true Z) Z ?_
    intro cn aF
    cases b
    refine G ?_
    exact ⟨bk, af, aZ, (((((aF.f2).drop).f1).f3).f2).f3, (Fx.mk)⟩
   intro b3 co a6
   obtain ⟨t, ah, ac⟩ := aw
   replace a := Js a
   obtain ⟨bl, o, bO, bG, ⟨b4, rfl⟩⟩ := a6
   refine g ?_
   refine Zc (Qm (M := fun f' w' => ∃ (av : PHeap) , PHeap.le bl av ∧ St w0 av (Res.box l 33 [U 0, Vn] :: Res.box m 33 [U ah, o] :: Res.arr encStr 9 d i :: Res.arr encNogood 69 o ac :: H) w' ∧ Fx f' [(2, Vq l), (5, Vq m), (6, d), (7, U ((j : Int))), (20, d), (21, U ((i.length : Int))), (22, U ((j : Int))), (66, Vb (((!t) || !(decide ((j : Int) < (IntKind.i64.wrap ((i.length : Int) - 1)))))))]) ?_ ?_)
   ·refine G ?_
    rcases tf (!t) with aR | aR
    ·refine G ?_
     exact V
    refine G ?_
    exact V
   intro b5 cp a7
   obtain ⟨bm, bP, aG, ⟨b6, rfl⟩⟩ := a7
   refine G ?_
   rcases Qk a with ⟨aS, a⟩ | ⟨aS, a⟩
   ·refine G ?_
    refine Exec.build Z Qg (v := Value.agg #[U 0, Vn]) (fun _ => by kernel_rfl) (G ?_)
    refine Exec.makeInterface C39 Z Z (G ?_)
    refine Yo Z Z Z ?_
    intro cq aH
    cases a
    have aW := aX _ (an (by intro _ h; cases h))
    cases aW
    refine G ?_
    refine ⟨_, Qi7 Z ⟨_, _, Z, JJ (aH) A33.h⟩ Z Z, ?_⟩
    exact V
   cases a
   refine G ?_
   refine ⟨_, Z, ?_⟩; exact ⟨bm, o, lq, (((aG.f3).f3).f3).f3, (Fx.mk (FxL.cons (Ja aU z.arr_le) fxl))⟩
  intro bq b7 cr a4 aY
  obtain ⟨q, y⟩ := bq
  obtain ⟨bV, n, bQ, bH, ⟨b8, rfl⟩⟩ := a4
  refine G ?_
  exact ⟨_, .inl aY, V⟩
 rintro b9 ct ⟨br, am, a8⟩
 have hm := am.elim (aV _) (aM _)
 clear am
 obtain ⟨a0, a1⟩ := br
 replace hm := Qy hm
 obtain ⟨bW, ae, bR, aI, ⟨bA, rfl⟩⟩ := a8
 refine G ?_
 obtain ⟨bX, bS, aJ, bh⟩ := aI.f3.freezeArr
 obtain ⟨c0, bf, hm⟩ := Zg hm
 refine G ?_
 refine Tc Z Z Z Z (Yd bf aJ bh).r ?_
 rintro _ cu ⟨bY, bT, bI, rfl⟩
 refine G ?_
 refine Qh (T := 39) Tryz.underlying35 Z Z Z (G ?_)
 rcases Qk hm with ⟨aT, hm⟩ | ⟨aT, hm⟩
 ·refine G ?_
  refine Exec.build Z Qg (v := Value.agg #[U 0, Vn]) (fun _ => by kernel_rfl) (G ?_)
  refine Yo Z Z Z ?_
  intro cv aK
  cases hm
  refine G ?_
  refine ⟨_, Qi7 Z ⟨_, _, Z, JJ (aK) A33.h⟩ Z Z, ?_⟩
  exact V
 refine G ?_
 refine Yo Z Z Z ?_
 intro cw aL
 cases hm
 refine G ?_
 refine ⟨_, Qi7 Z ⟨_, _, Z, JJ (aL) A33.h⟩ Z Z, ?_⟩
 exact V
theorem YE {w0 w : World} {s : PHeap} {H : List Res} {a : Certificate} {o : Value} {r : Certificate} (hm : J3 a = some r) (hS : St w0 s (H) w) (af : SliceRep encNogood s o a.Nogoods) :
  Calls Tryz.prog 36 #[Value.agg #[U (a.Bound), o]] w fun e w' => ∃ v, e = .returned v ∧ ((fun (ae : Certificate) => ∃ (ab : PHeap) (ad : Value), PHeap.le s ab ∧ St w0 ab (Res.sg encFact (Qc .i64) (fun (b : Nogood) => b.Facts) (fun (b : Nogood) => b.Dist) 52 69 ad ae.Nogoods :: H) w' ∧ v = Value.agg #[U (ae.Bound), ad]) r) := by
 unfold J3 at hm
 refine Qb Tryz.func36 Z Z (G ?_)
 refine Yz Z Z ?_
 intro a3 aN ak
 refine G ?_
 refine Exec.alloc (cs := [U 0, Vn]) ak Z33 Z Z ?_
 intro t aO al
 refine G ?_
 refine Exec.build Z (Qd (c := [U (a.Bound)]) (Qi Z Z) Qg) (v := Value.agg #[U (a.Bound), Vn]) (fun _ => by kernel_rfl) (G ?_)
 refine Exec.alloc (cs := [U 0, Vn]) al Z33 Z Z ?_
 intro u aP aB
 refine G ?_
 refine Yo Z Z Z ?_
 intro aQ am
 have an := am.nilSg encFact (Qc .i64) (fun (b : Nogood) => b.Facts) (fun (b : Nogood) => b.Dist) 52 69
 obtain ⟨n, ah, hm⟩ := Zg hm
 refine G ?_
 refine J8 (fun k' s' f' w' => (fun (n : (List Nogood)) => ∃ (ac : PHeap) (g : Value), PHeap.le s ac ∧ St w0 ac (Res.box t 33 [U 0, Vn] :: Res.box u 33 [U (a.Bound), g] :: Res.sg encFact (Qc .i64) (fun (b : Nogood) => b.Facts) (fun (b : Nogood) => b.Dist) 52 69 g n :: H) w' ∧ Fx f' [(12, U (k' : Int)), (2, Vq t), (3, Vq u), (10, o), (11, U ((a.Nogoods.length : Int)))]) s') ah ?_ ?_ ?_
 ·have aC := (an.f3).drop
  exact V
 ·intro aE n aI a7 aR ar ai d
  obtain ⟨aJ, g, au, x, ⟨a8, rfl⟩⟩ := ai
  obtain ⟨i, aw, d⟩ := Zg d
  refine G ?_
  refine Jk Z Z Z aw ?_
  intro a4 aH ag
  refine G ?_
  refine Zw (E := encNogood) x A69.h Z Z Z ag ?_
  intro aM ax
  obtain ⟨aL, rfl, a0⟩ := Jr.1 ax
  refine G ?_
  refine Exec.alloc (cs := [Vn, U 0]) x Z69 Z Z ?_
  intro a5 aS aD
  refine G ?_
  refine Yo Z Z Z ?_
  intro aT j
  refine G ?_
  refine KG (n0 := 10) (qs 0 4 (.q 5 (.q 6 (.e 4 [0, 1, 5, 6] (.q 7 (.e 8 [0, 1] (.e 9 [] .done))))))) Yp (by kernel_rfl) (by kernel_rfl) (G ?_)
  refine Zn ((j.drew).f2) A31.h Z Z Z ⟨Z, ?_⟩
  refine G ?_
  refine Zn (j.drew) A23.h Z Z Z ⟨Z, ?_⟩
  refine G ?_
  refine Zn (j.drew) A3.h Z Z Z ⟨Z, ?_⟩
  obtain ⟨a2, ay, d⟩ := Zg d
  refine G ?_
  refine Tc Z Z Z Z (JY ay j.drew a0).r ?_
  rintro l aU ⟨a1, _, av, z, rfl⟩
  refine ⟨agq, ?_⟩
  refine G ?_
  refine Exec.build Z (Qd (c := [l]) (Qi Z (Q5 z.arr_one)) (Qd (c := [U (i.Dist)]) (Qi Z Z) Qg)) (v := Value.agg #[l, U (i.Dist)]) (fun _ => by kernel_rfl) ⟨Z, ?_⟩
  refine G ?_
  refine Exec.buildSlice (Te := 69) (cs := [l, U (i.Dist)]) z Z (Qd (c := [l, U (i.Dist)]) (Qi Z Z) Qg) (fun _ => by kernel_rfl) ?_
  intro a6 aV ao
  refine ⟨agq, ?_⟩
  obtain ⟨aF, az, d⟩ := Zg d
  refine G ?_
  refine QeO (y := (⟨a2, i.Dist⟩ : Nogood)) ((ao.f1).f1).f5 S31.h Z69 Z (by decide) Z Z Z Z Z Z az ?_
  intro p aW m
  refine ⟨agq, ?_⟩
  refine G ?_
  refine Qp (ds := [p]) (es := [U (a.Bound), p]) m.f3 A31.h Z Z Z (Q5 ((m.f3).f1).sg_one) (Zj ((m.f3).f1).sg_one QV) (Nat.le_of_ble_eq_true Z) Z ?_
  intro aX ap
  cases d
  refine G ?_
  exact ⟨a1, p, (Zt au av), ((((ap.f2).drop).f1).f1).f2, (Fx.mk (FxL.cons (Ja ar (SliceRep.le af)) fxl))⟩
 intro a9 aY aj
 obtain ⟨aK, g, aG, aa, ⟨aA, rfl⟩⟩ := aj
 refine G ?_
 refine Qp (ds := [U (a.Bound), g]) (es := [U (a.Bound), g]) aa A33.h Z Z Z Z (Zj Z (Zj (aa.f2).sg_one QV)) (Nat.le_of_ble_eq_true Z) Z ?_
 intro aZ aq
 cases hm
 refine G ?_
 refine ⟨_, Qmq Z ⟨_, _, Z, JJ (aq) A33.h⟩, ?_⟩
 exact V
end Go.Pw
