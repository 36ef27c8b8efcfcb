/- -/
import Derived.Test.YtpjojkomdndamaaGreatDoorLC
import Derived.Test.YtpjojkomdndamaaGreatDoorMx2
import Derived.Test.YtpjojkomdndamaaGreatDoorMxPu
set_option maxRecDepth 100000
set_option maxHeartbeats 4000000
set_option linter.unusedVariables false
namespace Go.Pw
open Go.Proofs
theorem Qby : Jt Tryz.prog 38 4 = some 4 := by kernel_rfl
theorem A36 : JU Tryz.prog 36 = some (false, 1) := by kernel_rfl
theorem S36 : Je Tryz.prog 36 = some (4, 1, 1) := by kernel_rfl
theorem Z4 : JL Tryz.prog 4 = some (Value.bool false) := by kernel_rfl
theorem Qbo {w0 w : World} {s : PHeap} {H : List Res} {c : (List Int)} {b : Value} {r : (List Int)} (hm : Jr c = some r) (hS : St w0 s (Res.arr (Qa .i64) 3 b c :: H) w) :
  Calls Tryz.prog 36 #[b] w fun e w' => ∃ v, e = .returned v ∧ ((fun (t : (List Int)) => ∃ (f : PHeap) (g : Value), PHeap.le s f ∧ St w0 f (Res.arr (Qa .i64) 3 b c :: Res.arr (Qa .i64) 3 g t :: H) w' ∧ v = g) r) := by
 unfold Jr at hm
 refine Qw Tryz.func36 Z Z (Zc (Zd (O Z Z (Zo (v := Vn) Z Z (Zb (V (Zc (Zc (Zd (O Z Z (Zm (v := b) Z Z ?_)))))))))))
 obtain ⟨i, aa, x, j, o⟩ := hS.nilShape
 refine O Z Z (QbQ Tryz.underlying22 Z j Z (Zb (V ?_)))
 by_cases a : i.isNone = true
 ·have p := o a
  replace hm := (show (some []) = ((app 8 [] c).bind fun d => some d) from by simp [p, app]).trans hm
  refine QL ((Zx a)) (Zc (Zd (O Z Z (Zo (v := Vn) Z Z (Zb (V (Q0 (Qi ?_))))))))
  have y := Zu hm
  subst r
  refine ⟨_, QW Z, ?_⟩
  have k := hS.nilArr (Qa .i64) 3
  exact ⟨s, Vn, (Zv _), k.f1, Z⟩
 replace a := Zk a
 refine QB ((Zx a)) (Qq (V (Zc (Zd (O Z Z (Exec.buildSlice (Te := 3) (cs := []) hS Z Qu (fun _ => by kernel_rfl) ?_))))))
 intro u ab l
 refine O Z Z (Zm (v := b) Z Z ?_)
 have m := St.boxArr (E := (Qa .i64)) (xs := []) l rfl (by simp [maxLen])
 obtain ⟨d, q, hm⟩ := Zg hm
 refine O Z Z (Qf0 (E := (Qa .i64)) (m.f1).f1 JG Z3 Z (by decide) Z Z Z q ?_)
 intro h ac n
 refine O Z Z (Zo (v := h) Z Z (Zb (V (Q0 ?_))))
 have z := Zu hm
 subst r
 refine ⟨_, QW Z, ?_⟩
 exact ⟨s, h, (Zv _), n.f1, Z⟩
theorem QeV {w0 w : World} {s : PHeap} {H : List Res} {o : (List Fact)} {j : (List Int)} {m : Value} {c : Value} {r : Bool} (hm : Qa7 o j = some r) (hS : St w0 s (Res.arr (Qa .i64) 3 c j :: H) w) (aa : SliceRep encFact s m o) :
  Calls Tryz.prog 107 #[m, c] w fun e w' => ∃ v, e = .returned v ∧ ((fun (aP : Bool) => ∃ (am : PHeap) , PHeap.le s am ∧ St w0 am (Res.arr (Qa .i64) 3 c j :: H) w' ∧ v = Value.bool (aP)) r) := by
 unfold Qa7 at hm
 refine Qw Tryz.func107 Z Z (Zc (Zd (O Z Z (Zo (v := Vb false) Z Z (Zb (V (Zc (Zc (Zd (O Z Z (Zm (v := m) Z Z (O Z Z (Zr S23 Z Z aa (O Z Z (Zm (v := U 0) Z Z (Zb (V ?_)))))))))))))))))
 obtain ⟨ac, au, a7, a5, a3⟩ := QN hm
 refine QK (M := fun f' w' => ∃ s', (ac = .next s' ∨ ac = .brk s') ∧ (fun (_ : Unit) => ∃ (an : PHeap) , PHeap.le s an ∧ St w0 an (Res.arr (Qa .i64) 3 c j :: H) w' ∧ f' 1 = c ∧ f' 7 = m ∧ f' 8 = U ((o.length : Int))) s') ?_ ?_
 ·refine Qo (JI (fun k' s' f' w' => (fun (_ : Unit) => ∃ (ao : PHeap) , PHeap.le s ao ∧ St w0 ao (Res.arr (Qa .i64) 3 c j :: H) w' ∧ f' 1 = c ∧ f' 7 = m ∧ f' 8 = U ((o.length : Int)) ∧ f' 9 = U (k' : Int)) s') au ?_ ?_ ?_)
  ·exact ⟨s, (Zv _), hS, Z, Z, Z, Z⟩
  ·intro ai bj ad ba bo a4 av i a8
   obtain ⟨z, ab, af, q, u, x, t⟩ := av
   refine Zc (Zd (O Z Z (Zq Z t x (Zb (V (Zc (QL (Zx (decide_eq_true (by omega))) (Qq (V (Zc (Qo (Zc (Zd ?_)))))))))))))
   obtain ⟨l, aI, i⟩ := Zg i
   refine O Z Z (Qy S23 Z u t (aa.mono ab) aI ?_)
   intro aQ bf ar
   refine O Z Z (Zw (E := encFact) af A90 Z Z Z ar ?_)
   intro bm aJ
   obtain rfl := YB.1 aJ
   refine O Z Z (Exec.alloc (cs := [U 0, U 0]) af Z90 Z Z ?_)
   intro aR bp az
   refine O Z Z (Qe (ds := [U (l.Var), U (l.Val)]) (es := [U (l.Var), U (l.Val)]) az A90 Z Z Z Z (Zj Z (Zj Z Q5)) (Nat.le_of_ble_eq_true Z) Z ?_)
   intro bq a0
   refine Zb (V (Zc ?_))
   obtain ⟨n, b, i⟩ := Zg i
   refine QK (M := fun f' w' => (fun (n : Bool) => ∃ (ap : PHeap) , PHeap.le z ap ∧ St w0 ap (Res.arr (Qa .i64) 3 c j :: H) w' ∧ f' 1 = c ∧ f' 7 = m ∧ f' 8 = U ((o.length : Int)) ∧ f' 9 = U ((ai : Int)) ∧ f' 32 = Vb n) n) ?_ ?_
   ·refine KT (n0 := 20) (qs 0 20 .done) Yc (by kernel_rfl) (by kernel_rfl) ?_
    have d := a0.drew
    refine Qm Z Z (Zp YS Z Z Z ⟨Z, ?_⟩)
    refine Qm Z Z (Zn (d) A3 Z Z Z ⟨Z, ?_⟩)
    refine Qm Z Z (Zq Z Z Z ⟨Z, ?_⟩)
    refine Qm Z Z (Zm (v := Vb (decide (l.Var < 0))) Z Z ⟨Z, ?_⟩)
    rcases Qf b with ⟨g, b⟩ | ⟨g, b⟩
    ·refine Jh 16 (by rw [g]; rfl) ?_
     refine QG (Zb (V ?_))
     have aT := Zu b
     subst n
     exact ⟨z, (Zv _), d.drop, q, u, x, t, Z⟩
    replace g := Zk g
    refine QE Z Z (Zf Z (Zx g)) (Zp YS Z Z Z ⟨Z, ?_⟩)
    refine QE Z Z (Zf Z (Zx g)) (Zn (d) A3 Z Z Z ⟨Z, ?_⟩)
    refine QE Z Z (Zf Z (Zx g)) (Zm (v := c) Z q ⟨Z, ?_⟩)
    refine QE Z Z (Zf Z (Zx g)) (QP (d.f1) JG Z Z ⟨Z, ?_⟩)
    refine QE Z Z (Zf Z (Zx g)) (Exec.geq Z Z Z ⟨Z, ?_⟩)
    refine Qm Z Z (Q8 (v := Vb (decide ((j.length : Int) ≤ l.Var))) Z (Zx g) Z ⟨Z, ?_⟩)
    refine Qm Z Z (Zm (v := Vb (decide ((j.length : Int) ≤ l.Var))) Z Z ⟨Z, ?_⟩)
    rcases Qf b with ⟨a, b⟩ | ⟨a, b⟩
    ·refine Jh 9 (by rw [a]; rfl) ?_
     refine QG (Zb (V ?_))
     have aU := Zu b
     subst n
     exact ⟨z, (Zv _), d.drop, q, u, x, t, Z⟩
    replace a := Zk a
    refine QE Z Z (Zf Z (Zx a)) (Zm (v := c) Z q ⟨Z, ?_⟩)
    refine QE Z Z (Zf Z (Zx a)) (Zp YS Z Z Z ⟨Z, ?_⟩)
    refine QE Z Z (Zf Z (Zx a)) (Zn (d) A3 Z Z Z ⟨Z, ?_⟩)
    obtain ⟨aN, y, b⟩ := Zg b
    obtain ⟨be, aS, ae⟩ := (d.f1).arr_at y
    refine QE Z Z (Zf Z (Zx a)) (Qd JG Z ae Z (Qg y).1 (Qg y).2.1 ⟨Z, ?_⟩)
    refine QE Z Z (Zf Z (Zx a)) (Qt (F := (Qa .i64)) (d.f1) ae A3 Z Z Z y (Sub.refl _) ?_)
    intro bn aK
    obtain rfl := Qv.1 aK
    refine ⟨Z, ?_⟩
    refine QE Z Z (Zf Z (Zx a)) (Zp Qfa Z Z Z ⟨Z, ?_⟩)
    refine QE Z Z (Zf Z (Zx a)) (Zn (d) A3 Z Z Z ⟨Z, ?_⟩)
    refine QE Z Z (Zf Z (Zx a)) (Exec.neq Z Z Z ⟨Z, ?_⟩)
    refine Qm Z Z (Q8 (v := Vb (!decide (aN = l.Val))) Z (Zx a) Z ⟨Z, ?_⟩)
    refine QG (Zb (V ?_))
    have aV := Zu b
    subst n
    exact ⟨z, (Zv _), d.drop, q, u, x, t, Z⟩
   intro bb br ax
   obtain ⟨aq, aj, ag, aC, aD, aE, aF, ak⟩ := ax
   refine (V ?_)
   rcases Qf i with ⟨p, i⟩ | ⟨p, i⟩
   ·refine Qr ak p (Zc (Zd (O Z Z (Zo (v := Vb false) Z Z (Zb (V (Q0 (QC (Qi (Qi (QC (Qi (Qi ?_)))))))))))))
    have aW := Zu i
    subst ad
    have a6 := a7 _ (a8 (by intro _ h; cases h))
    have aX := Zu a6
    subst r
    refine ⟨_, QW Z, ?_⟩
    exact ⟨aq, (Zt ab aj), ag, Z⟩
   refine Qs ak p ?_
   replace p := Zk p
   refine Qq (Qz (V (Zd (O Z Z (Exec.add Z aF Z (O Z Z (Zm (v := U (IntKind.i64.wrap ((ai : Int) + 1))) Z Z (Zb (V ?_)))))))))
   have aY := Zu i
   subst ad
   refine ⟨_, Z, ?_⟩; exact ⟨aq, (Zt ab aj), ag, aC, aD, aE, (Eq.trans Z (QF a4 (SliceRep.le aa)))⟩
  intro bk bc bs aw a9
  obtain ⟨aL, aA, a1, aG, aH, al, aO⟩ := aw
  refine Zc (Zd (O Z Z (Zq Z aO al (Zb (V (Zc (QB (Zx (decide_eq_false (by omega))) (QJ (Qn (Qn (Q9 (V ?_))))))))))))
  refine ⟨_, .inl a9, ?_⟩; exact ⟨aL, aA, a1, aG, aH, al⟩
 rintro bd bt ⟨bl, ah, ay⟩
 have hm := ah.elim (a5 _) (a3 _)
 clear ah
 obtain ⟨aM, aB, a2, bg, bh, bi⟩ := ay
 refine (V (Zc (Zd (O Z Z (Zo (v := Vb true) Z Z (Zb (V (Q0 ?_))))))))
 have aZ := Zu hm
 subst r
 refine ⟨_, QW Z, ?_⟩
 exact ⟨aM, aB, a2, Z⟩
theorem QaJ {w0 w : World} {s : PHeap} {H : List Res} {an : (List Int)} {a : Value} {r : Nat × (List Int)} (hm : Jn an = some r) (hS : St w0 s (Res.arr (Qa .i64) 3 a an :: H) w) :
  Calls Tryz.prog 108 #[a] w fun e w' => ∃ v, e = .returned v ∧ ((J2 fun (b7 : Nat) (bl : (List Int)) => ∃ (aL : PHeap) (aR : Value), PHeap.le s aL ∧ St w0 aL (Res.arr (Qa .i64) 3 a bl :: H) w' ∧ v = aR ∧ SubOf 1 a aR 0 b7) r) := by
 unfold Jn at hm
 refine Qw Tryz.func108 Z Z (Zc (Zd (O Z Z (Zo (v := Vn) Z Z (Zb (V (Zc (Zc (Zd (O Z Z (Zm (v := a) Z Z (O Z Z (QP (hS) JG Z Z (O Z Z (Zq Z Z Z (Zb (V ?_)))))))))))))))))
 rcases Qf hm with ⟨q, hm⟩ | ⟨q, hm⟩
 ·refine Qr Z q (Zc (Zd (O Z Z (Zm (v := a) Z Z (O Z Z (Zo (v := a) Z Z (Zb (V (Q0 (Qi ?_))))))))))
  have bE := Zu hm
  subst r
  refine ⟨_, QW Z, ?_⟩
  exact ⟨s, a, (Zv _), hS, Z, (Or.inl ⟨Z, Z, hS.arr_shape⟩)⟩
 refine Qs Z q ?_
 replace q := Zk q
 refine Qq (V (Zc (Zc (Zd (O Z Z (Zo (v := U 1) Z Z (Zb (V ?_))))))))
 obtain ⟨av, aV, bj, bg, be⟩ := QN hm
 refine QK (M := fun f' w' => ∃ s', (av = .next s' ∨ av = .brk s') ∧ (fun (aB : Int) => ∃ (aM : PHeap) , PHeap.le s aM ∧ St w0 aM (Res.arr (Qa .i64) 3 a an :: H) w' ∧ f' 0 = a ∧ f' 3 = U aB) s') ?_ ?_
 ·refine Qo (YG (fun s' f' w' => (fun (j : Int) => ∃ (aN : PHeap) , PHeap.le s aN ∧ St w0 aN (Res.arr (Qa .i64) 3 a an :: H) w' ∧ f' 0 = a ∧ f' 3 = U j) s') aV ?_ ?_)
  ·exact ⟨s, (Zv _), hS, Z, Z⟩
  intro j ap bO cn aX b aA
  obtain ⟨ab, ar, aq, m, n⟩ := aX
  refine Zc (Zc (Zd (O Z Z (Zm (v := U j) Z n (O Z Z (Zm (v := a) Z m (O Z Z (QP (aq) JG Z Z (O Z Z (Zq Z Z Z (Zb (V ?_))))))))))))
  rcases Qf b with ⟨t, b⟩ | ⟨t, b⟩
  ·refine Qr Z t (Qq (V (Zc (Qo (Zc (KT (n0 := 10) (qs 0 10 .done) Yc (by kernel_rfl) (by kernel_rfl) ?_))))))
   have l := aq.drew
   refine Qm Z Z (Zm (v := a) Z m ⟨Z, ?_⟩)
   refine Qm Z Z (Zm (v := U j) Z n ⟨Z, ?_⟩)
   obtain ⟨cu, ag, b⟩ := Zg b
   obtain ⟨bT, b8, ay⟩ := l.arr_at ag
   refine Qm Z Z (Qd JG Z ay Z (Qg ag).1 (Qg ag).2.1 ⟨Z, ?_⟩)
   refine Qm Z Z (Qt (F := (Qa .i64)) (l) ay A3 Z Z Z ag (Sub.refl _) ?_)
   intro ch bu
   obtain rfl := Qv.1 bu
   refine ⟨Z, ?_⟩
   refine Qm Z Z (Zm (v := a) Z m ⟨Z, ?_⟩)
   refine Qm Z Z (Zm (v := U j) Z n ⟨Z, ?_⟩)
   refine Qm Z Z (Exec.sub Z Z Z ⟨Z, ?_⟩)
   obtain ⟨cv, ah, b⟩ := Zg b
   obtain ⟨bU, b9, az⟩ := l.arr_at ah
   refine Qm Z Z (Qd JG Z az Z (Qg ah).1 (Qg ah).2.1 ⟨Z, ?_⟩)
   refine Qm Z Z (Qt (F := (Qa .i64)) (l) az A3 Z Z Z ah (Sub.refl _) ?_)
   intro ci bv
   obtain rfl := Qv.1 bv
   refine ⟨Z, ?_⟩
   refine Qm Z Z (Exec.eql Z Z Z ⟨Z, ?_⟩)
   refine QG (Zb (V ?_))
   rcases Qf b with ⟨u, b⟩ | ⟨u, b⟩
   ·refine Qr Z u (Zc (Zd (O Z Z (Zm (v := a) Z m (O Z Z (Zm (v := U j) Z n ?_))))))
    obtain ⟨cb, ai, b⟩ := Zg b
    refine O Z Z (Yf (l) JG Z Z Z ai ?_)
    intro k ac
    refine O Z Z (Zo (v := k) Z Z (Zb (V (Zc (Zc (Zd (O Z Z (Zo (v := U 1) Z Z (Zb (V ?_))))))))))
    obtain ⟨aw, aW, bZ, bh, bf⟩ := QN b
    refine QK (M := fun f' w' => ∃ s', (aw = .next s' ∨ aw = .brk s') ∧ (un3 fun (ad : Int) (aC : Int) (aE : (List Int)) => ∃ (aO : PHeap) , PHeap.le ab aO ∧ St w0 aO (Res.arr (Qa .i64) 3 a aE :: H) w' ∧ f' 0 = a ∧ f' 3 = U ad ∧ f' 4 = k ∧ f' 5 = U aC) s') ?_ ?_
    ·refine Qo (YG (fun s' f' w' => (un3 fun (aa : Int) (i : Int) (aF : (List Int)) => ∃ (aP : PHeap) , PHeap.le ab aP ∧ St w0 aP (Res.arr (Qa .i64) 3 a aF :: H) w' ∧ f' 0 = a ∧ f' 3 = U aa ∧ f' 4 = k ∧ f' 5 = U i) s') aW ?_ ?_)
     ·exact ⟨ab, (Zv _), l, m, n, Z, Z⟩
     intro b5 ax bP co aY c bk
     obtain ⟨aa, i, aF⟩ := b5
     replace c := Qbt c
     obtain ⟨am, aG, a4, ae, af, o, p⟩ := aY
     refine Zc (Zc (Zd (O Z Z (Zm (v := U i) Z p (O Z Z (Zm (v := k) Z o (O Z Z (Qa5 JG ac Z Z (O Z Z (Zq Z Z Z (Zb (V ?_))))))))))))
     rcases Qf c with ⟨x, c⟩ | ⟨x, c⟩
     ·refine Qr Z x (Qq (V (Zc (Qo (Zc (KT (n0 := 10) (qs 0 10 .done) Yc (by kernel_rfl) (by kernel_rfl) ?_))))))
      have g := a4.drew
      refine Qm Z Z (Zm (v := k) Z o ⟨Z, ?_⟩)
      refine Qm Z Z (Zm (v := U i) Z p ⟨Z, ?_⟩)
      obtain ⟨cw, aj, c⟩ := Zg c
      obtain ⟨bV, bA, a0⟩ := g.arr_at (QR aj).2.2
      refine Qm Z Z (Kb JG (KU ai).1 ac a0 Z Z Z (QR aj).1 (QR aj).2.1 ⟨Z, ?_⟩)
      refine Qm Z Z (Qt (F := (Qa .i64)) (g) a0 A3 Z Z Z (QR aj).2.2 (Sub.refl _) ?_)
      intro cj bw
      obtain rfl := Qv.1 bw
      refine ⟨Z, ?_⟩
      refine Qm Z Z (Zm (v := k) Z o ⟨Z, ?_⟩)
      refine Qm Z Z (Zm (v := U i) Z p ⟨Z, ?_⟩)
      refine Qm Z Z (Exec.sub Z Z Z ⟨Z, ?_⟩)
      obtain ⟨cx, ak, c⟩ := Zg c
      obtain ⟨bW, bB, a1⟩ := g.arr_at (QR ak).2.2
      refine Qm Z Z (Kb JG (KU ai).1 ac a1 Z Z Z (QR ak).1 (QR ak).2.1 ⟨Z, ?_⟩)
      refine Qm Z Z (Qt (F := (Qa .i64)) (g) a1 A3 Z Z Z (QR ak).2.2 (Sub.refl _) ?_)
      intro ck bx
      obtain rfl := Qv.1 bx
      refine ⟨Z, ?_⟩
      refine Qm Z Z (Exec.neq Z Z Z ⟨Z, ?_⟩)
      refine QG (Zb (V ?_))
      obtain ⟨ao, d, c⟩ := Zg c
      refine QK (M := fun f' w' => (J2 fun (aD : Int) (aH : (List Int)) => ∃ (aQ : PHeap) , PHeap.le am aQ ∧ St w0 aQ (Res.arr (Qa .i64) 3 a aH :: H) w' ∧ f' 0 = a ∧ f' 3 = U aD ∧ f' 4 = k ∧ f' 5 = U i) ao) ?_ ?_
      ·rcases Qf d with ⟨z, d⟩ | ⟨z, d⟩
       ·refine Qr Z z (Zc (Zd (O Z Z (Zm (v := a) Z ae (O Z Z (Zm (v := U aa) Z af (O Z Z (Zm (v := k) Z o (O Z Z (Zm (v := U i) Z p ?_))))))))))
        obtain ⟨cy, al, d⟩ := Zg d
        obtain ⟨bX, bC, a2⟩ := g.arr_at (QR al).2.2
        refine O Z Z (Kb JG (KU ai).1 ac a2 Z Z Z (QR al).1 (QR al).2.1 (O Z Z (Qt (F := (Qa .i64)) (g) a2 A3 Z Z Z (QR al).2.2 (Sub.refl _) ?_)))
        intro cl bz
        obtain rfl := Qv.1 bz
        obtain ⟨cz, au, d⟩ := Zg d
        obtain ⟨bY, bD, a3⟩ := g.arr_at au
        refine O Z Z (Qd JG Z a3 Z (Qg au).1 (Qg au).2.1 ?_)
        obtain ⟨ca, b0, d⟩ := Zg d
        refine O Z Z (QQ g a3 A3 Z Z Z Z (Qv.2 Z) b0 ?_)
        intro cp bc
        refine Zb (V (Zd (O Z Z (Zm (v := U aa) Z af (O Z Z (Exec.add Z Z Z (O Z Z (Zo (v := U (IntKind.i64.wrap (aa + 1))) Z Z (Zb (V ?_))))))))))
        have bF := Zu d
        subst ao
        exact ⟨am, (Zv _), bc, ae, Z, o, p⟩
       refine Qs Z z ?_
       replace z := Zk z
       refine Qq (V ?_)
       have bG := Zu d
       subst ao
       exact ⟨am, (Zv _), g, ae, af, o, p⟩
      intro bQ cq aZ
      obtain ⟨aD, aH⟩ := ao
      replace c := Jp c
      obtain ⟨b2, bm, bd, bp, bq, br, bs⟩ := aZ
      refine (Qz (V (Zd (O Z Z (Zm (v := U i) Z bs (O Z Z (Exec.add Z Z Z (O Z Z (Zo (v := U (IntKind.i64.wrap (i + 1))) Z Z (Zb (V ?_)))))))))))
      have bH := Zu c
      subst ax
      refine ⟨_, Z, ?_⟩; exact ⟨b2, (Zt aG bm), bd, bp, bq, br, Z⟩
     refine Qs Z x ?_
     replace x := Zk x
     refine QJ (Qn (Qn (Q9 (V ?_))))
     have bI := Zu c
     subst ax
     refine ⟨_, .inr (bk (by intro _ h; cases h)), ?_⟩; exact ⟨am, aG, a4, ae, af, o, p⟩
    rintro bR cr ⟨b6, a8, ba⟩
    have b := a8.elim (bh _) (bf _)
    clear a8
    obtain ⟨ad, aC, aE⟩ := b6
    replace b := Qbt b
    obtain ⟨b3, bn, a5, aI, aJ, ce, cf⟩ := ba
    refine (V (Zc (Zd (O Z Z (Zm (v := a) Z aI (O Z Z (Zm (v := U ad) Z aJ ?_)))))))
    obtain ⟨cc, aK, b⟩ := Zg b
    refine O Z Z (Yf (a5) JG Z Z Z aK ?_)
    intro cm aT
    refine O Z Z (Qa9 (E := (Qa .i64)) (y := 0) a5 aT (KU aK).2.2.2.2.2 JG Z3 Z Z Z ?_)
    intro cs a6
    refine Zb (V (Zc (Zd (O Z Z (Zm (v := a) Z aI (O Z Z (Zm (v := U ad) Z aJ ?_)))))))
    obtain ⟨cd, b1, b⟩ := Zg b
    refine O Z Z (Qcc (a6) JG Z Z Z b1 ?_)
    intro aS aU
    refine O Z Z (Zo (v := aS) Z Z (Zb (V (Q0 (QC (Qi (Qi (QC (Qi (Qi ?_))))))))))
    have bJ := Zu b
    subst ap
    have bi := bj _ (aA (by intro _ h; cases h))
    have bK := Zu bi
    subst r
    refine ⟨_, QW Z, ?_⟩
    exact ⟨b3, aS, (Zt ar bn), a6, Z, aU⟩
   refine Qs Z u ?_
   replace u := Zk u
   refine Qq (Qz (V (Zd (O Z Z (Zm (v := U j) Z n (O Z Z (Exec.add Z Z Z (O Z Z (Zo (v := U (IntKind.i64.wrap (j + 1))) Z Z (Zb (V ?_)))))))))))
   have bL := Zu b
   subst ap
   refine ⟨_, Z, ?_⟩; exact ⟨ab, ar, l, m, Z⟩
  refine Qs Z t ?_
  replace t := Zk t
  refine QJ (Qn (Qn (Q9 (V ?_))))
  have bM := Zu b
  subst ap
  refine ⟨_, .inr (aA (by intro _ h; cases h)), ?_⟩; exact ⟨ab, ar, aq, m, n⟩
 rintro bS ct ⟨aB, a9, bb⟩
 have hm := a9.elim (bg _) (be _)
 clear a9
 obtain ⟨b4, bo, a7, bt, cg⟩ := bb
 refine (V (Zc (Zd (O Z Z (Zm (v := a) Z bt (O Z Z (Zo (v := a) Z Z (Zb (V (Q0 ?_))))))))))
 have bN := Zu hm
 subst r
 refine ⟨_, QW Z, ?_⟩
 exact ⟨b4, a, bo, a7, Z, (Or.inl ⟨Z, Z, a7.arr_shape⟩)⟩
theorem QdE {w0 w : World} {s : PHeap} {H : List Res} {a2 : Task} {aQ : Int} {cd : (List Int)} {bp : (List Int)} {aG : Int} {n : Value} {o : Value} {p : Value} {q : Value} {y : Value} {ad : Value} {r : (List Int)} (hm : Kn a2 aQ cd bp aG = some r) (hS : St w0 s (H) w) (aq : SliceRep (Qa .i64) s n a2.Vars) (a4 : SliceRep (Qa .i64) s o a2.Init) (a5 : SliceRep encFact s p a2.Goal) (ar : SliceRep encOp s q a2.Ops) (a6 : SliceRep (Qa .i64) s y cd) (bj : SliceRep (Qa .i64) s ad bp) :
  Calls Tryz.prog 81 #[Value.agg #[n, o, p, q], U aQ, y, ad, U aG] w fun e w' => ∃ v, e = .returned v ∧ ((fun (ez : (List Int)) => ∃ (bc : PHeap) (cn : Value), PHeap.le s bc ∧ St w0 bc (H) w' ∧ v = cn ∧ SliceRep (Qa .i64) bc cn ez) r) := by
 unfold Kn at hm
 refine Qw Tryz.func81 Z Z (Zc (Zd (O Z Z (Exec.box (cs := [n, o, p, q]) hS Z Z Z ?_))))
 intro u f9 aH
 refine O Z Z (Zo (v := Vn) Z Z (Zb (V (Zc (Zd (O Z Z (Zp Qbz Z Z Z (O Z Z (Zn (aH) A24 Z Z Z (O Z Z (Zm (v := U aQ) Z Z ?_)))))))))))
 obtain ⟨b, dH, hm⟩ := Zg hm
 refine O Z Z (Qy S24 Z Z Z ar dH ?_)
 intro e2 fe cq
 refine O Z Z (Zw (E := encOp) aH A60 Z Z Z cq ?_)
 intro f0 dI
 obtain ⟨ac, z, rfl, a1, aA⟩ := YH.1 dI
 refine O Z Z (Exec.alloc (cs := [Value.string (⟨#[]⟩), U 0, Vn, Vn]) aH Z60 Z Z ?_)
 intro x fA c6
 refine O Z Z (Qe (ds := [Value.string (b.Name), U (b.Cost), ac, z]) (es := [Value.string (b.Name), U (b.Cost), ac, z]) c6 A60 Z Z Z Z (Zj Z (Zj Z (Zj a1.one (Zj aA.one Q5)))) (Nat.le_of_ble_eq_true Z) Z ?_)
 intro fB bq
 refine Zb (V (Zc (Zd (O Z Z (Zp Yu Z Z Z (O Z Z (Zn (bq.f1) A22 Z Z Z (O Z Z (Zr JG Z Z aq ?_)))))))))
 obtain ⟨eX, dJ, hm⟩ := Zg hm
 refine O Z Z (Kr (E := (Qa .i64)) bq JG Z3 Z Z Z Z dJ ?_)
 intro i fC br
 refine O Z Z (Zo (v := i) Z Z (Zb (V (Zc (Zd (O Z Z (Ql (ds := [n, o, p, q]) (br.f2) A26 Z Z Z (O Z Z (Zm (v := y) Z Z (O Z Z (Zm (v := i) Z Z (O Z Z (Zm (v := U aG) Z Z ?_)))))))))))))
 obtain ⟨eY, dK, hm⟩ := Zg hm
 refine O Z Z (Tc Z Z Z (Zi Z (Zi Z (Zi Z (Zi Z Qk)))) (QhC dK br aq a4 a5 ar a6).r ?_)
 rintro _ fD ⟨bd, a, bs, rfl⟩
 refine Zb (V (Zc (Zc (Zd (O Z Z (Zp QjO Z Z Z (O Z Z (Zn (bs.f1) A23 Z Z Z (O Z Z (Zr S23 Z Z (a1.mono a) (O Z Z (Zm (v := U 0) Z Z (Zb (V ?_))))))))))))))
 obtain ⟨bl, cu, cX, cV, cS⟩ := QN hm
 refine QK (M := fun f' w' => ∃ s', (bl = .next s' ∨ bl = .brk s') ∧ (fun (b5 : (List Int)) => ∃ (cf : PHeap) , PHeap.le bd cf ∧ St w0 cf (Res.box u 26 [n, o, p, q] :: Res.box x 60 [Value.string (b.Name), U (b.Cost), ac, z] :: Res.arr (Qa .i64) 3 i b5 :: H) w' ∧ f' 2 = y ∧ f' 3 = ad ∧ f' 5 = Vq u ∧ f' 11 = Vq x ∧ f' 12 = i ∧ f' 37 = ac ∧ f' 38 = U ((b.Pre.length : Int))) s') ?_ ?_
 ·refine Qo (JI (fun k' s' f' w' => (fun (aK : (List Int)) => ∃ (cg : PHeap) , PHeap.le bd cg ∧ St w0 cg (Res.box u 26 [n, o, p, q] :: Res.box x 60 [Value.string (b.Name), U (b.Cost), ac, z] :: Res.arr (Qa .i64) 3 i aK :: H) w' ∧ f' 2 = y ∧ f' 3 = ad ∧ f' 5 = Vq u ∧ f' 11 = Vq x ∧ f' 12 = i ∧ f' 37 = ac ∧ f' 38 = U ((b.Pre.length : Int)) ∧ f' 39 = U (k' : Int)) s') cu ?_ ?_ ?_)
  ·have c7 := bs.f1
   exact ⟨bd, (Zv _), c7.f2, Z, Z, Z, Z, Z, Z, Z, Z⟩
  ·intro b4 aK aF eL fE b3 cx g cY
   obtain ⟨fp, az, bt, aR, b6, b7, b8, a8, aS, aT, aB⟩ := cx
   refine Zc (Zd (O Z Z (Zq Z aB aT (Zb (V (Zc (QL (Zx (decide_eq_true (by omega))) (Qq (V (Zc (Qo (Zc (Zd ?_)))))))))))))
   obtain ⟨aC, dL, g⟩ := Zg g
   refine O Z Z (Qy S23 Z aS aB (a1.mono (Zt a az)) dL ?_)
   intro e3 ff cr
   refine O Z Z (Zw (E := encFact) bt A90 Z Z Z cr ?_)
   intro f6 dM
   obtain rfl := YB.1 dM
   refine O Z Z (Exec.alloc (cs := [U 0, U 0]) bt Z90 Z Z ?_)
   intro e4 fF c8
   refine O Z Z (Qe (ds := [U (aC.Var), U (aC.Val)]) (es := [U (aC.Var), U (aC.Val)]) c8 A90 Z Z Z Z (Zj Z (Zj Z Q5)) (Nat.le_of_ble_eq_true Z) Z ?_)
   intro fG bu
   refine Zb (V (Zc (Zd (O Z Z (Zm (v := y) Z aR (O Z Z (Zp YS Z Z Z (O Z Z (Zn (bu) A3 Z Z Z ?_)))))))))
   obtain ⟨gi, dN, g⟩ := Zg g
   refine O Z Z (Tc Z Z Z (Zi Z (Zi Z Qk)) (J3 dN bu (a6.mono (Zt a az))).r ?_)
   rintro _ fH ⟨be, aL, au, rfl⟩
   refine Zb (V ?_)
   rcases Qf g with ⟨aw, g⟩ | ⟨aw, g⟩
   ·refine Qr Z aw (Zc (KT (n0 := 8) (qs 0 8 .done) Yc (by kernel_rfl) (by kernel_rfl) ?_))
    have al := au.drew
    refine Qm Z Z (Zm (v := i) Z a8 ⟨Z, ?_⟩)
    refine Qm Z Z (Zp YS Z Z Z ⟨Z, ?_⟩)
    refine Qm Z Z (Zn (al) A3 Z Z Z ⟨Z, ?_⟩)
    obtain ⟨gf, a9, g⟩ := Zg g
    obtain ⟨eU, e7, bm⟩ := (al.f3).arr_at a9
    refine Qm Z Z (Qd JG Z bm Z (Qg a9).1 (Qg a9).2.1 ⟨Z, ?_⟩)
    refine Qm Z Z (Qt (F := (Qa .i64)) (al.f3) bm A3 Z Z Z a9 (Sub.refl _) ?_)
    intro f7 dO
    obtain rfl := Qv.1 dO
    refine ⟨Z, ?_⟩
    refine Qm Z Z (Zp Qfa Z Z Z ⟨Z, ?_⟩)
    refine Qm Z Z (Zn (al) A3 Z Z Z ⟨Z, ?_⟩)
    refine Qm Z Z (Exec.neq Z Z Z ⟨Z, ?_⟩)
    refine QG (Zb (V ?_))
    rcases Qf g with ⟨ax, g⟩ | ⟨ax, g⟩
    ·refine Qr Z ax (Zc (Zd (O Z Z (Zo (v := Vn) Z Z (Zb (V (Q0 (QC (Qi (Qi (QC (Qi (Qi ?_)))))))))))))
     have eA := Zu g
     subst aF
     have cW := cX _ (cY (by intro _ h; cases h))
     have eB := Zu cW
     subst r
     refine ⟨_, QW Z, ?_⟩
     exact ⟨be, Vn, (Zt (Zt a az) aL), (((al.drop).drop).drop).drop, Z, (SliceRep.nil _ _)⟩
    refine Qs Z ax ?_
    replace ax := Zk ax
    refine Qq (Qz (V (Zd (O Z Z (Exec.add Z aB Z (O Z Z (Zm (v := U (IntKind.i64.wrap ((b4 : Int) + 1))) Z Z (Zb (V ?_)))))))))
    have eC := Zu g
    subst aF
    refine ⟨_, Z, ?_⟩; exact ⟨be, (Zt az aL), (((al.drop).f2).f2).f2, aR, b6, b7, b8, a8, aS, aT, (Eq.trans Z (QF b3 (SliceRep.le (a1.mono a))))⟩
   refine Qs Z aw ?_
   replace aw := Zk aw
   refine Zd (O Z Z (Zm (v := i) Z a8 (O Z Z (Zp YS Z Z Z (O Z Z (Zn (au) A3 Z Z Z (O Z Z (Zp Qfa Z Z Z (O Z Z (Zn (au) A3 Z Z Z ?_))))))))))
   obtain ⟨gg, ba, g⟩ := Zg g
   obtain ⟨eV, e8, bn⟩ := (au.f3).arr_at ba
   refine O Z Z (Qd JG Z bn Z (Qg ba).1 (Qg ba).2.1 ?_)
   obtain ⟨eZ, dP, g⟩ := Zg g
   refine O Z Z (QQ au.f3 bn A3 Z Z Z Z (Qv.2 Z) dP ?_)
   intro fI c9
   refine Zb (Qz (V (Zd (O Z Z (Exec.add Z aB Z (O Z Z (Zm (v := U (IntKind.i64.wrap ((b4 : Int) + 1))) Z Z (Zb (V ?_)))))))))
   have eD := Zu g
   subst aF
   refine ⟨_, Z, ?_⟩; exact ⟨be, (Zt az aL), (((c9.f1).drop).f2).f2, aR, b6, b7, b8, a8, aS, aT, (Eq.trans Z (QF b3 (SliceRep.le (a1.mono a))))⟩
  intro aK eM fJ cy cZ
  obtain ⟨eh, da, cA, dj, dk, dl, dm, dn, dp, b9, ew⟩ := cy
  refine Zc (Zd (O Z Z (Zq Z ew b9 (Zb (V (Zc (QB (Zx (decide_eq_false (by omega))) (QJ (Qn (Qn (Q9 (V ?_))))))))))))
  refine ⟨_, .inl cZ, ?_⟩; exact ⟨eh, da, ((cA.f2).f2).f2, dj, dk, dl, dm, dn, dp, b9⟩
 rintro eN fK ⟨b5, b2, c3⟩
 have hm := b2.elim (cV _) (cS _)
 clear b2
 obtain ⟨fq, d, bv, dq, bA, bB, dr, dt, fh, fi⟩ := c3
 refine (V (Zc (Zd (O Z Z (Ql (ds := [n, o, p, q]) (bv) A26 Z bB Z (O Z Z (Zm (v := ad) Z bA ?_)))))))
 obtain ⟨er, dQ, hm⟩ := Zg hm
 obtain ⟨ai, bi⟩ := er
 replace hm := Jp hm
 refine O Z Z (Tc Z Z Z (Zi Z (Zi Z Qk)) (QaB dQ bv (aq.mono (Zt a d)) (a4.mono (Zt a d)) (a5.mono (Zt a d)) (ar.mono (Zt a d)) (bj.mono (Zt a d))).r ?_)
 rintro _ fL ⟨ch, j, cB, rfl⟩
 refine O Z Z (Zm (v := Value.tuple #[U ai, Vb bi]) Z Z (O Z Z (Exec.extract (v := U ai) Z Z Z (O Z Z (Exec.extract (v := Vb bi) Z Z Z (O Z Z (Zo (v := U ai) Z Z (O Z Z (Zo (v := Vb bi) Z Z (Zb (V (Zc (Zd (O Z Z (Zo (v := Vn) Z Z (Zb (V (Zc (Zc (Zd (O Z Z (Zm (v := U ai) Z Z (O Z Z (Zm (v := U 0) Z Z (Zb (V ?_))))))))))))))))))))))))))
 obtain ⟨fy, dR, hm⟩ := Zg hm
 obtain ⟨et, cv, hm⟩ := Zg hm
 refine Qo (JZ (fun k' s' f' w' => (J2 fun (ao : (List Int)) (aM : (List Int)) => ∃ (ci : PHeap) (t : Value), PHeap.le ch ci ∧ St w0 ci (Res.box u 26 [n, o, p, q] :: Res.box x 60 [Value.string (b.Name), U (b.Cost), ac, z] :: Res.arr (Qa .i64) 3 i aM :: Res.arr (Qa .i64) 3 t ao :: H) w' ∧ f' 2 = y ∧ f' 3 = ad ∧ f' 5 = Vq u ∧ f' 11 = Vq x ∧ f' 12 = i ∧ f' 17 = t ∧ f' 68 = U ai ∧ f' 69 = U (k' : Int)) s') cv ?_ ?_ ?_)
 ·have cC := cB.nilArr (Qa .i64) 3
  exact ⟨ch, Vn, (Zv _), ((cC.f3).f3).f3, dq, bA, bB, dr, dt, Z, Z, Z⟩
 ·intro ak eu ei eO fM cT cz m
  obtain ⟨ao, aM⟩ := eu
  replace m := Jp m
  obtain ⟨fr, t, l, bw, du, bC, bD, bE, aU, dv, bF, bh⟩ := cz
  refine Zc (Zd (O Z Z (Zq Z bh bF (Zb (V (Zc (QL (Zx (decide_eq_true (by omega))) (Qq (V (Zc (Qo (Zc (Zd (O Z Z (Zm (v := U ((ak : Int))) Z bh (O Z Z (Zo (v := U ((ak : Int))) Z Z (Zb (V (Zc (Zd (O Z Z (Ql (ds := [n, o, p, q]) (bw) A26 Z bD Z (O Z Z (Zm (v := ad) Z bC (O Z Z (Zm (v := i) Z aU (O Z Z (Zm (v := U ((ak : Int))) Z Z ?_)))))))))))))))))))))))))))))
  obtain ⟨aN, dS, m⟩ := Zg m
  refine O Z Z (Tc Z Z Z (Zi Z (Zi Z (Zi Z (Zi Z Qk)))) (QhC dS bw.f2 (aq.mono (Zt (Zt (Zt a d) j) l)) (a4.mono (Zt (Zt (Zt a d) j) l)) (a5.mono (Zt (Zt (Zt a d) j) l)) (ar.mono (Zt (Zt (Zt a d) j) l)) (bj.mono (Zt (Zt (Zt a d) j) l))).r ?_)
  rintro _ fN ⟨fs, aa, cD, rfl⟩
  refine Zb (V (Zc (Zd (O Z Z (Zm (v := i) Z aU ?_)))))
  obtain ⟨gj, dT, m⟩ := Zg m
  refine O Z Z (Tc Z Z Z (Zi Z Qk) (Qbo dT cD).r ?_)
  rintro ah fO ⟨cj, _, ab, bx, rfl⟩
  refine O Z Z (Zo (v := ah) Z Z (Zb (V (Zc (Zc (Zd (O Z Z (Zp Qfb Z bE Z (O Z Z (Zn (bx.f3) A58 Z Z Z (O Z Z (Zr S58 Z Z (aA.mono (Zt (Zt (Zt (Zt (Zt a d) j) l) aa) ab)) (O Z Z (Zm (v := U 0) Z Z (Zb (V ?_))))))))))))))))
  obtain ⟨a7, cw, m⟩ := Zg m
  refine Qo (JZ (fun k' s' f' w' => (fun (a7 : (List Int)) => ∃ (ck : PHeap) , PHeap.le cj ck ∧ St w0 ck (Res.box u 26 [n, o, p, q] :: Res.box x 60 [Value.string (b.Name), U (b.Cost), ac, z] :: Res.arr (Qa .i64) 3 i aN :: Res.arr (Qa .i64) 3 t ao :: Res.arr (Qa .i64) 3 ah a7 :: H) w' ∧ f' 2 = y ∧ f' 3 = ad ∧ f' 5 = Vq u ∧ f' 11 = Vq x ∧ f' 12 = i ∧ f' 17 = t ∧ f' 19 = ah ∧ f' 68 = U ai ∧ f' 69 = U ((ak : Int)) ∧ f' 80 = z ∧ f' 81 = U ((b.Effs.length : Int)) ∧ f' 82 = U (k' : Int)) s') cw ?_ ?_ ?_)
  ·have cE := bx.f1
   exact ⟨cj, (Zv _), (((cE.f4).f2).f4).f4, du, bC, bD, bE, aU, dv, Z, bF, bh, Z, Z, Z⟩
  ·intro aJ a7 ej eP fP cU c0 aj
   obtain ⟨ek, aO, bz, aV, bG, bH, bI, aW, bJ, bK, bL, bM, aX, aY, aD⟩ := c0
   refine Zc (Zd (O Z Z (Zq Z aD aY (Zb (V (Zc (QL (Zx (decide_eq_true (by omega))) (Qq (V (Zc (Qo (Zc (Zd ?_)))))))))))))
   obtain ⟨ap, dU, aj⟩ := Zg aj
   refine O Z Z (Qy S58 Z aX aD (aA.mono (Zt (Zt (Zt (Zt (Zt (Zt a d) j) l) aa) ab) aO)) dU ?_)
   intro e5 fg ct
   refine O Z Z (Zw (E := encEffect) bz A95 Z Z Z ct ?_)
   intro f8 dV
   obtain ⟨bg, rfl, ce⟩ := Qac.1 dV
   refine O Z Z (Exec.alloc (cs := [Vn, U 0, U 0]) bz Z95 Z Z ?_)
   intro bk fQ cF
   refine O Z Z (Qe (ds := [bg, U (ap.Var), U (ap.Val)]) (es := [bg, U (ap.Var), U (ap.Val)]) cF A95 Z Z Z Z (Zj ce.one (Zj Z (Zj Z Q5))) (Nat.le_of_ble_eq_true Z) Z ?_)
   intro fR b0
   refine Zb (V (Zc ?_))
   obtain ⟨a3, af, aj⟩ := Zg aj
   refine QK (M := fun f' w' => (fun (a3 : Bool) => ∃ (cl : PHeap) , PHeap.le ek cl ∧ St w0 cl (Res.box u 26 [n, o, p, q] :: Res.box x 60 [Value.string (b.Name), U (b.Cost), ac, z] :: Res.arr (Qa .i64) 3 i aN :: Res.arr (Qa .i64) 3 t ao :: Res.arr (Qa .i64) 3 ah a7 :: Res.box bk 95 [bg, U (ap.Var), U (ap.Val)] :: H) w' ∧ f' 2 = y ∧ f' 3 = ad ∧ f' 5 = Vq u ∧ f' 11 = Vq x ∧ f' 12 = i ∧ f' 17 = t ∧ f' 19 = ah ∧ f' 21 = Vq bk ∧ f' 68 = U ai ∧ f' 69 = U ((ak : Int)) ∧ f' 80 = z ∧ f' 81 = U ((b.Effs.length : Int)) ∧ f' 82 = U ((aJ : Int)) ∧ f' 95 = Vb a3) a3) ?_ ?_
   ·refine Zd (O Z Z (Zm (v := y) Z aV (O Z Z (Zp Qim Z Z Z (O Z Z (Zn (b0) A3 Z Z Z ?_))))))
    obtain ⟨e0, dW, af⟩ := Zg af
    refine O Z Z (Tc Z Z Z (Zi Z (Zi Z Qk)) (J3 dW b0 (a6.mono (Zt (Zt (Zt (Zt (Zt (Zt a d) j) l) aa) ab) aO))).r ?_)
    rintro _ fS ⟨el, aP, aI, rfl⟩
    refine O Z Z (Zm (v := Vb e0) Z Z ?_)
    rcases Qf af with ⟨ae, af⟩ | ⟨ae, af⟩
    ·refine Qj Z (Zf Z (Zx ae)) Z (Zp QjM Z Z Z (Qj Z (Zf Z (Zx ae)) Z (Zn (aI) A23 Z Z Z (Qj Z (Zf Z (Zx ae)) Z (Zm (v := i) Z aW ?_)))))
     obtain ⟨e1, dX, af⟩ := Zg af
     refine Qj Z (Zf Z (Zx ae)) Z (Tc Z Z Z (Zi Z (Zi Z Qk)) (QeV dX aI.f3 (ce.mono aP)).r ?_)
     rintro _ fT ⟨em, db, cG, rfl⟩
     refine O Z Z (Zs (v := Vb e1) Z (Zx ae) Z (Zb (V ?_)))
     have eE := Zu af
     subst a3
     exact ⟨em, (Zt aP db), (((((cG.f1).f5).f5).f3).f5).f5, aV, bG, bH, bI, aW, bJ, bK, Z, bL, bM, aX, aY, aD, Z⟩
    replace ae := Zk ae
    refine Qx 5 (by rw [ae]; rfl) ?_
    refine Zb (V ?_)
    have eF := Zu af
    subst a3
    exact ⟨el, aP, ((((aI.f5).f5).f5).f5).f5, aV, bG, bH, bI, aW, bJ, bK, Z, bL, bM, aX, aY, aD, Z⟩
   intro eQ fU c4
   obtain ⟨bf, dc, av, bN, bO, bP, bQ, bR, bS, aZ, bT, bU, bV, bW, bX, bY, bZ⟩ := c4
   refine (V ?_)
   obtain ⟨a0, ag, aj⟩ := Zg aj
   refine QK (M := fun f' w' => (fun (a0 : (List Int)) => ∃ (cm : PHeap) , PHeap.le bf cm ∧ St w0 cm (Res.box u 26 [n, o, p, q] :: Res.box x 60 [Value.string (b.Name), U (b.Cost), ac, z] :: Res.arr (Qa .i64) 3 i aN :: Res.arr (Qa .i64) 3 t ao :: Res.arr (Qa .i64) 3 ah a0 :: H) w' ∧ f' 2 = y ∧ f' 3 = ad ∧ f' 5 = Vq u ∧ f' 11 = Vq x ∧ f' 12 = i ∧ f' 17 = t ∧ f' 19 = ah ∧ f' 68 = U ai ∧ f' 69 = U ((ak : Int)) ∧ f' 80 = z ∧ f' 81 = U ((b.Effs.length : Int)) ∧ f' 82 = U ((aJ : Int))) a0) ?_ ?_
   ·rcases Qf ag with ⟨ay, ag⟩ | ⟨ay, ag⟩
    ·refine Qr bZ ay (Zd (O Z Z (Zm (v := ah) Z aZ (O Z Z (Zp Qim Z bT Z (O Z Z (Zn (av.f5) A3 Z Z Z (O Z Z (Zp Qlj Z bT Z (O Z Z (Zn (av.f5) A3 Z Z Z ?_)))))))))))
     obtain ⟨gh, bb, ag⟩ := Zg ag
     obtain ⟨eW, e9, bo⟩ := (av.f4).arr_at bb
     refine O Z Z (Qd JG Z bo Z (Qg bb).1 (Qg bb).2.1 ?_)
     obtain ⟨fa, dY, ag⟩ := Zg ag
     refine O Z Z (QQ av.f4 bo A3 Z Z Z Z (Qv.2 Z) dY ?_)
     intro fV cH
     refine Zb (V ?_)
     have eG := Zu ag
     subst a0
     exact ⟨bf, (Zv _), (((((cH.f5).drop).f4).f4).f4).f4, bN, bO, bP, bQ, bR, bS, aZ, bU, bV, bW, bX, bY⟩
    refine Qs bZ ay ?_
    replace ay := Zk ay
    refine Qq (V ?_)
    have eH := Zu ag
    subst a0
    exact ⟨bf, (Zv _), ((((((av.f5).drop).f4).f4).f4).f4).f4, bN, bO, bP, bQ, bR, bS, aZ, bU, bV, bW, bX, bY⟩
   intro eR fW c5
   obtain ⟨en, dd, cI, dw, dx, dy, dz, d0, d1, d2, d3, d4, d5, d6, d7⟩ := c5
   refine (Qz (V (Zd (O Z Z (Exec.add Z d7 Z (O Z Z (Zm (v := U (IntKind.i64.wrap ((aJ : Int) + 1))) Z Z (Zb (V ?_)))))))))
   have eI := Zu aj
   subst ej
   exact ⟨en, (Zt (Zt aO dc) dd), ((((cI.f4).f4).f4).f4).f4, dw, dx, dy, dz, d0, d1, d2, d3, d4, d5, d6, (Eq.trans Z (QF cU (SliceRep.le (aA.mono (Zt (Zt (Zt (Zt (Zt a d) j) l) aa) ab)))))⟩
  intro eS fX c1
  obtain ⟨ft, am, b1, ca, d8, cb, d9, dA, dB, dC, dD, dE, fj, dF, ex⟩ := c1
  refine Zc (Zd (O Z Z (Zq Z ex dF (Zb (V (Zc (QB (Zx (decide_eq_false (by omega))) (QJ (Qn (Qn (Q9 (V (Zd (O Z Z (Zm (v := t) Z dB (O Z Z (Ql (ds := [n, o, p, q]) (b1) A26 Z cb Z (O Z Z (Zm (v := y) Z ca (O Z Z (Zm (v := ah) Z dC ?_)))))))))))))))))))))
  obtain ⟨fu, an, cJ, ee⟩ := b1.f4.freezeArr
  obtain ⟨aE, dZ, m⟩ := Zg m
  refine O Z Z (Tc Z Z Z (Zi Z (Zi Z (Zi Z Qk))) (QbM dZ cJ (aq.mono (Zt (Zt (Zt (Zt (Zt (Zt (Zt a d) j) l) aa) ab) am) an)) (a4.mono (Zt (Zt (Zt (Zt (Zt (Zt (Zt a d) j) l) aa) ab) am) an)) (a5.mono (Zt (Zt (Zt (Zt (Zt (Zt (Zt a d) j) l) aa) ab) am) an)) (ar.mono (Zt (Zt (Zt (Zt (Zt (Zt (Zt a d) j) l) aa) ab) am) an)) (a6.mono (Zt (Zt (Zt (Zt (Zt (Zt (Zt a d) j) l) aa) ab) am) an)) ee).r ?_)
  rintro _ fY ⟨eo, de, cK, rfl⟩
  refine O Z Z (Exec.buildSlice (Te := 3) (cs := [U aE]) cK Z (Qc (c := [U aE]) (Qh Z Z) Qu) (fun _ => by kernel_rfl) ?_)
  intro e6 fZ cL
  obtain ⟨fb, ea, m⟩ := Zg m
  refine O Z Z (QZ (E := (Qa .i64)) (ys := [aE]) cL.f4 JG Z3 Z (by decide) Z Z Z Z ⟨[U aE], [], Z, Z, Z⟩ Z ea ?_)
  intro co ga cM
  refine O Z Z (Zo (v := co) Z Z (Zb (Qz (V (Zd (O Z Z (Exec.add Z dE Z (O Z Z (Zm (v := U (IntKind.i64.wrap ((ak : Int) + 1))) Z Z (Zb (V ?_)))))))))))
  have eJ := Zu m
  subst ei
  exact ⟨eo, co, (Zt (Zt (Zt (Zt (Zt l aa) ab) am) an) de), ((cM.f3).f3).f3, ca, d8, cb, d9, dA, Z, dD, (Eq.trans Z (QF cT (by have h := Q7 dR; simp at h; simp only [maxLen]; omega)))⟩
 intro eT gb c2
 obtain ⟨ao, aM⟩ := et
 replace hm := Jp hm
 obtain ⟨fv, t, df, cN, fk, fl, fm, fn, fo, cc, dG, ey⟩ := c2
 refine Zc (Zd (O Z Z (Zq Z ey dG (Zb (V (Zc (QB (Zx (decide_eq_false (by omega))) (QJ (Qn (Qn (Q9 (V (Zc (Zd (O Z Z (Zm (v := t) Z cc ?_))))))))))))))))
 obtain ⟨fc, eb, hm⟩ := Zg hm
 refine O Z Z (Tc Z Z Z (Zi Z Qk) (QcK eb cN.f3).r ?_)
 rintro _ gc ⟨fw, dg, cO, rfl⟩
 refine Zb (V (Zc (Zd (O Z Z (Zm (v := t) Z cc ?_)))))
 obtain ⟨ev, ec, hm⟩ := Zg hm
 obtain ⟨gk, fd⟩ := ev
 replace hm := Jp hm
 refine O Z Z (Tc Z Z Z (Zi Z Qk) (QaJ ec cO).r ?_)
 rintro cp gd ⟨fx, _, dh, cP, rfl, ef⟩
 obtain ⟨fz, ed, hm⟩ := Zg hm
 have cQ := cP.arr_head ef (by simpa using Q7 ed)
 refine O Z Z (Zo (v := cp) Z Z (Zb (V (Q0 ?_))))
 have eK := Zu hm
 subst r
 refine ⟨_, QW Z, ?_⟩
 obtain ⟨ep, di, cR, eg⟩ := cQ.freezeArr
 exact ⟨ep, cp, (Zt (Zt (Zt (Zt (Zt (Zt a d) j) df) dg) dh) di), ((cR.drop).drop).drop, Z, eg⟩
theorem QaN : Jt Tryz.prog 38 3 = some 3 := by kernel_rfl
theorem A35 : JU Tryz.prog 35 = some (false, 1) := by kernel_rfl
theorem S35 : Je Tryz.prog 35 = some (85, 3, 24) := by kernel_rfl
theorem Z85 : JL Tryz.prog 85 = some (Value.agg #[U 0, U 0, U 0]) := by kernel_rfl
theorem Qb2 {w0 w : World} {s : PHeap} {H : List Res} {aj : Task} {cV : (List Int)} {z : Value} {aa : Value} {n : Value} {o : Value} {ab : Value} {r : (Option Int) × System} (hm : J6 aj cV = some r) (hS : St w0 s (H) w) (a0 : SliceRep (Qa .i64) s z aj.Vars) (a1 : SliceRep (Qa .i64) s aa aj.Init) (av : SliceRep encFact s n aj.Goal) (ak : SliceRep encOp s o aj.Ops) (a2 : SliceRep (Qa .i64) s ab cV) :
  Calls Tryz.prog 55 #[Value.agg #[z, aa, n, o], ab] w fun e w' => ∃ v, e = .returned v ∧ ((J2 fun (h4 : (Option Int)) (aP : System) => ∃ (aL : PHeap) (dn : Value) (dp : Value) (dq : Value), PHeap.le s aL ∧ St w0 aL (H) w' ∧ v = Value.tuple #[Value.agg #[U (aP.States), U (aP.Init), dn, dp, dq], QD 50 (h4)] ∧ SliceRep (Qa .i64) aL dn aP.Costs ∧ SliceRep encEdge aL dp aP.Edges ∧ SliceRep encBool aL dq aP.Goals) r) := by
 unfold J6 at hm
 refine Qw Tryz.func55 Z Z (Zc (Zd (O Z Z (Exec.box (cs := [z, aa, n, o]) hS Z Z Z ?_))))
 intro p iX dJ
 refine O Z Z (Exec.alloc (cs := [U 0, U 0, Vn, Vn, Vn]) dJ Z38 Z Z ?_)
 intro t iY cd
 refine O Z Z (Zo (v := QD 50 (none)) Z Z (Zb (V (Zc (Zc (Zd (O Z Z (Ql (ds := [z, aa, n, o]) (cd.f1) A26 Z Z Z (O Z Z (Zm (v := ab) Z Z ?_))))))))))
 obtain ⟨bh, gB, hm⟩ := Zg hm
 refine O Z Z (Tc Z Z Z (Zi Z (Zi Z Qk)) (QeA gB cd a0 a1 av ak a2).r ?_)
 rintro _ iZ ⟨hf, a, bk, rfl⟩
 refine O Z Z (Zo (v := QD 50 (bh)) Z Z (Zb (V (Zc (Zd (O Z Z (Zm (v := QD 50 (bh)) Z Z (O Z Z (Jj (T := 50) Tryz.underlying32 Z Z Z (Zb (V ?_)))))))))))
 rcases Qf hm with ⟨aF, hm⟩ | ⟨aF, hm⟩
 ·refine Qr Z aF (Zc (Zd (O Z Z (Exec.build Z Qu (v := Value.agg #[U 0, U 0, Vn, Vn, Vn]) (fun _ => by kernel_rfl) (O Z Z (Zm (v := QD 50 (bh)) Z Z (O Z Z (Qe (ds := [U 0, U 0, Vn, Vn, Vn]) (es := [U 0, U 0, Vn, Vn, Vn]) bk KS Z Z Z Z (Zj Z (Zj Z (Zj Z (Zj Z (Zj Z Q5))))) (Nat.le_of_ble_eq_true Z) Z ?_))))))))
  intro ja ce
  refine O Z Z (Zo (v := QD 50 (bh)) Z Z (Zb (V (Q0 (Qi ?_)))))
  have hI := Zu hm
  subst r
  refine ⟨_, Qat Z ⟨_, _, Z, Kj (ce) KS⟩ Z, ?_⟩
  exact ⟨hf, Vn, Vn, Vn, a, (ce.drop).drop, (Yp Z Z), (SliceRep.nil _ _), (SliceRep.nil _ _), (SliceRep.nil _ _)⟩
 refine Qs Z aF ?_
 replace aF := Zk aF
 refine Qq (V (Zc (Zd (O Z Z (Ql (ds := [z, aa, n, o]) (bk.f1) A26 Z Z Z (O Z Z (Zm (v := ab) Z Z ?_)))))))
 obtain ⟨hr, gC, hm⟩ := Zg hm
 obtain ⟨d, bi⟩ := hr
 replace hm := Jp hm
 refine O Z Z (Tc Z Z Z (Zi Z (Zi Z Qk)) (QaB gC bk (a0.mono a) (a1.mono a) (av.mono a) (ak.mono a) (a2.mono a)).r ?_)
 rintro _ jb ⟨hg, b, aS, rfl⟩
 refine O Z Z (Zm (v := Value.tuple #[U d, Vb bi]) Z Z (O Z Z (Exec.extract (v := U d) Z Z Z (O Z Z (Exec.extract (v := Vb bi) Z Z Z (O Z Z (Zo (v := U d) Z Z (O Z Z (Zo (v := Vb bi) Z Z (Zb (V (Zc (Zc (Zd (O Z Z (Zm (v := Vb bi) Z Z (O Z Z (Exec.not Z Z (Zb (V ?_))))))))))))))))))))
 rcases Qf hm with ⟨aG, hm⟩ | ⟨aG, hm⟩
 ·refine Qr Z aG (Zc (Zd (O Z Z (Exec.build Z Qu (v := Value.agg #[U 0, U 0, Vn, Vn, Vn]) (fun _ => by kernel_rfl) (O Z Z (Exec.makeInterface C50 Z Z (O Z Z (Qe (ds := [U 0, U 0, Vn, Vn, Vn]) (es := [U 0, U 0, Vn, Vn, Vn]) aS KS Z Z Z Z (Zj Z (Zj Z (Zj Z (Zj Z (Zj Z Q5))))) (Nat.le_of_ble_eq_true Z) Z ?_))))))))
  intro jc cf
  refine O Z Z (Zo (v := QD 50 (some 5)) Z Z (Zb (V (Q0 (Qi ?_)))))
  have hJ := Zu hm
  subst r
  refine ⟨_, Qat Z ⟨_, _, Z, Kj (cf) KS⟩ Z, ?_⟩
  exact ⟨hg, Vn, Vn, Vn, (Zt a b), (cf.drop).drop, (Yp Z Z), (SliceRep.nil _ _), (SliceRep.nil _ _), (SliceRep.nil _ _)⟩
 refine Qs Z aG ?_
 replace aG := Zk aG
 refine Qq (V (Zc (Zd (O Z Z (Zm (v := U d) Z Z (O Z Z (Ql (ds := [z, aa, n, o]) (aS.f1) A26 Z Z Z (O Z Z (Zm (v := ab) Z Z (O Z Z (Zp Qlo Z Z Z (O Z Z (Zn (aS.f1) A22 Z Z Z ?_)))))))))))))
 obtain ⟨x, gD, hm⟩ := Zg hm
 refine O Z Z (Tc Z Z Z (Zi Z (Zi Z (Zi Z Qk))) (QbM gD aS (a0.mono (Zt a b)) (a1.mono (Zt a b)) (av.mono (Zt a b)) (ak.mono (Zt a b)) (a2.mono (Zt a b)) (a1.mono (Zt a b))).r ?_)
 rintro _ jd ⟨bD, g, dK, rfl⟩
 refine O Z Z (Exec.build Z (Qc (c := [U d]) (Qh Z Z) (Qc (c := [U x]) (Qh Z Z) Qu)) (v := Value.agg #[U d, U x, Vn, Vn, Vn]) (fun _ => by kernel_rfl) (O Z Z (Exec.alloc (cs := [U 0, U 0, Vn, Vn, Vn]) dK Z38 Z Z ?_)))
 intro u je dL
 refine O Z Z (Qe (ds := [U d, U x, Vn, Vn, Vn]) (es := [U d, U x, Vn, Vn, Vn]) dL KS Z Z Z Z (Zj Z (Zj Z (Zj Z (Zj Z (Zj Z Q5))))) (Nat.le_of_ble_eq_true Z) Z ?_)
 intro jf cg
 refine Zb (V (Zc (Zd (O Z Z (Zp Qbz Z Z Z (O Z Z (Zn (cg.f2) A24 Z Z Z (O Z Z (Zr S24 Z Z (ak.mono (Zt (Zt a b) g)) ?_)))))))))
 obtain ⟨ix, gE, hm⟩ := Zg hm
 refine O Z Z (Kr (E := (QM (Qa .i64))) cg S44 Z22 ⟨_, Z, (SliceRep.nil _ _)⟩ Z Z Z gE ?_)
 intro l jg ch
 refine O Z Z (Zo (v := l) Z Z (Zb (V (Zc (Zc (Zd (O Z Z (Zp Qbz Z Z Z (O Z Z (Zn (ch.f3) A24 Z Z Z (O Z Z (Zr S24 Z Z (ak.mono (Zt (Zt a b) g)) (O Z Z (Zm (v := U 0) Z Z (Zb (V ?_))))))))))))))))
 obtain ⟨bR, dz, e3, ev, ek⟩ := QN hm
 refine QK (M := fun f' w' => ∃ s', (bR = .next s' ∨ bR = .brk s') ∧ (J2 fun (au : (List Int)) (ap : (List (List Int))) => ∃ (cY : PHeap) (j : Value), PHeap.le bD cY ∧ St w0 cY (Res.box p 26 [z, aa, n, o] :: Res.box t 38 [U 0, U 0, Vn, Vn, Vn] :: Res.box u 38 [U d, U x, j, Vn, Vn] :: Res.arr (QM (Qa .i64)) 22 l ap :: Res.arr (Qa .i64) 3 j au :: H) w' ∧ f' 1 = ab ∧ f' 2 = Vq p ∧ f' 4 = Vq t ∧ f' 7 = U d ∧ f' 9 = Vq u ∧ f' 10 = l ∧ f' 52 = o ∧ f' 53 = U ((aj.Ops.length : Int))) s') ?_ ?_
 ·refine Qo (JI (fun k' s' f' w' => (J2 fun (bQ : (List Int)) (bq : (List (List Int))) => ∃ (cZ : PHeap) (aM : Value), PHeap.le bD cZ ∧ St w0 cZ (Res.box p 26 [z, aa, n, o] :: Res.box t 38 [U 0, U 0, Vn, Vn, Vn] :: Res.box u 38 [U d, U x, aM, Vn, Vn] :: Res.arr (QM (Qa .i64)) 22 l bq :: Res.arr (Qa .i64) 3 aM bQ :: H) w' ∧ f' 1 = ab ∧ f' 2 = Vq p ∧ f' 4 = Vq t ∧ f' 7 = U d ∧ f' 9 = Vq u ∧ f' 10 = l ∧ f' 52 = o ∧ f' 53 = U ((aj.Ops.length : Int)) ∧ f' 54 = U (k' : Int)) s') dz ?_ ?_ ?_)
  ·have dM := ch.nilArr (Qa .i64) 3
   exact ⟨bD, Vn, (Zv _), (((dM.f1).f2).f3).f4, Z, Z, Z, Z, Z, Z, Z, Z, Z⟩
  ·intro aK hs bS ia jh eo d4 m e7
   obtain ⟨bQ, bq⟩ := hs
   replace m := Jp m
   obtain ⟨iI, aM, az, ci, c8, c9, bx, eP, bz, b0, cA, cB, bg⟩ := d4
   refine Zc (Zd (O Z Z (Zq Z bg cB (Zb (V (Zc (QL (Zx (decide_eq_true (by omega))) (Qq (V (Zc (Qo (Zc (Zd (O Z Z (Zm (v := U ((aK : Int))) Z bg ?_)))))))))))))))
   obtain ⟨aq, gF, m⟩ := Zg m
   refine O Z Z (Qy S24 Z cA bg (ak.mono (Zt (Zt (Zt a b) g) az)) gF ?_)
   intro h6 i2 dw
   refine O Z Z (Zw (E := encOp) ci A60 Z Z Z dw ?_)
   intro iQ gG
   obtain ⟨bH, bI, rfl, cW, cX⟩ := YH.1 gG
   refine O Z Z (Exec.alloc (cs := [Value.string (⟨#[]⟩), U 0, Vn, Vn]) ci Z60 Z Z ?_)
   intro h7 ji dN
   refine O Z Z (Zo (v := U ((aK : Int))) Z Z (O Z Z (Qe (ds := [Value.string (aq.Name), U (aq.Cost), bH, bI]) (es := [Value.string (aq.Name), U (aq.Cost), bH, bI]) dN A60 Z Z Z Z (Zj Z (Zj Z (Zj cW.one (Zj cX.one Q5)))) (Nat.le_of_ble_eq_true Z) Z ?_)))
   intro jj bl
   refine Zb (V (Zc (Zd (O Z Z (Zp QaZ Z bz Z (O Z Z (Zn (bl.f3) A22 Z Z Z (O Z Z (Zp Qin Z Z Z (O Z Z (Zn (bl) A3 Z Z Z (O Z Z (Exec.buildSlice (Te := 3) (cs := [U (aq.Cost)]) bl Z (Qc (c := [U (aq.Cost)]) (Qh Z Z) Qu) (fun _ => by kernel_rfl) ?_)))))))))))))
   intro h8 jk dO
   obtain ⟨iy, gH, m⟩ := Zg m
   refine O Z Z (QZ (E := (Qa .i64)) (ys := [aq.Cost]) dO.f6 JG Z3 Z (by decide) Z Z Z Z ⟨[U (aq.Cost)], [], Z, Z, Z⟩ Z gH ?_)
   intro bJ jl bm
   refine O Z Z (Zp QaZ Z bz Z (O Z Z (Qe (ds := [bJ]) (es := [U d, U x, bJ, Vn, Vn]) bm.f4 A22 Z Z Z (QX ((bm.f4).f1).arr_one) (Zj ((bm.f4).f1).arr_one Q5) (Nat.le_of_ble_eq_true Z) Z ?_)))
   intro jm cj
   refine Zb (V (Zc (Zd (O Z Z (Zm (v := l) Z b0 (O Z Z (Zm (v := U ((aK : Int))) Z Z (O Z Z (Ql (ds := [Value.string (aq.Name), U (aq.Cost), bH, bI]) (cj.f2) A60 Z Z Z (O Z Z (Zm (v := ab) Z c8 ?_)))))))))))
   obtain ⟨jM, gI, m⟩ := Zg m
   refine O Z Z (Tc Z Z Z (Zi Z (Zi Z Qk)) (QdF gI cj cW cX (a2.mono (Zt (Zt (Zt a b) g) az))).r ?_)
   rintro iR jn ⟨iJ, _, aB, ck, rfl, gZ⟩
   obtain ⟨jJ, bB, m⟩ := Zg m
   obtain ⟨it, hE, bZ⟩ := (ck.f5).arr_at bB
   refine O Z Z (Qd S44 Z bZ Z (Qg bB).1 (Qg bB).2.1 ?_)
   obtain ⟨iz, gJ, m⟩ := Zg m
   refine O Z Z (QQ ck.f5 bZ A22 Z Z Z Z (K3.2 gZ) gJ ?_)
   intro jo aT
   refine Zb (V (Zc (KT (n0 := 10) (qs 0 5 (.e 5 [] (qs 6 4 .done))) Yc (by kernel_rfl) (by kernel_rfl) (Qm Z Z (Ql (ds := [z, aa, n, o]) ((aT.drew).f4) A26 Z c9 Z ⟨Z, ?_⟩)))))
   refine Qm Z Z (Zm (v := l) Z b0 ⟨Z, ?_⟩)
   refine Qm Z Z (Zm (v := U ((aK : Int))) Z Z ⟨Z, ?_⟩)
   obtain ⟨jK, bb, m⟩ := Zg m
   obtain ⟨iu, hF, ca⟩ := (aT.drew).arr_at bb
   refine Qm Z Z (Qd S44 Z ca Z (Qg bb).1 (Qg bb).2.1 ⟨Z, ?_⟩)
   refine Qm Z Z (Qt (F := (QM (Qa .i64))) (aT.drew) ca A22 Z Z Z bb (Sub.refl _) ?_)
   intro iS gK
   have ha := K3.1 gK
   refine ⟨Z, ?_⟩
   obtain ⟨ht, gL, m⟩ := Zg m
   obtain ⟨bP, bj⟩ := ht
   replace m := Jp m
   refine JQ Z Z (Tc Z Z Z (Zi Z (Zi Z Qk)) (QaB gL aT.drew (a0.mono (Zt (Zt (Zt (Zt a b) g) az) aB)) (a1.mono (Zt (Zt (Zt (Zt a b) g) az) aB)) (av.mono (Zt (Zt (Zt (Zt a b) g) az) aB)) (ak.mono (Zt (Zt (Zt (Zt a b) g) az) aB)) ha).r ?_)
   rintro _ jp ⟨da, c1, cl, rfl⟩
   refine ⟨QV, ?_⟩
   refine Qm Z Z (Zm (v := Value.tuple #[U bP, Vb bj]) Z Z ⟨Z, ?_⟩)
   refine Qm Z Z (Exec.extract (v := U bP) Z Z Z ⟨Z, ?_⟩)
   refine Qm Z Z (Exec.extract (v := Vb bj) Z Z Z ⟨Z, ?_⟩)
   refine Qm Z Z (Zo (v := U bP) Z Z ⟨Z, ?_⟩)
   refine QG (O Z Z (Zo (v := Vb bj) Z Z (Zb (V (Zc (Zd (O Z Z (Zm (v := Vb bj) Z Z (O Z Z (Exec.not Z Z (Zb (V ?_))))))))))))
   rcases Qf m with ⟨aH, m⟩ | ⟨aH, m⟩
   ·refine Qr Z aH (Zc (Zd (O Z Z (Exec.build Z Qu (v := Value.agg #[U 0, U 0, Vn, Vn, Vn]) (fun _ => by kernel_rfl) (O Z Z (Exec.makeInterface C50 Z Z (O Z Z (Qe (ds := [U 0, U 0, Vn, Vn, Vn]) (es := [U 0, U 0, Vn, Vn, Vn]) cl.f5 KS Z bx Z Z (Zj Z (Zj Z (Zj Z (Zj Z (Zj Z Q5))))) (Nat.le_of_ble_eq_true Z) Z ?_))))))))
    intro jq cm
    refine O Z Z (Zo (v := QD 50 (some 5)) Z Z (Zb (V (Q0 (QC (Qi (Qi (QC (Qi (Qi ?_))))))))))
    have hK := Zu m
    subst bS
    have ez := e3 _ (e7 (by intro _ h; cases h))
    have hL := Zu ez
    subst r
    refine ⟨_, Qat Z ⟨_, _, bx, Kj (cm) KS⟩ Z, ?_⟩
    exact ⟨da, Vn, Vn, Vn, (Zt (Zt (Zt (Zt (Zt a b) g) az) aB) c1), (((((cm.drop).drop).drop).drop).drop).drop, (Yp Z Z), (SliceRep.nil _ _), (SliceRep.nil _ _), (SliceRep.nil _ _)⟩
   refine Qs Z aH ?_
   replace aH := Zk aH
   refine Qq (Qz (V (Zd (O Z Z (Exec.add Z bg Z (O Z Z (Zm (v := U (IntKind.i64.wrap ((aK : Int) + 1))) Z Z (Zb (V ?_)))))))))
   have hM := Zu m
   subst bS
   refine ⟨_, Z, ?_⟩; exact ⟨da, bJ, (Zt (Zt az aB) c1), ((((((cl.f3).drop).f2).f1).f2).f4).f4, c8, c9, bx, eP, bz, b0, cA, cB, (Eq.trans Z (QF eo (SliceRep.le (ak.mono (Zt (Zt a b) g)))))⟩
  intro hu ib jr d5 e8
  obtain ⟨bQ, bq⟩ := hu
  obtain ⟨hh, aM, eG, dP, eQ, eR, eS, eT, eU, eV, eW, cC, hz⟩ := d5
  refine Zc (Zd (O Z Z (Zq Z hz cC (Zb (V (Zc (QB (Zx (decide_eq_false (by omega))) (QJ (Qn (Qn (Q9 (V ?_))))))))))))
  refine ⟨_, .inl e8, ?_⟩; exact ⟨hh, aM, eG, ((((dP.f4).f4).f4).f4).f4, eQ, eR, eS, eT, eU, eV, eW, cC⟩
 rintro ic js ⟨hv, cw, dE⟩
 have hm := cw.elim (ev _) (ek _)
 clear cw
 obtain ⟨au, ap⟩ := hv
 replace hm := Jp hm
 obtain ⟨bE, j, y, cn, eX, cD, eY, eZ, fa, fb, i5, i6⟩ := dE
 refine (V (Zc (Zd (O Z Z (Zp Yu Z cD Z (O Z Z (Zn (cn) A22 Z Z Z (O Z Z (Zr JG Z Z (a0.mono (Zt (Zt (Zt a b) g) y)) ?_)))))))))
 obtain ⟨i0, gM, hm⟩ := Zg hm
 refine O Z Z (Kr (E := (Qa .i64)) cn JG Z3 Z Z Z Z gM ?_)
 intro ac jt dQ
 refine O Z Z (Zo (v := ac) Z Z (Zb (V (Zc (Zc (Zd (O Z Z (Zm (v := U d) Z eZ (O Z Z (Zm (v := U 0) Z Z (Zb (V ?_))))))))))))
 obtain ⟨iP, gN, hm⟩ := Zg hm
 obtain ⟨bT, d0, e4, ew, el⟩ := QN hm
 refine QK (M := fun f' w' => ∃ s', (bT = .next s' ∨ bT = .brk s') ∧ (un3 fun (du : (List Edge)) (dv : (List Bool)) (c2 : (List Int)) => ∃ (db : PHeap) (a5 : Value) (a6 : Value), PHeap.le bE db ∧ St w0 db (Res.box p 26 [z, aa, n, o] :: Res.box t 38 [U 0, U 0, Vn, Vn, Vn] :: Res.box u 38 [U d, U x, j, a5, a6] :: Res.arr (QM (Qa .i64)) 22 l ap :: Res.arr (Qa .i64) 3 ac c2 :: Res.arr (Qa .i64) 3 j au :: Res.arr encEdge 85 a5 du :: Res.arr encBool 4 a6 dv :: H) w' ∧ f' 1 = ab ∧ f' 2 = Vq p ∧ f' 4 = Vq t ∧ f' 9 = Vq u ∧ f' 10 = l ∧ f' 15 = ac ∧ f' 90 = U d) s') ?_ ?_
 ·refine Qo (JI (fun k' s' f' w' => (un3 fun (aQ : (List Edge)) (aR : (List Bool)) (br : (List Int)) => ∃ (dc : PHeap) (an : Value) (ay : Value), PHeap.le bE dc ∧ St w0 dc (Res.box p 26 [z, aa, n, o] :: Res.box t 38 [U 0, U 0, Vn, Vn, Vn] :: Res.box u 38 [U d, U x, j, an, ay] :: Res.arr (QM (Qa .i64)) 22 l ap :: Res.arr (Qa .i64) 3 ac br :: Res.arr (Qa .i64) 3 j au :: Res.arr encEdge 85 an aQ :: Res.arr encBool 4 ay aR :: H) w' ∧ f' 1 = ab ∧ f' 2 = Vq p ∧ f' 4 = Vq t ∧ f' 9 = Vq u ∧ f' 10 = l ∧ f' 15 = ac ∧ f' 90 = U d ∧ f' 91 = U (k' : Int)) s') d0 ?_ ?_ ?_)
  ·have dR := dQ.nilArr encEdge 85
   have dS := dR.nilArr encBool 4
   exact ⟨bE, Vn, Vn, (Zv _), ((((((dS.f1).f7).f3).f7).f7).f7).f7, eX, cD, eY, fa, fb, Z, Z, Z⟩
  ·intro i hw bU ie ju ep d6 am e9
   obtain ⟨aQ, aR, br⟩ := hw
   replace am := Qbt am
   obtain ⟨iK, an, ay, ae, co, cE, b1, fc, fd, fe, cF, cG, bL⟩ := d6
   refine Zc (Zd (O Z Z (Zq Z bL cG (Zb (V (Zc (QL (Zx (decide_eq_true (by omega))) (Qq (V (Zc (Qo (Zc (Zd (O Z Z (Zm (v := U ((i : Int))) Z bL (O Z Z (Zo (v := U ((i : Int))) Z Z (Zb (V (Zc (Zd (O Z Z (Ql (ds := [z, aa, n, o]) (co) A26 Z b1 Z (O Z Z (Zm (v := ab) Z cE (O Z Z (Zm (v := ac) Z cF (O Z Z (Zm (v := U ((i : Int))) Z Z ?_)))))))))))))))))))))))))))))
   obtain ⟨aC, gO, am⟩ := Zg am
   refine O Z Z (Tc Z Z Z (Zi Z (Zi Z (Zi Z (Zi Z Qk)))) (QhC gO co.f4 (a0.mono (Zt (Zt (Zt (Zt a b) g) y) ae)) (a1.mono (Zt (Zt (Zt (Zt a b) g) y) ae)) (av.mono (Zt (Zt (Zt (Zt a b) g) y) ae)) (ak.mono (Zt (Zt (Zt (Zt a b) g) y) ae)) (a2.mono (Zt (Zt (Zt (Zt a b) g) y) ae))).r ?_)
   rintro _ jv ⟨dd, ai, cp, rfl⟩
   refine Zb (V (Zc (Zd (O Z Z (Zo (v := Vb true) Z Z (Zb (V (Zc (Zc (Zd (O Z Z (Zp Qln Z b1 Z (O Z Z (Zn (cp.f1) A23 Z Z Z (O Z Z (Zr S23 Z Z (av.mono (Zt (Zt (Zt (Zt (Zt a b) g) y) ae) ai)) (O Z Z (Zm (v := U 0) Z Z (Zb (V ?_))))))))))))))))))))
   obtain ⟨ao, d1, am⟩ := Zg am
   refine Qo (JZ (fun k' s' f' w' => (fun (ao : Bool) => ∃ (de : PHeap) , PHeap.le dd de ∧ St w0 de (Res.box p 26 [z, aa, n, o] :: Res.box t 38 [U 0, U 0, Vn, Vn, Vn] :: Res.box u 38 [U d, U x, j, an, ay] :: Res.arr (QM (Qa .i64)) 22 l ap :: Res.arr (Qa .i64) 3 ac aC :: Res.arr (Qa .i64) 3 j au :: Res.arr encEdge 85 an aQ :: Res.arr encBool 4 ay aR :: H) w' ∧ f' 1 = ab ∧ f' 2 = Vq p ∧ f' 4 = Vq t ∧ f' 9 = Vq u ∧ f' 10 = l ∧ f' 15 = ac ∧ f' 16 = U ((i : Int)) ∧ f' 17 = Vb ao ∧ f' 90 = U d ∧ f' 91 = U ((i : Int)) ∧ f' 100 = n ∧ f' 101 = U ((aj.Goal.length : Int)) ∧ f' 102 = U (k' : Int)) s') d1 ?_ ?_ ?_)
   ·have dT := cp.f7
    exact ⟨dd, (Zv _), ((((((dT.f7).f7).f3).f7).f7).f7).f7, cE, b1, fc, fd, fe, cF, Z, Z, cG, bL, Z, Z, Z⟩
   ·intro c0 ao hi ig jw er d7 aJ
    obtain ⟨df, bs, cq, aW, b2, b3, b4, b5, aX, b6, ff, b7, b8, aY, aZ, aO⟩ := d7
    refine Zc (Zd (O Z Z (Zq Z aO aZ (Zb (V (Zc (QL (Zx (decide_eq_true (by omega))) (Qq (V (Zc (Qo (Zc (Zd ?_)))))))))))))
    obtain ⟨a7, gP, aJ⟩ := Zg aJ
    refine O Z Z (Qy S23 Z aY aO (av.mono (Zt (Zt (Zt (Zt (Zt (Zt a b) g) y) ae) ai) bs)) gP ?_)
    intro h9 i3 dx
    refine O Z Z (Zw (E := encFact) cq A90 Z Z Z dx ?_)
    intro iT gQ
    obtain rfl := YB.1 gQ
    refine O Z Z (Exec.alloc (cs := [U 0, U 0]) cq Z90 Z Z ?_)
    intro hA jx dU
    refine O Z Z (Qe (ds := [U (a7.Var), U (a7.Val)]) (es := [U (a7.Var), U (a7.Val)]) dU A90 Z Z Z Z (Zj Z (Zj Z Q5)) (Nat.le_of_ble_eq_true Z) Z ?_)
    intro jy bn
    refine Zb (V ?_)
    obtain ⟨a8, ah, aJ⟩ := Zg aJ
    refine QK (M := fun f' w' => (fun (a8 : Bool) => ∃ (dg : PHeap) , PHeap.le df dg ∧ St w0 dg (Res.box p 26 [z, aa, n, o] :: Res.box t 38 [U 0, U 0, Vn, Vn, Vn] :: Res.box u 38 [U d, U x, j, an, ay] :: Res.arr (QM (Qa .i64)) 22 l ap :: Res.arr (Qa .i64) 3 ac aC :: Res.arr (Qa .i64) 3 j au :: Res.arr encEdge 85 an aQ :: Res.arr encBool 4 ay aR :: H) w' ∧ f' 1 = ab ∧ f' 2 = Vq p ∧ f' 4 = Vq t ∧ f' 9 = Vq u ∧ f' 10 = l ∧ f' 15 = ac ∧ f' 16 = U ((i : Int)) ∧ f' 17 = Vb a8 ∧ f' 90 = U d ∧ f' 91 = U ((i : Int)) ∧ f' 100 = n ∧ f' 101 = U ((aj.Goal.length : Int)) ∧ f' 102 = U ((c0 : Int))) a8) ?_ ?_
    ·refine KT (n0 := 18) (qs 0 5 (.e 5 [] (qs 6 12 .done))) Yc (by kernel_rfl) (by kernel_rfl) (Qm Z Z (Zm (v := Vb ao) Z ff ⟨Z, ?_⟩))
     refine Qm Z Z (Zm (v := Vb ao) Z Z ⟨Z, ?_⟩)
     rcases Qf ah with ⟨af, ah⟩ | ⟨af, ah⟩
     ·refine QE Z Z (Zf Z (Zx af)) (Zm (v := ab) Z aW ⟨Z, ?_⟩)
      refine QE Z Z (Zf Z (Zx af)) (Zp YS Z Z Z ⟨Z, ?_⟩)
      refine QE Z Z (Zf Z (Zx af)) (Zn (bn.drew) A3 Z Z Z ⟨Z, ?_⟩)
      obtain ⟨h5, gR, ah⟩ := Zg ah
      refine Qnk Z Z (Zf Z (Zx af)) (Tc Z Z Z (Zi Z (Zi Z Qk)) (J3 gR bn.drew (a2.mono (Zt (Zt (Zt (Zt (Zt (Zt a b) g) y) ae) ai) bs))).r ?_)
      rintro _ jz ⟨dh, c3, a9, rfl⟩
      refine ⟨QV, ?_⟩
      refine QE Z Z (Zf Z (Zx af)) (Exec.not Z Z ⟨Z, ?_⟩)
      refine QE Z Z (Zf Z (Zx af)) (Zm (v := Vb (!h5)) Z Z ⟨Z, ?_⟩)
      rcases Qf ah with ⟨ag, ah⟩ | ⟨ag, ah⟩
      ·refine Jh 8 (by rw [ag]; rfl) ?_
       refine QE Z Z (Zf Z (Zx af)) (Zs (v := Vb true) Z Z Z ⟨Z, ?_⟩)
       refine Qm Z Z (Zs (v := Vb true) Z (Zx af) Z ⟨Z, ?_⟩)
       refine QG (O Z Z (Zo (v := Vb true) Z Z (Zb (V ?_))))
       have hN := Zu ah
       subst a8
       exact ⟨dh, c3, ((((((((a9.drop).f7).f7).f7).f7).f7).f7).f7).f7, aW, b2, b3, b4, b5, aX, b6, Z, b7, b8, aY, aZ, aO⟩
      replace ag := Zk ag
      refine QE Z Z (Zf Z (Zx ag)) (Zm (v := ac) Z aX ⟨Z, ?_⟩)
      refine QE Z Z (Zf Z (Zx ag)) (Zp YS Z Z Z ⟨Z, ?_⟩)
      refine QE Z Z (Zf Z (Zx ag)) (Zn (a9) A3 Z Z Z ⟨Z, ?_⟩)
      obtain ⟨bM, bc, ah⟩ := Zg ah
      obtain ⟨iv, hG, cb⟩ := (a9.f5).arr_at bc
      refine QE Z Z (Zf Z (Zx ag)) (Qd JG Z cb Z (Qg bc).1 (Qg bc).2.1 ⟨Z, ?_⟩)
      refine QE Z Z (Zf Z (Zx ag)) (Qt (F := (Qa .i64)) (a9.f5) cb A3 Z Z Z bc (Sub.refl _) ?_)
      intro iU gS
      obtain rfl := Qv.1 gS
      refine ⟨Z, ?_⟩
      refine QE Z Z (Zf Z (Zx ag)) (Zp Qfa Z Z Z ⟨Z, ?_⟩)
      refine QE Z Z (Zf Z (Zx ag)) (Zn (a9) A3 Z Z Z ⟨Z, ?_⟩)
      refine QE Z Z (Zf Z (Zx ag)) (Exec.eql Z Z Z ⟨Z, ?_⟩)
      refine QE Z Z (Zf Z (Zx af)) (Q8 (v := Vb (decide (bM = a7.Val))) Z (Zx ag) Z ⟨Z, ?_⟩)
      refine Qm Z Z (Zs (v := Vb (decide (bM = a7.Val))) Z (Zx af) Z ⟨Z, ?_⟩)
      refine QG (O Z Z (Zo (v := Vb (decide (bM = a7.Val))) Z Z (Zb (V ?_))))
      have hO := Zu ah
      subst a8
      exact ⟨dh, c3, ((((((((a9.drop).f7).f7).f7).f7).f7).f7).f7).f7, aW, b2, b3, b4, b5, aX, b6, Z, b7, b8, aY, aZ, aO⟩
     replace af := Zk af
     refine Jh 16 (by rw [af]; rfl) ?_
     refine QG (O Z Z (Zo (v := Vb false) Z Z (Zb (V ?_))))
     have hP := Zu ah
     subst a8
     exact ⟨df, (Zv _), (((((((((bn.drew).drop).f7).f7).f7).f7).f7).f7).f7).f7, aW, b2, b3, b4, b5, aX, b6, Z, b7, b8, aY, aZ, aO⟩
    intro ih j0 dF
    obtain ⟨hj, eH, dV, fg, fh, fi, fj, fk, fl, fm, fn, fo, fp, fq, fr, fs⟩ := dF
    refine (Qz (V (Zd (O Z Z (Exec.add Z fs Z (O Z Z (Zm (v := U (IntKind.i64.wrap ((c0 : Int) + 1))) Z Z (Zb (V ?_)))))))))
    have hQ := Zu aJ
    subst hi
    exact ⟨hj, (Zt bs eH), (((((((dV.f7).f7).f7).f7).f7).f7).f7).f7, fg, fh, fi, fj, fk, fl, fm, fn, fo, fp, fq, fr, (Eq.trans Z (QF er (SliceRep.le (av.mono (Zt (Zt (Zt (Zt (Zt a b) g) y) ae) ai)))))⟩
   intro ii j1 d8
   obtain ⟨bF, ax, cr, ft, cH, fu, b9, fv, fw, fx, fy, fz, f0, i7, f9, h0⟩ := d8
   refine Zc (Zd (O Z Z (Zq Z h0 f9 (Zb (V (Zc (QB (Zx (decide_eq_false (by omega))) (QJ (Qn (Qn (Q9 (V (Zc (Zd (O Z Z (Zp Qby Z b9 Z (O Z Z (Zn (cr.f2) A36 Z Z Z (O Z Z (Zm (v := Vb ao) Z fy (O Z Z (Exec.buildSlice (Te := 4) (cs := [Vb ao]) cr Z (Qc (c := [Vb ao]) (Qh Z Z) Qu) (fun _ => by kernel_rfl) ?_))))))))))))))))))))))
   intro hB j2 dW
   obtain ⟨aV, gT, am⟩ := Zg am
   refine O Z Z (QZ (E := encBool) (ys := [ao]) dW.f8 S36 Z4 Z (by decide) Z Z Z Z ⟨[Vb ao], [], Z, Z, Z⟩ Z gT ?_)
   intro al j3 bo
   refine O Z Z (Zp Qby Z b9 Z (O Z Z (Qe (ds := [al]) (es := [U d, U x, j, an, al]) bo.f3 A36 Z Z Z (QX ((bo.f3).f1).arr_one) (Zj ((bo.f3).f1).arr_one Q5) (Nat.le_of_ble_eq_true Z) Z ?_)))
   intro j4 ct
   refine Zb (V (Zc (Zd (O Z Z (Zp Qbz Z cH Z (O Z Z (Zn (ct.f2) A24 Z Z Z (O Z Z (Zr S24 Z Z (ak.mono (Zt (Zt (Zt (Zt (Zt (Zt a b) g) y) ae) ai) ax)) (O Z Z (Zm (v := U 0) Z Z (Zb (V ?_)))))))))))))
   obtain ⟨bV, d2, e5, ex, em⟩ := QN am
   refine QK (M := fun f' w' => ∃ s', (bV = .next s' ∨ bV = .brk s') ∧ (fun (c4 : (List Edge)) => ∃ (di : PHeap) (be : Value), PHeap.le bF di ∧ St w0 di (Res.box p 26 [z, aa, n, o] :: Res.box t 38 [U 0, U 0, Vn, Vn, Vn] :: Res.box u 38 [U d, U x, j, be, al] :: Res.arr (QM (Qa .i64)) 22 l ap :: Res.arr (Qa .i64) 3 ac aC :: Res.arr (Qa .i64) 3 j au :: Res.arr encEdge 85 be c4 :: Res.arr encBool 4 al aV :: H) w' ∧ f' 1 = ab ∧ f' 2 = Vq p ∧ f' 4 = Vq t ∧ f' 9 = Vq u ∧ f' 10 = l ∧ f' 15 = ac ∧ f' 16 = U ((i : Int)) ∧ f' 90 = U d ∧ f' 91 = U ((i : Int)) ∧ f' 133 = U ((aj.Ops.length : Int))) s') ?_ ?_
   ·refine Qo (JI (fun k' s' f' w' => (fun (bt : (List Edge)) => ∃ (dj : PHeap) (aD : Value), PHeap.le bF dj ∧ St w0 dj (Res.box p 26 [z, aa, n, o] :: Res.box t 38 [U 0, U 0, Vn, Vn, Vn] :: Res.box u 38 [U d, U x, j, aD, al] :: Res.arr (QM (Qa .i64)) 22 l ap :: Res.arr (Qa .i64) 3 ac aC :: Res.arr (Qa .i64) 3 j au :: Res.arr encEdge 85 aD bt :: Res.arr encBool 4 al aV :: H) w' ∧ f' 1 = ab ∧ f' 2 = Vq p ∧ f' 4 = Vq t ∧ f' 9 = Vq u ∧ f' 10 = l ∧ f' 15 = ac ∧ f' 16 = U ((i : Int)) ∧ f' 90 = U d ∧ f' 91 = U ((i : Int)) ∧ f' 133 = U ((aj.Ops.length : Int)) ∧ f' 134 = U (k' : Int)) s') d2 ?_ ?_ ?_)
    ·have dX := ct.f1
     exact ⟨bF, an, (Zv _), ((((((dX.f7).f7).f7).f7).f5).f7).f7, ft, cH, fu, b9, fv, fw, fx, fz, f0, Z, Z⟩
    ·intro ad bt bW ij j5 et d9 a3 eA
     obtain ⟨iL, aD, a4, aU, cI, cJ, fA, fB, cK, fC, cL, fD, fE, cM, bN⟩ := d9
     refine Zc (Zd (O Z Z (Zq Z bN cM (Zb (V (Zc (QL (Zx (decide_eq_true (by omega))) (Qq (V (Zc (Qo (Zc (Zd (O Z Z (Zm (v := U ((ad : Int))) Z bN (O Z Z (Zo (v := U ((ad : Int))) Z Z (Zb (V (Zc (KT (n0 := 11) (qs 0 8 (.q 10 (.e 8 [10] (.q 9 .done)))) Yc (by kernel_rfl) (by kernel_rfl) (Qm Z Z (Ql (ds := [z, aa, n, o]) (aU.drew) A26 Z cJ Z ⟨Z, ?_⟩)))))))))))))))))))))))
     refine Qm Z Z (Zm (v := U ((ad : Int))) Z Z ⟨Z, ?_⟩)
     refine Qm Z Z (Zm (v := ab) Z cI ⟨Z, ?_⟩)
     refine Qm Z Z (Zm (v := l) Z cK ⟨Z, ?_⟩)
     refine Qm Z Z (Zm (v := U ((ad : Int))) Z Z ⟨Z, ?_⟩)
     obtain ⟨jL, bd, a3⟩ := Zg a3
     obtain ⟨iw, hH, cc⟩ := ((aU.drew).f3).arr_at bd
     refine Qm Z Z (Qd S44 Z cc Z (Qg bd).1 (Qg bd).2.1 ⟨Z, ?_⟩)
     refine Qm Z Z (Qt (F := (QM (Qa .i64))) ((aU.drew).f3) cc A22 Z Z Z bd (Sub.refl _) ?_)
     intro iV gU
     have hb := K3.1 gU
     refine ⟨Z, ?_⟩
     refine Qm Z Z (Zm (v := U ((i : Int))) Z cL ⟨Z, ?_⟩)
     refine Qm Z Z (Zm (v := U 0) Z Z ⟨Z, ?_⟩)
     obtain ⟨dt, gV, a3⟩ := Zg a3
     refine JQ Z Z (Tc Z Z Z (Zi Z (Zi Z (Zi Z (Zi Z (Zi Z Qk))))) (QdE gV aU.drew (a0.mono (Zt (Zt (Zt (Zt (Zt (Zt (Zt a b) g) y) ae) ai) ax) a4)) (a1.mono (Zt (Zt (Zt (Zt (Zt (Zt (Zt a b) g) y) ae) ai) ax) a4)) (av.mono (Zt (Zt (Zt (Zt (Zt (Zt (Zt a b) g) y) ae) ai) ax) a4)) (ak.mono (Zt (Zt (Zt (Zt (Zt (Zt (Zt a b) g) y) ae) ai) ax) a4)) (a2.mono (Zt (Zt (Zt (Zt (Zt (Zt (Zt a b) g) y) ae) ai) ax) a4)) hb).r ?_)
     rintro dr j6 ⟨bG, _, c5, dY, rfl, bC⟩
     refine ⟨(Qb (Q4 Z Z (Zm (v := U 0) Z Z ⟨Z, Z⟩)) QV), ?_⟩
     refine Qm Z Z (Zr JG Z Z bC ⟨Z, ?_⟩)
     refine QG (Zb (V ?_))
     obtain ⟨bX, d3, e6, ey, en⟩ := QN a3
     refine QK (M := fun f' w' => ∃ s', (bX = .next s' ∨ bX = .brk s') ∧ (fun (c6 : (List Edge)) => ∃ (dk : PHeap) (bf : Value), PHeap.le bG dk ∧ St w0 dk (Res.box p 26 [z, aa, n, o] :: Res.box t 38 [U 0, U 0, Vn, Vn, Vn] :: Res.box u 38 [U d, U x, j, bf, al] :: Res.arr (QM (Qa .i64)) 22 l ap :: Res.arr (Qa .i64) 3 ac aC :: Res.arr (Qa .i64) 3 j au :: Res.arr encEdge 85 bf c6 :: Res.arr encBool 4 al aV :: H) w' ∧ f' 1 = ab ∧ f' 2 = Vq p ∧ f' 4 = Vq t ∧ f' 9 = Vq u ∧ f' 10 = l ∧ f' 15 = ac ∧ f' 16 = U ((i : Int)) ∧ f' 20 = U ((ad : Int)) ∧ f' 90 = U d ∧ f' 91 = U ((i : Int)) ∧ f' 133 = U ((aj.Ops.length : Int)) ∧ f' 134 = U ((ad : Int)) ∧ f' 145 = dr ∧ f' 146 = U ((dt.length : Int))) s') ?_ ?_
     ·refine Qo (JI (fun k' s' f' w' => (fun (bu : (List Edge)) => ∃ (dl : PHeap) (aN : Value), PHeap.le bG dl ∧ St w0 dl (Res.box p 26 [z, aa, n, o] :: Res.box t 38 [U 0, U 0, Vn, Vn, Vn] :: Res.box u 38 [U d, U x, j, aN, al] :: Res.arr (QM (Qa .i64)) 22 l ap :: Res.arr (Qa .i64) 3 ac aC :: Res.arr (Qa .i64) 3 j au :: Res.arr encEdge 85 aN bu :: Res.arr encBool 4 al aV :: H) w' ∧ f' 1 = ab ∧ f' 2 = Vq p ∧ f' 4 = Vq t ∧ f' 9 = Vq u ∧ f' 10 = l ∧ f' 15 = ac ∧ f' 16 = U ((i : Int)) ∧ f' 20 = U ((ad : Int)) ∧ f' 90 = U d ∧ f' 91 = U ((i : Int)) ∧ f' 133 = U ((aj.Ops.length : Int)) ∧ f' 134 = U ((ad : Int)) ∧ f' 145 = dr ∧ f' 146 = U ((dt.length : Int)) ∧ f' 147 = U (k' : Int)) s') d3 ?_ ?_ ?_)
      ·have dZ := dY.f7
       exact ⟨bG, aD, (Zv _), ((((((dZ.f7).f7).f7).f7).f7).f7).f7, cI, cJ, fA, fB, cK, fC, cL, Z, fD, fE, cM, bN, Z, Z, Z⟩
      ·intro eF bu bY ik j7 eu dA aw eB
       obtain ⟨dm, aN, bv, aA, fF, fG, bA, ba, fH, fI, cN, cO, fJ, fK, fL, fM, cP, cQ, bO⟩ := dA
       refine Zc (Zd (O Z Z (Zq Z bO cQ (Zb (V (Zc (QL (Zx (decide_eq_true (by omega))) (Qq (V (Zc (Qo (Zc (Zd ?_)))))))))))))
       obtain ⟨ar, gW, aw⟩ := Zg aw
       refine O Z Z (Qy JG Z cP bO (bC.mono bv) gW ?_)
       intro hC i4 dy
       refine O Z Z (Zw (E := (Qa .i64)) aA A3 Z Z Z dy ?_)
       intro iW gX
       obtain rfl := Qv.1 gX
       refine O Z Z (Zo (v := U ar) Z Z (Zb (V (Zc (Zc (Zd (O Z Z (Zp QaN Z ba Z (O Z Z (Zn (aA.f2) A35 Z Z Z (O Z Z (QP (aA.f6) S35 Z Z (O Z Z (Exec.eql Z Z Z (Zb (V ?_))))))))))))))))
       rcases Qf aw with ⟨aI, aw⟩ | ⟨aI, aw⟩
       ·refine Qr Z aI (Zc (Zd (O Z Z (Exec.build Z Qu (v := Value.agg #[U 0, U 0, Vn, Vn, Vn]) (fun _ => by kernel_rfl) (O Z Z (Exec.makeInterface C50 Z Z (O Z Z (Qe (ds := [U 0, U 0, Vn, Vn, Vn]) (es := [U 0, U 0, Vn, Vn, Vn]) aA.f1 KS Z bA Z Z (Zj Z (Zj Z (Zj Z (Zj Z (Zj Z Q5))))) (Nat.le_of_ble_eq_true Z) Z ?_))))))))
        intro j8 cu
        refine O Z Z (Zo (v := QD 50 (some 5)) Z Z (Zb (V (Q0 (Qi (QC (Qi (Qi (QC (Qi (QC (Qi (Qi (QC (Qi (QC (Qi (Qi (QC (Qi (Qi ?_)))))))))))))))))))))
        have hR := Zu aw
        subst bY
        have e0 := e6 _ (eB (by intro _ h; cases h))
        have hT := Zu e0
        subst bW
        have e1 := e5 _ (eA (by intro _ h; cases h))
        have hU := Zu e1
        subst bU
        have e2 := e4 _ (e9 (by intro _ h; cases h))
        have hV := Zu e2
        subst r
        refine ⟨_, Qat Z ⟨_, _, bA, Kj (cu) KS⟩ Z, ?_⟩
        exact ⟨dm, Vn, Vn, Vn, (Zt (Zt (Zt (Zt (Zt (Zt (Zt (Zt (Zt a b) g) y) ae) ai) ax) a4) c5) bv), (((((((cu.drop).drop).drop).drop).drop).drop).drop).drop, (Yp Z Z), (SliceRep.nil _ _), (SliceRep.nil _ _), (SliceRep.nil _ _)⟩
       refine Qs Z aI ?_
       replace aI := Zk aI
       refine Qq (V (Zd (O Z Z (Zp QaN Z ba Z (O Z Z (Zn (aA.f2) A35 Z Z Z (O Z Z (Zm (v := U ((i : Int))) Z cN (O Z Z (Zm (v := U ((ad : Int))) Z cO (O Z Z (Zm (v := U ar) Z Z (O Z Z (Exec.build Z (Qc (c := [U ((i : Int))]) (Qh Z Z) (Qc (c := [U ((ad : Int))]) (Qh Z Z) (Qc (c := [U ar]) (Qh Z Z) Qu))) (v := Value.agg #[U ((i : Int)), U ((ad : Int)), U ar]) (fun _ => by kernel_rfl) (O Z Z (Exec.buildSlice (Te := 85) (cs := [U ((i : Int)), U ((ad : Int)), U ar]) aA Z (Qc (c := [U ((i : Int)), U ((ad : Int)), U ar]) (Qh Z Z) Qu) (fun _ => by kernel_rfl) ?_))))))))))))))))
       intro hD j9 ea
       obtain ⟨i1, gY, aw⟩ := Zg aw
       refine O Z Z (QZ (E := encEdge) (ys := [(⟨(i : Int), (ad : Int), ar⟩ : Edge)]) ea.f7 S35 Z85 Z (by decide) Z Z Z Z ⟨[U ((i : Int)), U ((ad : Int)), U ar], [], Z, ⟨[U ((i : Int))], [U ((ad : Int)), U ar], Z, Z, ⟨[U ((ad : Int))], [U ar], Z, Z, Z⟩⟩, Z⟩ Z gY ?_)
       intro bK jA bp
       refine O Z Z (Zp QaN Z ba Z (O Z Z (Qe (ds := [bK]) (es := [U d, U x, j, bK, al]) bp.f3 A35 Z Z Z (QX ((bp.f3).f1).arr_one) (Zj ((bp.f3).f1).arr_one Q5) (Nat.le_of_ble_eq_true Z) Z ?_)))
       intro jB eb
       refine Zb (Qz (V (Zd (O Z Z (Exec.add Z bO Z (O Z Z (Zm (v := U (IntKind.i64.wrap ((eF : Int) + 1))) Z Z (Zb (V ?_)))))))))
       have hW := Zu aw
       subst bY
       refine ⟨_, Z, ?_⟩; exact ⟨dm, bK, bv, (((((((eb.f7).f2).f7).f7).f7).f5).f7).f7, fF, fG, bA, ba, fH, fI, cN, cO, fJ, fK, fL, fM, cP, cQ, (Eq.trans Z (QF eu (SliceRep.le bC)))⟩
      intro bu il jC dB eC
      obtain ⟨hk, aN, eI, ec, fN, fO, fP, fQ, fR, fS, fT, fU, fV, fW, fX, fY, fZ, cR, h1⟩ := dB
      refine Zc (Zd (O Z Z (Zq Z h1 cR (Zb (V (Zc (QB (Zx (decide_eq_false (by omega))) (QJ (Qn (Qn (Q9 (V ?_))))))))))))
      refine ⟨_, .inl eC, ?_⟩; exact ⟨hk, aN, eI, (((((((ec.f7).f7).f7).f7).f7).f7).f7).f7, fN, fO, fP, fQ, fR, fS, fT, fU, fV, fW, fX, fY, fZ, cR⟩
     rintro im jD ⟨c6, cx, dG⟩
     have a3 := cx.elim (ey _) (en _)
     clear cx
     obtain ⟨hl, bf, eJ, ed, ga, gb, gc, gd, gf, gg, gh, i8, gi, gj, gk, gl, i9, iA⟩ := dG
     refine (Qz (V (Zd (O Z Z (Exec.add Z gl Z (O Z Z (Zm (v := U (IntKind.i64.wrap ((ad : Int) + 1))) Z Z (Zb (V ?_)))))))))
     have hX := Zu a3
     subst bW
     refine ⟨_, Z, ?_⟩; exact ⟨hl, bf, (Zt (Zt a4 c5) eJ), (((((((ed.f7).f7).f7).f7).f7).f7).f7).f7, ga, gb, gc, gd, gf, gg, gh, gi, gj, gk, (Eq.trans Z (QF et (SliceRep.le (ak.mono (Zt (Zt (Zt (Zt (Zt (Zt a b) g) y) ae) ai) ax)))))⟩
    intro bt io jE dC eD
    obtain ⟨hn, aD, eK, ee, gm, gn, go, gp, gq, gr, gs, gu, gv, cS, h2⟩ := dC
    refine Zc (Zd (O Z Z (Zq Z h2 cS (Zb (V (Zc (QB (Zx (decide_eq_false (by omega))) (QJ (Qn (Qn (Q9 (V ?_))))))))))))
    refine ⟨_, .inl eD, ?_⟩; exact ⟨hn, aD, eK, (((((((ee.f7).f7).f7).f7).f7).f7).f7).f7, gm, gn, go, gp, gq, gr, gs, gu, gv, cS⟩
   rintro ip jF ⟨c4, cy, dH⟩
   have am := cy.elim (ex _) (em _)
   clear cy
   obtain ⟨ho, be, eL, ef, gw, gx, gy, gz, g0, g1, iB, g2, g3, iC⟩ := dH
   refine (Qz (V (Zd (O Z Z (Exec.add Z g3 Z (O Z Z (Zm (v := U (IntKind.i64.wrap ((i : Int) + 1))) Z Z (Zb (V ?_)))))))))
   have hY := Zu am
   subst bU
   refine ⟨_, Z, ?_⟩; exact ⟨ho, be, al, (Zt (Zt (Zt ae ai) ax) eL), (((((((ef.f7).f7).f7).f7).f7).f7).f7).f7, gw, gx, gy, gz, g0, g1, g2, (Eq.trans Z (QF ep (by have h := Q7 gN; simp at h; simp only [maxLen]; omega)))⟩
  intro hx iq jG dD eE
  obtain ⟨aQ, aR, br⟩ := hx
  obtain ⟨hp, an, ay, eM, eg, g4, g5, g6, g7, g8, g9, cT, h3⟩ := dD
  refine Zc (Zd (O Z Z (Zq Z h3 cT (Zb (V (Zc (QB (Zx (decide_eq_false (by omega))) (QJ (Qn (Qn (Q9 (V ?_))))))))))))
  refine ⟨_, .inl eE, ?_⟩; exact ⟨hp, an, ay, eM, (((((((eg.f7).f7).f7).f7).f7).f7).f7).f7, g4, g5, g6, g7, g8, g9, cT⟩
 rintro ir jH ⟨hy, cz, dI⟩
 have hm := cz.elim (ew _) (el _)
 clear cz
 obtain ⟨du, dv, c2⟩ := hy
 replace hm := Qbt hm
 obtain ⟨iM, a5, a6, eN, aE, iD, iE, cU, gA, iF, iG, iH⟩ := dI
 refine (V (Zc (Zd (O Z Z (Ql (ds := [U d, U x, j, a5, a6]) (aE.f2) KS Z gA Z (O Z Z (Qe (ds := [U d, U x, j, a5, a6]) (es := [U d, U x, j, a5, a6]) aE.f1 KS Z cU Z Z (Zj Z (Zj Z (Zj ((aE.f1).f5).arr_one (Zj ((aE.f1).f6).arr_one (Zj ((aE.f1).f7).arr_one Q5))))) (Nat.le_of_ble_eq_true Z) Z ?_)))))))
 intro jI cv
 refine O Z Z (Zo (v := QD 50 (none)) Z Z (Zb (V (Q0 ?_))))
 have hZ := Zu hm
 subst r
 refine ⟨_, Qat Z ⟨_, _, cU, Kj (cv) KS⟩ Z, ?_⟩
 obtain ⟨iN, eO, eh, hc⟩ := cv.f5.freezeArr
 obtain ⟨iO, c7, ei, hd⟩ := eh.f5.freezeArr
 obtain ⟨hq, bw, ej, he⟩ := ei.f5.freezeArr
 exact ⟨hq, j, a5, a6, (Zt (Zt (Zt (Zt (Zt (Zt (Zt a b) g) y) eN) eO) c7) bw), ((((ej.drop).drop).drop).drop).drop, (Yp Z Z), (hc.mono (Zt c7 bw)), (hd.mono bw), he⟩
theorem Qdu {w0 w : World} {s : PHeap} {H : List Res} {d : Int} {r : Int} (hm : KQ d = some r) (hS : St w0 s (H) w) :
  Calls Tryz.prog 56 #[U d] w fun e w' => ∃ v, e = .returned v ∧ ((fun (ah : Int) => ∃ (p : PHeap) , PHeap.le s p ∧ St w0 p (H) w' ∧ v = U ah) r) := by
 unfold KQ at hm
 refine Qw Tryz.func56 Z Z (Zc (Zd (O Z Z (Zo (v := U 0) Z Z (Zb (V (Zc (Zd (O Z Z (Zo (v := U 0) Z Z (Zb (V (Zc ?_)))))))))))))
 obtain ⟨k, x, an, ac, ab⟩ := QN hm
 refine QK (M := fun f' w' => ∃ s', (k = .next s' ∨ k = .brk s') ∧ (fun (i : Int) => ∃ (q : PHeap) , PHeap.le s q ∧ St w0 q (H) w' ∧ f' 0 = U d ∧ f' 3 = U i) s') ?_ ?_
 ·refine Qo (YG (fun s' f' w' => (fun (a : Int) => ∃ (t : PHeap) , PHeap.le s t ∧ St w0 t (H) w' ∧ f' 0 = U d ∧ f' 3 = U a) s') x ?_ ?_)
  ·exact ⟨s, (Zv _), hS, Z, Z⟩
  intro a l al ap y c ad
  obtain ⟨u, o, m, j, g⟩ := y
  refine Zc (Zc (Zd (O Z Z (Zm (v := U a) Z g (O Z Z (Exec.add Z Z Z (O Z Z (Zm (v := U a) Z g (O Z Z (Exec.add Z Z Z (O Z Z (Exec.mul Z Z Z (O Z Z (Zm (v := U d) Z j (O Z Z (Exec.leq Z Z Z (Zb (V ?_))))))))))))))))))
  rcases Qf c with ⟨b, c⟩ | ⟨b, c⟩
  ·refine Qr Z b (Qq (V (Qo (Zd (O Z Z (Zm (v := U a) Z g (O Z Z (Exec.add Z Z Z (O Z Z (Zo (v := U (IntKind.i64.wrap (a + 1))) Z Z (Zb (Qz (V ?_)))))))))))))
   have ai := Zu c
   subst l
   refine ⟨_, Z, ?_⟩; exact ⟨u, o, m, j, Z⟩
  refine Qs Z b ?_
  replace b := Zk b
  refine QJ (Qn (Qn (Q9 (V ?_))))
  have aj := Zu c
  subst l
  refine ⟨_, .inr (ad (by intro _ h; cases h)), ?_⟩; exact ⟨u, o, m, j, g⟩
 rintro am aq ⟨i, n, z⟩
 have hm := n.elim (ac _) (ab _)
 clear n
 obtain ⟨ag, ae, aa, ao, af⟩ := z
 refine (V (Zc (Zd (O Z Z (Zm (v := U i) Z af (O Z Z (Zo (v := U i) Z Z (Zb (V (Q0 ?_))))))))))
 have ak := Zu hm
 subst r
 refine ⟨_, QW Z, ?_⟩
 exact ⟨ag, ae, aa, Z⟩
theorem Qea {w0 w : World} {s : PHeap} {H : List Res} {g : Task} {a : Int} {i : Value} {j : Value} {k : Value} {l : Value} {r : (Option Int) × System} (hm : Yk g a = some r) (hS : St w0 s (H) w) (ac : SliceRep (Qa .i64) s i g.Vars) (ad : SliceRep (Qa .i64) s j g.Init) (ae : SliceRep encFact s k g.Goal) (af : SliceRep encOp s l g.Ops) :
  Calls Tryz.prog 57 #[Value.agg #[i, j, k, l], U a] w fun e w' => ∃ v, e = .returned v ∧ ((J2 fun (aq : (Option Int)) (h : System) => ∃ (f : PHeap) (y : Value) (z : Value) (aa : Value), PHeap.le s f ∧ St w0 f (H) w' ∧ v = Value.tuple #[Value.agg #[U (h.States), U (h.Init), y, z, aa], QD 50 (aq)] ∧ SliceRep (Qa .i64) f y h.Costs ∧ SliceRep encEdge f z h.Edges ∧ SliceRep encBool f aa h.Goals) r) := by
 unfold Yk at hm
 refine Qw Tryz.func57 Z Z (Zc (Zd (O Z Z (Exec.box (cs := [i, j, k, l]) hS Z Z Z ?_))))
 intro ar ay ag
 refine O Z Z (Exec.alloc (cs := [U 0, U 0, Vn, Vn, Vn]) ag Z38 Z Z ?_)
 intro au az p
 refine O Z Z (Zo (v := QD 50 (none)) Z Z (Zb (V (Zc (Zd (O Z Z (Ql (ds := [i, j, k, l]) (p.f1) A26 Z Z Z (O Z Z (Zm (v := U a) Z Z (O Z Z (Exec.buildSlice (Te := 3) (cs := [U a]) p Z (Qc (c := [U a]) (Qh Z Z) Qu) (fun _ => by kernel_rfl) ?_)))))))))))
 intro av a0 ah
 have ai := St.boxArr (E := (Qa .i64)) (xs := [a]) ah ⟨[U a], [], rfl, rfl, rfl⟩ (by simp [maxLen])
 obtain ⟨ax, d, aj, an⟩ := ai.freezeArr
 obtain ⟨ap, am, hm⟩ := Zg hm
 obtain ⟨ab, b⟩ := ap
 replace hm := Jp hm
 refine O Z Z (Tc Z Z Z (Zi Z (Zi Z Qk)) (Qb2 am aj (ac.mono d) (ad.mono d) (ae.mono d) (af.mono d) an).r ?_)
 rintro _ a1 ⟨ao, m, n, o, al, ak, rfl, t, u, x⟩
 refine O Z Z (Exec.extract (v := Value.agg #[U (b.States), U (b.Init), m, n, o]) Z Z Z (O Z Z (Exec.extract (v := QD 50 (ab)) Z Z Z (O Z Z (Qe (ds := [U (b.States), U (b.Init), m, n, o]) (es := [U (b.States), U (b.Init), m, n, o]) ak KS Z Z Z Z (Zj Z (Zj Z (Zj t.one (Zj u.one (Zj x.one Q5))))) (Nat.le_of_ble_eq_true Z) Z ?_)))))
 intro a2 q
 refine O Z Z (Zo (v := QD 50 (ab)) Z Z (Zb (V (Q0 ?_))))
 have aw := Zu hm
 subst r
 refine ⟨_, Qat Z ⟨_, _, Z, Kj (q) KS⟩ Z, ?_⟩
 exact ⟨ao, m, n, o, (Zt d al), (q.drop).drop, (Yp Z Z), t, u, x⟩
theorem Z87 : JL Tryz.prog 87 = some (Value.agg #[U 0, Value.slice none 0 0, Value.slice none 0 0, U 0]) := by kernel_rfl
theorem A87 : JU Tryz.prog 87 = some (true, 4) := by kernel_rfl
theorem JV : Jt Tryz.prog 38 0 = some 0 := by kernel_rfl
theorem Yh : Jt Tryz.prog 38 1 = some 1 := by kernel_rfl
theorem A85 : JU Tryz.prog 85 = some (true, 3) := by kernel_rfl
theorem Qbx : Jt Tryz.prog 85 0 = some 0 := by kernel_rfl
theorem Qan : Jt Tryz.prog 85 2 = some 2 := by kernel_rfl
theorem Qaw : Jt Tryz.prog 85 1 = some 1 := by kernel_rfl
theorem QbO {w0 w : World} {s : PHeap} {H : List Res} {a : Int} {r : Bool} (hm : Yo a = some r) (hS : St w0 s (H) w) :
  Calls Tryz.prog 126 #[U a] w fun e w' => ∃ v, e = .returned v ∧ ((fun (c : Bool) => ∃ (b : PHeap) , PHeap.le s b ∧ St w0 b (H) w' ∧ v = Value.bool (c)) r) := by
 unfold Yo at hm
 refine Qw Tryz.func126 Z Z (Zc (Zd (O Z Z (Zo (v := Vb false) Z Z (Zb (V (Zc (Zd (O Z Z (Zm (v := U a) Z Z (O Z Z (Zm (v := U a) Z Z (O Z Z (Exec.neq Z Z Z (O Z Z (Zo (v := Vb (!decide (a = a))) Z Z (Zb (V (Q0 ?_)))))))))))))))))))
 have d := Zu hm
 subst r
 refine ⟨_, QW Z, ?_⟩
 exact ⟨s, (Zv _), hS, Z⟩
theorem JC {w0 w : World} {s : PHeap} {H : List Res} {b : Int} {a : Int} {r : Int} (hm : K1 b a = some r) (hS : St w0 s (H) w) :
  Calls Tryz.prog 119 #[U b, U a] w fun e w' => ∃ v, e = .returned v ∧ ((fun (o : Int) => ∃ (m : PHeap) , PHeap.le s m ∧ St w0 m (H) w' ∧ v = U o) r) := by
 unfold K1 at hm
 refine Qw Tryz.func119 Z Z (Zc (Zd (O Z Z (Zo (v := U 0) Z Z (Zb (V (Zc (Zd (O Z Z (Zm (v := U b) Z Z (O Z Z (Tc Z Z Z (Zi Z Qk) (QbO (Yt b) hS).r ?_))))))))))))
 rintro _ aa ⟨z, d, n, rfl⟩
 refine O Z Z (Zo (v := Vb ((Jm b))) Z Z (Zb (V (Zc (Zd (O Z Z (Zm (v := U a) Z Z (O Z Z (Tc Z Z Z (Zi Z Qk) (QbO (Yt a) n).r ?_)))))))))
 rintro _ ab ⟨g, f, c, rfl⟩
 refine O Z Z (Zo (v := Vb ((Jm a))) Z Z (Zb (V (Zc (Zc (Zd (O Z Z (Zm (v := Vb ((Jm b))) Z Z (Zb (V ?_))))))))))
 rcases Qf hm with ⟨h, hm⟩ | ⟨h, hm⟩
 ·refine Qr Z h (Zc (Zc (Zd (O Z Z (Zm (v := Vb ((Jm a))) Z Z (Zb (V ?_)))))))
  rcases Qf hm with ⟨i, hm⟩ | ⟨i, hm⟩
  ·refine Qr Z i (Zc (Zd (O Z Z (Zo (v := U 0) Z Z (Zb (V (Q0 (Qi (Qi ?_)))))))))
   have p := Zu hm
   subst r
   refine ⟨_, QW Z, ?_⟩
   exact ⟨g, (Zt d f), c, Z⟩
  refine Qs Z i ?_
  replace i := Zk i
  refine Qq (V (Zc (Zd (O Z Z (Zo (v := U ((-1))) Z Z (Zb (V (Q0 (Qi ?_)))))))))
  have q := Zu hm
  subst r
  refine ⟨_, QW Z, ?_⟩
  exact ⟨g, (Zt d f), c, Z⟩
 refine Qs Z h ?_
 replace h := Zk h
 refine Qq (V (Zc (Zc (Zd (O Z Z (Zm (v := Vb ((Jm a))) Z Z (Zb (V ?_))))))))
 rcases Qf hm with ⟨j, hm⟩ | ⟨j, hm⟩
 ·refine Qr Z j (Zc (Zd (O Z Z (Zo (v := U 1) Z Z (Zb (V (Q0 (Qi ?_))))))))
  have t := Zu hm
  subst r
  refine ⟨_, QW Z, ?_⟩
  exact ⟨g, (Zt d f), c, Z⟩
 refine Qs Z j ?_
 replace j := Zk j
 refine Qq (V (Zc (Zc (Zd (O Z Z (Zm (v := U b) Z Z (O Z Z (Zm (v := U a) Z Z (O Z Z (Zq Z Z Z (Zb (V ?_))))))))))))
 rcases Qf hm with ⟨k, hm⟩ | ⟨k, hm⟩
 ·refine Qr Z k (Zc (Zd (O Z Z (Zo (v := U ((-1))) Z Z (Zb (V (Q0 (Qi ?_))))))))
  have u := Zu hm
  subst r
  refine ⟨_, QW Z, ?_⟩
  exact ⟨g, (Zt d f), c, Z⟩
 refine Qs Z k ?_
 replace k := Zk k
 refine Qq (V (Zc (Zc (Zd (O Z Z (Zm (v := U b) Z Z (O Z Z (Zm (v := U a) Z Z (O Z Z (Exec.gtr Z Z Z (Zb (V ?_))))))))))))
 rcases Qf hm with ⟨l, hm⟩ | ⟨l, hm⟩
 ·refine Qr Z l (Zc (Zd (O Z Z (Zo (v := U 1) Z Z (Zb (V (Q0 (Qi ?_))))))))
  have x := Zu hm
  subst r
  refine ⟨_, QW Z, ?_⟩
  exact ⟨g, (Zt d f), c, Z⟩
 refine Qs Z l ?_
 replace l := Zk l
 refine Qq (V (Zc (Zd (O Z Z (Zo (v := U 0) Z Z (Zb (V (Q0 ?_))))))))
 have y := Zu hm
 subst r
 refine ⟨_, QW Z, ?_⟩
 exact ⟨g, (Zt d f), c, Z⟩
theorem Qbw {w0 w : World} {s : PHeap} {H : List Res} {d : (List Int)} {c : Value} {r : Int} (hm : Ye d = some r) (hS : St w0 s (H) w) (i : SliceRep (Qa .i64) s c d) :
  Calls Tryz.prog 118 #[c] w fun e w' => ∃ v, e = .returned v ∧ ((fun (a3 : Int) => ∃ (y : PHeap) , PHeap.le s y ∧ St w0 y (H) w' ∧ v = U a3) r) := by
 unfold Ye at hm
 refine Qw Tryz.func118 Z Z (Zc (Zd (O Z Z (Zo (v := U 0) Z Z (Zb (V (Zc (Zd (O Z Z (Zo (v := U 0) Z Z (Zb (V (Zc (Zc (Zd (O Z Z (Zm (v := c) Z Z (O Z Z (Zr JG Z Z i (O Z Z (Zm (v := U 0) Z Z (Zb (V ?_)))))))))))))))))))))))
 obtain ⟨n, ad, an, al, aj⟩ := QN hm
 refine QK (M := fun f' w' => ∃ s', (n = .next s' ∨ n = .brk s') ∧ (fun (_ : Unit) => ∃ (z : PHeap) , PHeap.le s z ∧ St w0 z (H) w' ∧ f' 3 = U 0 ∧ f' 6 = c ∧ f' 7 = U ((d.length : Int))) s') ?_ ?_
 ·refine Qo (JI (fun k' s' f' w' => (fun (_ : Unit) => ∃ (aa : PHeap) , PHeap.le s aa ∧ St w0 aa (H) w' ∧ f' 3 = U 0 ∧ f' 6 = c ∧ f' 7 = U ((d.length : Int)) ∧ f' 8 = U (k' : Int)) s') ad ?_ ?_ ?_)
  ·exact ⟨s, (Zv _), hS, Z, Z, Z, Z⟩
  ·intro aq aF o a9 aJ ak ae a ao
   obtain ⟨ab, l, j, q, t, u, m⟩ := ae
   refine Zc (Zd (O Z Z (Zq Z m u (Zb (V (Zc (QL (Zx (decide_eq_true (by omega))) (Qq (V (Zc (Qo (Zc (Zd ?_)))))))))))))
   obtain ⟨g, ay, a⟩ := Zg a
   refine O Z Z (Qy JG Z t m (i.mono l) ay ?_)
   intro a4 aC ac
   refine O Z Z (Zw (E := (Qa .i64)) j A3 Z Z Z ac ?_)
   intro aI az
   obtain rfl := Qv.1 az
   refine O Z Z (Zo (v := U g) Z Z (Zb (V (Zc (Zd (O Z Z (Zm (v := U g) Z Z (O Z Z (Zm (v := U 0) Z q (O Z Z (Exec.neq Z Z Z (Zb (V ?_)))))))))))))
   rcases Qf a with ⟨b, a⟩ | ⟨b, a⟩
   ·refine Qr Z b (Zc (Zd (O Z Z (Zm (v := U g) Z Z (O Z Z (Zo (v := U g) Z Z (Zb (V (Q0 (QC (Qi (Qi (QC (Qi (Qi ?_)))))))))))))))
    have a5 := Zu a
    subst o
    have am := an _ (ao (by intro _ h; cases h))
    have a6 := Zu am
    subst r
    refine ⟨_, QW Z, ?_⟩
    exact ⟨ab, l, j, Z⟩
   refine Qs Z b ?_
   replace b := Zk b
   refine Qq (Qz (V (Zd (O Z Z (Exec.add Z m Z (O Z Z (Zm (v := U (IntKind.i64.wrap ((aq : Int) + 1))) Z Z (Zb (V ?_)))))))))
   have a7 := Zu a
   subst o
   refine ⟨_, Z, ?_⟩; exact ⟨ab, l, j, q, t, u, (Eq.trans Z (QF ak (SliceRep.le i)))⟩
  intro aG aA aK af ap
  obtain ⟨a0, ar, ah, av, aw, x, a2⟩ := af
  refine Zc (Zd (O Z Z (Zq Z a2 x (Zb (V (Zc (QB (Zx (decide_eq_false (by omega))) (QJ (Qn (Qn (Q9 (V ?_))))))))))))
  refine ⟨_, .inl ap, ?_⟩; exact ⟨a0, ar, ah, av, aw, x⟩
 rintro aB aL ⟨aH, p, ag⟩
 have hm := p.elim (al _) (aj _)
 clear p
 obtain ⟨a1, au, ai, ax, aD, aE⟩ := ag
 refine (V (Zc (Zd (O Z Z (Zm (v := U 0) Z ax (O Z Z (Zo (v := U 0) Z Z (Zb (V (Q0 ?_))))))))))
 have a8 := Zu hm
 subst r
 refine ⟨_, QW Z, ?_⟩
 exact ⟨a1, au, ai, Z⟩
theorem Qb0 {w0 w : World} {s : PHeap} {H : List Res} {a : Edge} {b : Edge} {r : Int} (hm : K8 a b = some r) (hS : St w0 s (H) w) :
  Calls Tryz.prog 88 #[Value.agg #[U (a.From), U (a.Label), U (a.To)], Value.agg #[U (b.From), U (b.Label), U (b.To)]] w fun e w' => ∃ v, e = .returned v ∧ ((fun (ab : Int) => ∃ (h : PHeap) , PHeap.le s h ∧ St w0 h (H) w' ∧ v = U ab) r) := by
 unfold K8 at hm
 refine Qw Tryz.func88 Z Z (Zc (Zd (O Z Z (Exec.box (cs := [U (a.From), U (a.Label), U (a.To)]) hS Z Z Z ?_))))
 intro ad al i
 refine O Z Z (Exec.box (cs := [U (b.From), U (b.Label), U (b.To)]) i Z Z Z ?_)
 intro ae am j
 refine O Z Z (Zo (v := U 0) Z Z (Zb (V (Zc (KT (n0 := 17) (qs 0 4 (qs 5 4 (qs 10 4 (.e 4 [5, 6, 7, 8, 10, 11, 12, 13] (.e 9 [10, 11, 12, 13] (.e 14 [] (.e 15 [] (.e 16 [] .done)))))))) Yc (by kernel_rfl) (by kernel_rfl) ?_)))))
 have d := j.drew
 refine Qm Z Z (Zp Qbx Z Z Z ⟨Z, ?_⟩)
 refine Qm Z Z (Zn (d.f1) A3 Z Z Z ⟨Z, ?_⟩)
 refine Qm Z Z (Zp Qbx Z Z Z ⟨Z, ?_⟩)
 refine Qm Z Z (Zn (d) A3 Z Z Z ⟨Z, ?_⟩)
 refine Qm Z Z (Zp Qaw Z Z Z ⟨Z, ?_⟩)
 refine Qm Z Z (Zn (d.f1) A3 Z Z Z ⟨Z, ?_⟩)
 refine Qm Z Z (Zp Qaw Z Z Z ⟨Z, ?_⟩)
 refine Qm Z Z (Zn (d) A3 Z Z Z ⟨Z, ?_⟩)
 refine Qm Z Z (Zp Qan Z Z Z ⟨Z, ?_⟩)
 refine Qm Z Z (Zn (d.f1) A3 Z Z Z ⟨Z, ?_⟩)
 refine Qm Z Z (Zp Qan Z Z Z ⟨Z, ?_⟩)
 refine Qm Z Z (Zn (d) A3 Z Z Z ⟨Z, ?_⟩)
 refine JQ Z Z (Tc Z Z Z (Zi Z (Zi Z Qk)) (JC (Jy a.From b.From) d).r ?_)
 rintro _ an ⟨ah, p, f, rfl⟩
 refine ⟨(Qb (Q4 Z Z (Zp Qaw Z Z Z ⟨Z, Z⟩)) (Qb (Q4 Z Z (Zn (f.f1) A3 Z Z Z ⟨Z, Z⟩)) (Qb (Q4 Z Z (Zp Qaw Z Z Z ⟨Z, Z⟩)) (Qb (Q4 Z Z (Zn (f) A3 Z Z Z ⟨Z, Z⟩)) (Qb (Q4 Z Z (Zp Qan Z Z Z ⟨Z, Z⟩)) (Qb (Q4 Z Z (Zn (f.f1) A3 Z Z Z ⟨Z, Z⟩)) (Qb (Q4 Z Z (Zp Qan Z Z Z ⟨Z, Z⟩)) (Qb (Q4 Z Z (Zn (f) A3 Z Z Z ⟨Z, Z⟩)) QV)))))))), ?_⟩
 refine JQ Z Z (Tc Z Z Z (Zi Z (Zi Z Qk)) (JC (Jy a.Label b.Label) f).r ?_)
 rintro _ ao ⟨ai, q, g, rfl⟩
 refine ⟨(Qb (Q4 Z Z (Zp Qan Z Z Z ⟨Z, Z⟩)) (Qb (Q4 Z Z (Zn (g.f1) A3 Z Z Z ⟨Z, Z⟩)) (Qb (Q4 Z Z (Zp Qan Z Z Z ⟨Z, Z⟩)) (Qb (Q4 Z Z (Zn (g) A3 Z Z Z ⟨Z, Z⟩)) QV)))), ?_⟩
 refine JQ Z Z (Tc Z Z Z (Zi Z (Zi Z Qk)) (JC (Jy a.To b.To) g).r ?_)
 rintro _ ap ⟨aj, t, k, rfl⟩
 refine ⟨QV, ?_⟩
 refine JQ Z Z (Exec.buildSlice (Te := 3) (cs := [U ((Qp a.From b.From)), U ((Qp a.Label b.Label)), U ((Qp a.To b.To))]) k Z (Qc (c := [U ((Qp a.From b.From))]) (Qh Z Z) (Qc (c := [U ((Qp a.Label b.Label))]) (Qh Z Z) (Qc (c := [U ((Qp a.To b.To))]) (Qh Z Z) Qu))) (fun _ => by kernel_rfl) ?_)
 intro af aq l
 refine ⟨QV, ?_⟩
 have m := St.boxArr (E := (Qa .i64)) (xs := [(Qp a.From b.From), (Qp a.Label b.Label), (Qp a.To b.To)]) l ⟨[U ((Qp a.From b.From))], [U ((Qp a.Label b.Label)), U ((Qp a.To b.To))], rfl, rfl, ⟨[U ((Qp a.Label b.Label))], [U ((Qp a.To b.To))], rfl, rfl, ⟨[U ((Qp a.To b.To))], [], rfl, rfl, rfl⟩⟩⟩ (by simp [maxLen])
 obtain ⟨ak, u, n, z⟩ := m.freezeArr
 obtain ⟨ac, y, hm⟩ := Zg hm
 refine JQ Z Z (Tc Z Z Z (Zi Z Qk) (Qbw y n z).r ?_)
 rintro _ ar ⟨aa, x, o, rfl⟩
 refine ⟨QV, ?_⟩
 refine QG (O Z Z (Zo (v := U ac) Z Z (Zb (V (Q0 ?_)))))
 have ag := Zu hm
 subst r
 refine ⟨_, QW Z, ?_⟩
 exact ⟨aa, (Zt (Zt (Zt (Zt p q) t) u) x), (o.drop).drop, Z⟩
theorem KZ {w0 w : World} {s : PHeap} {H : List Res} {a : System} {o : Value} {p : Value} {af : Value} {r : Bool} (hm : Ke a = some r) (hS : St w0 s (H) w) (ar : SliceRep (Qa .i64) s o a.Costs) (au : SliceRep encEdge s p a.Edges) (be : SliceRep encBool s af a.Goals) :
  Calls Tryz.prog 60 #[Value.agg #[U (a.States), U (a.Init), o, p, af]] w fun e w' => ∃ v, e = .returned v ∧ ((fun (ch : Bool) => ∃ (aT : PHeap) , PHeap.le s aT ∧ St w0 aT (H) w' ∧ v = Value.bool (ch)) r) := by
 unfold Ke at hm
 refine Qw Tryz.func60 Z Z (Zc (Zd (O Z Z (Exec.box (cs := [U (a.States), U (a.Init), o, p, af]) hS Z Z Z ?_))))
 intro g cU d
 refine O Z Z (Zo (v := Vb false) Z Z (Zb (V (Zc (Zc (QK (M := fun f' w' => ∃ (aU : PHeap) , PHeap.le s aU ∧ St w0 aU (Res.box g 38 [U (a.States), U (a.Init), o, p, af] :: H) w' ∧ f' 1 = Vq g ∧ f' 46 = Vb (((decide (a.States < 1)) || ((decide (4096 < a.States)) || ((decide (a.Init < 0)) || ((decide (a.States ≤ a.Init)) || ((!decide ((a.Goals.length : Int) = a.States)) || ((decide (4096 < (a.Costs.length : Int))) || decide (65536 < (a.Edges.length : Int)))))))))) ?_ ?_))))))
 ·refine Zd (O Z Z (Zp JV Z Z Z (O Z Z (Zn (d) A3 Z Z Z (O Z Z (Zq Z Z Z (O Z Z (Zm (v := Vb (decide (a.States < 1))) Z Z ?_))))))))
  by_cases i : (decide (a.States < 1)) = true
  ·refine Qx 36 (by rw [i]; rfl) ?_
   refine Zb (V ?_)
   exact ⟨s, (Zv _), d, Z, (Zx (Qd7 i)).symm⟩
  replace i := Zk i
  refine Qj Z (Zf Z (Zx i)) Z (Zp JV Z Z Z (Qj Z (Zf Z (Zx i)) Z (Zn (d) A3 Z Z Z (Qj Z (Zf Z (Zx i)) Z (Exec.gtr Z Z Z ?_)))))
  refine Qx 2 (by rw [i]; rfl) ?_
  by_cases n : (decide (4096 < a.States)) = true
  ·refine Qx 31 (by rw [n]; rfl) ?_
   refine Zb (V ?_)
   exact ⟨s, (Zv _), d, Z, (Zx (Eq.trans (YV i) (Qd7 n))).symm⟩
  replace n := Zk n
  refine Qj Z (Zf Z (Zx n)) Z (Zp Yh Z Z Z (Qj Z (Zf Z (Zx n)) Z (Zn (d) A3 Z Z Z (Qj Z (Zf Z (Zx n)) Z (Zq Z Z Z ?_)))))
  refine Qx 2 (by rw [n]; rfl) ?_
  by_cases j : (decide (a.Init < 0)) = true
  ·refine Qx 26 (by rw [j]; rfl) ?_
   refine Zb (V ?_)
   exact ⟨s, (Zv _), d, Z, (Zx (Eq.trans (YV i) (Eq.trans (YV n) (Qd7 j)))).symm⟩
  replace j := Zk j
  refine Qj Z (Zf Z (Zx j)) Z (Zp Yh Z Z Z (Qj Z (Zf Z (Zx j)) Z (Zn (d) A3 Z Z Z (Qj Z (Zf Z (Zx j)) Z (Zp JV Z Z Z (Qj Z (Zf Z (Zx j)) Z (Zn (d) A3 Z Z Z (Qj Z (Zf Z (Zx j)) Z (Exec.geq Z Z Z ?_)))))))))
  refine Qx 2 (by rw [j]; rfl) ?_
  by_cases l : (decide (a.States ≤ a.Init)) = true
  ·refine Qx 19 (by rw [l]; rfl) ?_
   refine Zb (V ?_)
   exact ⟨s, (Zv _), d, Z, (Zx (Eq.trans (YV i) (Eq.trans (YV n) (Eq.trans (YV j) (Qd7 l))))).symm⟩
  replace l := Zk l
  refine Qj Z (Zf Z (Zx l)) Z (Zp Qby Z Z Z (Qj Z (Zf Z (Zx l)) Z (Zn (d) A36 Z Z Z (Qj Z (Zf Z (Zx l)) Z (Zr S36 Z Z be (Qj Z (Zf Z (Zx l)) Z (Zp JV Z Z Z (Qj Z (Zf Z (Zx l)) Z (Zn (d) A3 Z Z Z (Qj Z (Zf Z (Zx l)) Z (Exec.neq Z Z Z ?_)))))))))))
  refine Qx 2 (by rw [l]; rfl) ?_
  by_cases x : (!decide ((a.Goals.length : Int) = a.States)) = true
  ·refine Qx 11 (by rw [x]; rfl) ?_
   refine Zb (V ?_)
   exact ⟨s, (Zv _), d, Z, (Zx (Eq.trans (YV i) (Eq.trans (YV n) (Eq.trans (YV j) (Eq.trans (YV l) (Qd7 x)))))).symm⟩
  replace x := Zk x
  refine Qj Z (Zf Z (Zx x)) Z (Zp QaZ Z Z Z (Qj Z (Zf Z (Zx x)) Z (Zn (d) A22 Z Z Z (Qj Z (Zf Z (Zx x)) Z (Zr JG Z Z ar (Qj Z (Zf Z (Zx x)) Z (Exec.gtr Z Z Z ?_)))))))
  refine Qx 2 (by rw [x]; rfl) ?_
  by_cases ac : (decide (4096 < (a.Costs.length : Int))) = true
  ·refine Qx 5 (by rw [ac]; rfl) ?_
   refine Zb (V ?_)
   exact ⟨s, (Zv _), d, Z, (Zx (Eq.trans (YV i) (Eq.trans (YV n) (Eq.trans (YV j) (Eq.trans (YV l) (Eq.trans (YV x) (Qd7 ac))))))).symm⟩
  replace ac := Zk ac
  refine Qj Z (Zf Z (Zx ac)) Z (Zp QaN Z Z Z (Qj Z (Zf Z (Zx ac)) Z (Zn (d) A35 Z Z Z (Qj Z (Zf Z (Zx ac)) Z (Zr S35 Z Z au (Qj Z (Zf Z (Zx ac)) Z (Exec.gtr Z Z Z (O Z Z (Q8 (v := Vb (decide (65536 < (a.Edges.length : Int)))) Z (Zx ac) Z (Zb (V ?_)))))))))))
  exact ⟨s, (Zv _), d, Z, (Zx (Eq.trans (YV i) (Eq.trans (YV n) (Eq.trans (YV j) (Eq.trans (YV l) (Eq.trans (YV x) (YV ac))))))).symm⟩
 intro c4 cV bo
 obtain ⟨az, q, a1, aL, aM⟩ := bo
 refine (V ?_)
 rcases Qf hm with ⟨av, hm⟩ | ⟨av, hm⟩
 ·refine Qr aM av (Zc (Zd (O Z Z (Zo (v := Vb false) Z Z (Zb (V (Q0 (Qi ?_))))))))
  have cm := Zu hm
  subst r
  refine ⟨_, QW Z, ?_⟩
  exact ⟨az, q, a1.drop, Z⟩
 refine Qs aM av ?_
 replace av := Zk av
 refine Qq (V (Zc (Zc (Zd (O Z Z (Zp QaZ Z aL Z (O Z Z (Zn (a1) A22 Z Z Z (O Z Z (Zr JG Z Z (ar.mono q) (O Z Z (Zm (v := U 0) Z Z (Zb (V ?_))))))))))))))
 obtain ⟨a8, bi, b8, b4, b0⟩ := QN hm
 refine QK (M := fun f' w' => ∃ s', (a8 = .next s' ∨ a8 = .brk s') ∧ (fun (_ : Unit) => ∃ (aV : PHeap) , PHeap.le az aV ∧ St w0 aV (Res.box g 38 [U (a.States), U (a.Init), o, p, af] :: H) w' ∧ f' 1 = Vq g ∧ f' 48 = o ∧ f' 49 = U ((a.Costs.length : Int))) s') ?_ ?_
 ·refine Qo (JI (fun k' s' f' w' => (fun (_ : Unit) => ∃ (aW : PHeap) , PHeap.le az aW ∧ St w0 aW (Res.box g 38 [U (a.States), U (a.Init), o, p, af] :: H) w' ∧ f' 1 = Vq g ∧ f' 48 = o ∧ f' 49 = U ((a.Costs.length : Int)) ∧ f' 50 = U (k' : Int)) s') bi ?_ ?_ ?_)
  ·exact ⟨az, (Zv _), a1, aL, Z, Z, Z⟩
  ·intro aI cL a9 c5 cW b2 bk ao bA
   obtain ⟨a6, a3, a2, aN, a4, a5, a0⟩ := bk
   refine Zc (Zd (O Z Z (Zq Z a0 a5 (Zb (V (Zc (QL (Zx (decide_eq_true (by omega))) (Qq (V (Zc (Qo (Zc (Zd ?_)))))))))))))
   obtain ⟨an, bU, ao⟩ := Zg ao
   refine O Z Z (Qy JG Z a4 a0 (ar.mono (Zt q a3)) bU ?_)
   intro ci cD bf
   refine O Z Z (Zw (E := (Qa .i64)) a2 A3 Z Z Z bf ?_)
   intro cR bV
   obtain rfl := Qv.1 bV
   refine O Z Z (Zo (v := U an) Z Z (Zb (V (Zc (QK (M := fun f' w' => ∃ (aX : PHeap) , PHeap.le a6 aX ∧ St w0 aX (Res.box g 38 [U (a.States), U (a.Init), o, p, af] :: H) w' ∧ f' 1 = Vq g ∧ f' 48 = o ∧ f' 49 = U ((a.Costs.length : Int)) ∧ f' 50 = U ((aI : Int)) ∧ f' 59 = Vb (((decide (an < 0)) || decide (1048576 < an)))) ?_ ?_)))))
   ·refine Zd (O Z Z (Zm (v := U an) Z Z (O Z Z (Zq Z Z Z (O Z Z (Zm (v := Vb (decide (an < 0))) Z Z ?_))))))
    by_cases aj : (decide (an < 0)) = true
    ·refine Qx 3 (by rw [aj]; rfl) ?_
     refine Zb (V ?_)
     exact ⟨a6, (Zv _), a2, aN, a4, a5, a0, (Zx (Qd7 aj)).symm⟩
    replace aj := Zk aj
    refine Qj Z (Zf Z (Zx aj)) Z (Zm (v := U an) Z Z (Qj Z (Zf Z (Zx aj)) Z (Exec.gtr Z Z Z (O Z Z (Q8 (v := Vb (decide (1048576 < an))) Z (Zx aj) Z (Zb (V ?_)))))))
    exact ⟨a6, (Zv _), a2, aN, a4, a5, a0, (Zx (YV aj)).symm⟩
   intro c6 cX bp
   obtain ⟨aY, aJ, aC, bI, bJ, bK, bL, aO⟩ := bp
   refine (V ?_)
   rcases Qf ao with ⟨aw, ao⟩ | ⟨aw, ao⟩
   ·refine Qr aO aw (Zc (Zd (O Z Z (Zo (v := Vb false) Z Z (Zb (V (Q0 (QC (Qi (Qi (QC (Qi (Qi ?_)))))))))))))
    have cn := Zu ao
    subst a9
    have b6 := b8 _ (bA (by intro _ h; cases h))
    have co := Zu b6
    subst r
    refine ⟨_, QW Z, ?_⟩
    exact ⟨aY, (Zt (Zt q a3) aJ), aC.drop, Z⟩
   refine Qs aO aw ?_
   replace aw := Zk aw
   refine Qq (Qz (V (Zd (O Z Z (Exec.add Z bL Z (O Z Z (Zm (v := U (IntKind.i64.wrap ((aI : Int) + 1))) Z Z (Zb (V ?_)))))))))
   have cp := Zu ao
   subst a9
   refine ⟨_, Z, ?_⟩; exact ⟨aY, (Zt a3 aJ), aC, bI, bJ, bK, (Eq.trans Z (QF b2 (SliceRep.le (ar.mono q))))⟩
  intro cM c7 cY bl bB
  obtain ⟨cb, bE, bt, bM, bN, aP, cf⟩ := bl
  refine Zc (Zd (O Z Z (Zq Z cf aP (Zb (V (Zc (QB (Zx (decide_eq_false (by omega))) (QJ (Qn (Qn (Q9 (V ?_))))))))))))
  refine ⟨_, .inl bB, ?_⟩; exact ⟨cb, bE, bt, bM, bN, aP⟩
 rintro c8 cZ ⟨cN, aG, bq⟩
 have hm := aG.elim (b4 _) (b0 _)
 clear aG
 obtain ⟨a7, aq, aD, aQ, cG, cH⟩ := bq
 refine (V (Zc (Zc (Zd (O Z Z (Zp QaN Z aQ Z (O Z Z (Zn (aD) A35 Z Z Z (O Z Z (Zr S35 Z Z (au.mono (Zt q aq)) (O Z Z (Zm (v := U 0) Z Z (Zb (V ?_))))))))))))))
 obtain ⟨aA, bj, b9, b5, b1⟩ := QN hm
 refine QK (M := fun f' w' => ∃ s', (aA = .next s' ∨ aA = .brk s') ∧ (fun (_ : Unit) => ∃ (aZ : PHeap) , PHeap.le a7 aZ ∧ St w0 aZ (Res.box g 38 [U (a.States), U (a.Init), o, p, af] :: H) w' ∧ f' 1 = Vq g ∧ f' 62 = p ∧ f' 63 = U ((a.Edges.length : Int))) s') ?_ ?_
 ·refine Qo (JI (fun k' s' f' w' => (fun (_ : Unit) => ∃ (ba : PHeap) , PHeap.le a7 ba ∧ St w0 ba (Res.box g 38 [U (a.States), U (a.Init), o, p, af] :: H) w' ∧ f' 1 = Vq g ∧ f' 62 = p ∧ f' 63 = U ((a.Edges.length : Int)) ∧ f' 64 = U (k' : Int)) s') bj ?_ ?_ ?_)
  ·exact ⟨a7, (Zv _), aD, aQ, Z, Z, Z⟩
  ·intro ap cO aB c9 da b3 bm ag bC
   obtain ⟨am, ay, aE, t, ah, ai, aa⟩ := bm
   refine Zc (Zd (O Z Z (Zq Z aa ai (Zb (V (Zc (QL (Zx (decide_eq_true (by omega))) (Qq (V (Zc (Qo (Zc (Zd (O Z Z (Zm (v := U ((ap : Int))) Z aa ?_)))))))))))))))
   obtain ⟨u, bW, ag⟩ := Zg ag
   refine O Z Z (Qy S35 Z ah aa (au.mono (Zt (Zt q aq) ay)) bW ?_)
   intro cj cE bg
   refine O Z Z (Zw (E := encEdge) aE A85 Z Z Z bg ?_)
   intro cS bX
   obtain rfl := JX.1 bX
   refine O Z Z (Exec.alloc (cs := [U 0, U 0, U 0]) aE Z85 Z Z ?_)
   intro ck db bu
   refine O Z Z (Zo (v := U ((ap : Int))) Z Z (O Z Z (Qe (ds := [U (u.From), U (u.Label), U (u.To)]) (es := [U (u.From), U (u.Label), U (u.To)]) bu A85 Z Z Z Z (Zj Z (Zj Z (Zj Z Q5))) (Nat.le_of_ble_eq_true Z) Z ?_)))
   intro dc bv
   refine Zb (V (Zc ?_))
   obtain ⟨ab, b, ag⟩ := Zg ag
   refine QK (M := fun f' w' => (fun (ab : Bool) => ∃ (bb : PHeap) , PHeap.le am bb ∧ St w0 bb (Res.box g 38 [U (a.States), U (a.Init), o, p, af] :: H) w' ∧ f' 1 = Vq g ∧ f' 62 = p ∧ f' 63 = U ((a.Edges.length : Int)) ∧ f' 64 = U ((ap : Int)) ∧ f' 118 = Vb ab) ab) ?_ ?_
   ·refine KT (n0 := 50) (qs 0 46 (.e 46 [] (qs 47 3 .done))) Yc (by kernel_rfl) (by kernel_rfl) ?_
    have c := bv.drew
    refine Qm Z Z (Zp Qbx Z Z Z ⟨Z, ?_⟩)
    refine Qm Z Z (Zn (c) A3 Z Z Z ⟨Z, ?_⟩)
    refine Qm Z Z (Zq Z Z Z ⟨Z, ?_⟩)
    refine Qm Z Z (Zm (v := Vb (decide (u.From < 0))) Z Z ⟨Z, ?_⟩)
    rcases Qf b with ⟨ad, b⟩ | ⟨ad, b⟩
    ·refine Jh 46 (by rw [ad]; rfl) ?_
     refine QG (Zb (V ?_))
     have cq := Zu b
     subst ab
     exact ⟨am, (Zv _), c.drop, t, ah, ai, aa, Z⟩
    replace ad := Zk ad
    refine QE Z Z (Zf Z (Zx ad)) (Zp Qbx Z Z Z ⟨Z, ?_⟩)
    refine QE Z Z (Zf Z (Zx ad)) (Zn (c) A3 Z Z Z ⟨Z, ?_⟩)
    refine QE Z Z (Zf Z (Zx ad)) (Zp JV Z t Z ⟨Z, ?_⟩)
    refine QE Z Z (Zf Z (Zx ad)) (Zn (c.f1) A3 Z Z Z ⟨Z, ?_⟩)
    refine QE Z Z (Zf Z (Zx ad)) (Exec.geq Z Z Z ⟨Z, ?_⟩)
    refine Jh 2 (by rw [ad]; rfl) ?_
    rcases Qf b with ⟨ak, b⟩ | ⟨ak, b⟩
    ·refine Jh 39 (by rw [ak]; rfl) ?_
     refine QG (Zb (V ?_))
     have cr := Zu b
     subst ab
     exact ⟨am, (Zv _), c.drop, t, ah, ai, aa, Z⟩
    replace ak := Zk ak
    refine QE Z Z (Zf Z (Zx ak)) (Zp Qan Z Z Z ⟨Z, ?_⟩)
    refine QE Z Z (Zf Z (Zx ak)) (Zn (c) A3 Z Z Z ⟨Z, ?_⟩)
    refine QE Z Z (Zf Z (Zx ak)) (Zq Z Z Z ⟨Z, ?_⟩)
    refine Jh 2 (by rw [ak]; rfl) ?_
    rcases Qf b with ⟨ae, b⟩ | ⟨ae, b⟩
    ·refine Jh 34 (by rw [ae]; rfl) ?_
     refine QG (Zb (V ?_))
     have ct := Zu b
     subst ab
     exact ⟨am, (Zv _), c.drop, t, ah, ai, aa, Z⟩
    replace ae := Zk ae
    refine QE Z Z (Zf Z (Zx ae)) (Zp Qan Z Z Z ⟨Z, ?_⟩)
    refine QE Z Z (Zf Z (Zx ae)) (Zn (c) A3 Z Z Z ⟨Z, ?_⟩)
    refine QE Z Z (Zf Z (Zx ae)) (Zp JV Z t Z ⟨Z, ?_⟩)
    refine QE Z Z (Zf Z (Zx ae)) (Zn (c.f1) A3 Z Z Z ⟨Z, ?_⟩)
    refine QE Z Z (Zf Z (Zx ae)) (Exec.geq Z Z Z ⟨Z, ?_⟩)
    refine Jh 2 (by rw [ae]; rfl) ?_
    rcases Qf b with ⟨al, b⟩ | ⟨al, b⟩
    ·refine Jh 27 (by rw [al]; rfl) ?_
     refine QG (Zb (V ?_))
     have cu := Zu b
     subst ab
     exact ⟨am, (Zv _), c.drop, t, ah, ai, aa, Z⟩
    replace al := Zk al
    refine QE Z Z (Zf Z (Zx al)) (Zp Qaw Z Z Z ⟨Z, ?_⟩)
    refine QE Z Z (Zf Z (Zx al)) (Zn (c) A3 Z Z Z ⟨Z, ?_⟩)
    refine QE Z Z (Zf Z (Zx al)) (Zq Z Z Z ⟨Z, ?_⟩)
    refine Jh 2 (by rw [al]; rfl) ?_
    rcases Qf b with ⟨y, b⟩ | ⟨y, b⟩
    ·refine Jh 22 (by rw [y]; rfl) ?_
     refine QG (Zb (V ?_))
     have cv := Zu b
     subst ab
     exact ⟨am, (Zv _), c.drop, t, ah, ai, aa, Z⟩
    replace y := Zk y
    refine QE Z Z (Zf Z (Zx y)) (Zp Qaw Z Z Z ⟨Z, ?_⟩)
    refine QE Z Z (Zf Z (Zx y)) (Zn (c) A3 Z Z Z ⟨Z, ?_⟩)
    refine QE Z Z (Zf Z (Zx y)) (Zp QaZ Z t Z ⟨Z, ?_⟩)
    refine QE Z Z (Zf Z (Zx y)) (Zn (c.f1) A22 Z Z Z ⟨Z, ?_⟩)
    refine QE Z Z (Zf Z (Zx y)) (Zr JG Z Z (ar.mono (Zt (Zt q aq) ay)) ⟨Z, ?_⟩)
    refine QE Z Z (Zf Z (Zx y)) (Exec.geq Z Z Z ⟨Z, ?_⟩)
    refine Qm Z Z (Q8 (v := Vb (decide ((a.Costs.length : Int) ≤ u.Label))) Z (Zx y) Z ⟨Z, ?_⟩)
    refine Qm Z Z (Zm (v := Vb (decide ((a.Costs.length : Int) ≤ u.Label))) Z Z ⟨Z, ?_⟩)
    rcases Qf b with ⟨z, b⟩ | ⟨z, b⟩
    ·refine Jh 14 (by rw [z]; rfl) ?_
     refine QG (Zb (V ?_))
     have cw := Zu b
     subst ab
     exact ⟨am, (Zv _), c.drop, t, ah, ai, aa, Z⟩
    replace z := Zk z
    refine QE Z Z (Zf Z (Zx z)) (Zm (v := U ((ap : Int))) Z Z ⟨Z, ?_⟩)
    refine QE Z Z (Zf Z (Zx z)) (Exec.gtr Z Z Z ⟨Z, ?_⟩)
    refine QE Z Z (Zf Z (Zx z)) (Zm (v := Vb (decide (0 < (ap : Int)))) Z Z ⟨Z, ?_⟩)
    rcases Qf b with ⟨m, b⟩ | ⟨m, b⟩
    ·refine QE Z Z (Zf Z (Zx m)) (Zp QaN Z t Z ⟨Z, ?_⟩)
     refine QE Z Z (Zf Z (Zx m)) (Zn (c.f1) A35 Z Z Z ⟨Z, ?_⟩)
     refine QE Z Z (Zf Z (Zx m)) (Zm (v := U ((ap : Int))) Z Z ⟨Z, ?_⟩)
     refine QE Z Z (Zf Z (Zx m)) (Exec.sub Z Z Z ⟨Z, ?_⟩)
     obtain ⟨dh, bY, b⟩ := Zg b
     refine QE Z Z (Zf Z (Zx m)) (QT S35 Z Z Z (au.mono (Zt (Zt q aq) ay)) bY ?_)
     intro cl cF bh cx
     refine ⟨Z, ?_⟩
     refine QE Z Z (Zf Z (Zx m)) (Zw (E := encEdge) c A85 Z Z Z bh ?_)
     intro cT bZ
     obtain rfl := JX.1 bZ
     refine ⟨Z, ?_⟩
     refine QE Z Z (Zf Z (Zx m)) (Ql (ds := [U (u.From), U (u.Label), U (u.To)]) (c) A85 Z Z Z ⟨Z, ?_⟩)
     obtain ⟨bd, ca, b⟩ := Zg b
     refine Qnk Z Z (Zf Z (Zx m)) (Tc Z Z Z (Zi Z (Zi Z Qk)) (Qb0 ca c).r ?_)
     rintro _ dd ⟨cc, bF, bw, rfl⟩
     refine ⟨QV, ?_⟩
     refine QE Z Z (Zf Z (Zx m)) (Exec.geq Z Z Z ⟨Z, ?_⟩)
     refine QE Z Z (Zf Z (Zx z)) (Zs (v := Vb (decide (0 ≤ bd))) Z (Zx m) Z ⟨Z, ?_⟩)
     refine Qm Z Z (Q8 (v := Vb (decide (0 ≤ bd))) Z (Zx z) Z ⟨Z, ?_⟩)
     refine QG (Zb (V ?_))
     have cy := Zu b
     subst ab
     exact ⟨cc, bF, bw.drop, t, ah, ai, aa, Z⟩
    replace m := Zk m
    refine Jh 9 (by rw [m]; rfl) ?_
    refine QE Z Z (Zf Z (Zx z)) (Q8 (v := Vb false) Z Z Z ⟨Z, ?_⟩)
    refine Qm Z Z (Q8 (v := Vb false) Z (Zx z) Z ⟨Z, ?_⟩)
    refine QG (Zb (V ?_))
    have cz := Zu b
    subst ab
    exact ⟨am, (Zv _), c.drop, t, ah, ai, aa, Z⟩
   intro cA de br
   obtain ⟨bc, aK, aF, bO, bP, bQ, bR, aR⟩ := br
   refine (V ?_)
   rcases Qf ag with ⟨ax, ag⟩ | ⟨ax, ag⟩
   ·refine Qr aR ax (Zc (Zd (O Z Z (Zo (v := Vb false) Z Z (Zb (V (Q0 (QC (Qi (Qi (QC (Qi (Qi ?_)))))))))))))
    have c0 := Zu ag
    subst aB
    have b7 := b9 _ (bC (by intro _ h; cases h))
    have c1 := Zu b7
    subst r
    refine ⟨_, QW Z, ?_⟩
    exact ⟨bc, (Zt (Zt (Zt q aq) ay) aK), aF.drop, Z⟩
   refine Qs aR ax ?_
   replace ax := Zk ax
   refine Qq (Qz (V (Zd (O Z Z (Exec.add Z bR Z (O Z Z (Zm (v := U (IntKind.i64.wrap ((ap : Int) + 1))) Z Z (Zb (V ?_)))))))))
   have c2 := Zu ag
   subst aB
   refine ⟨_, Z, ?_⟩; exact ⟨bc, (Zt ay aK), aF, bO, bP, bQ, (Eq.trans Z (QF b3 (SliceRep.le (au.mono (Zt q aq)))))⟩
  intro cP cB df bn bD
  obtain ⟨cd, bG, bx, bS, bT, aS, cg⟩ := bn
  refine Zc (Zd (O Z Z (Zq Z cg aS (Zb (V (Zc (QB (Zx (decide_eq_false (by omega))) (QJ (Qn (Qn (Q9 (V ?_))))))))))))
  refine ⟨_, .inl bD, ?_⟩; exact ⟨cd, bG, bx, bS, bT, aS⟩
 rintro cC dg ⟨cQ, aH, bs⟩
 have hm := aH.elim (b5 _) (b1 _)
 clear aH
 obtain ⟨ce, bH, bz, cI, cJ, cK⟩ := bs
 refine (V (Zc (Zd (O Z Z (Zo (v := Vb true) Z Z (Zb (V (Q0 ?_))))))))
 have c3 := Zu hm
 subst r
 refine ⟨_, QW Z, ?_⟩
 exact ⟨ce, (Zt (Zt q aq) bH), bz.drop, Z⟩
theorem Qkj : Je Tryz.prog 162 = some (9, 1, 16) := by kernel_rfl
theorem Z9 : JL Tryz.prog 9 = some (Value.string ⟨#[]⟩) := by kernel_rfl
theorem A4 : JU Tryz.prog 4 = some (false, 1) := by kernel_rfl
theorem QbR {w0 w : World} {s : PHeap} {H : List Res} {b : Bool} {r : ByteArray} (hm : Kc b = some r) (hS : St w0 s (H) w) :
  Calls Tryz.prog 130 #[Value.bool (b)] w fun e w' => ∃ v, e = .returned v ∧ ((fun (d : ByteArray) => ∃ (c : PHeap) , PHeap.le s c ∧ St w0 c (H) w' ∧ v = Value.string (d)) r) := by
 unfold Kc at hm
 refine Qw Tryz.func130 Z Z (Zc (Zd (O Z Z (Zo (v := Value.string (⟨#[]⟩)) Z Z (Zb (V (Zc (Zc (Zd (O Z Z (Zm (v := Vb b) Z Z (Zb (V ?_)))))))))))))
 rcases Qf hm with ⟨a, hm⟩ | ⟨a, hm⟩
 ·refine Qr Z a (Zc (Zd (O Z Z (Zo (v := Value.string (⟨#[116, 114, 117, 101]⟩)) Z Z (Zb (V (Q0 (Qi ?_))))))))
  have f := Zu hm
  subst r
  refine ⟨_, QW Z, ?_⟩
  exact ⟨s, (Zv _), hS, Z⟩
 refine Qs Z a ?_
 replace a := Zk a
 refine Qq (V (Zc (Zd (O Z Z (Zo (v := Value.string (⟨#[102, 97, 108, 115, 101]⟩)) Z Z (Zb (V (Q0 ?_))))))))
 have g := Zu hm
 subst r
 refine ⟨_, QW Z, ?_⟩
 exact ⟨s, (Zv _), hS, Z⟩
theorem QcO {w0 w : World} {s : PHeap} {H : List Res} {a : Bool} {r : ByteArray} (hm : K6 a = some r) (hS : St w0 s (H) w) :
  Calls Tryz.prog 112 #[Value.bool (a)] w fun e w' => ∃ v, e = .returned v ∧ ((fun (g : ByteArray) => ∃ (b : PHeap) , PHeap.le s b ∧ St w0 b (H) w' ∧ v = Value.string (g)) r) := by
 unfold K6 at hm
 refine Qw Tryz.func112 Z Z (Zc (Zd (O Z Z (Zo (v := Value.string (⟨#[]⟩)) Z Z (Zb (V (Zc (Zd (O Z Z (Zm (v := Vb a) Z Z (O Z Z (Tc Z Z Z (Zi Z Qk) (QbR (YF a) hS).r ?_))))))))))))
 rintro _ i ⟨f, d, c, rfl⟩
 refine O Z Z (Zo (v := Value.string ((JK a))) Z Z (Zb (V (Q0 ?_))))
 have h := Zu hm
 subst r
 refine ⟨_, QW Z, ?_⟩
 exact ⟨f, d, c, Z⟩
theorem QaO {w0 w : World} {s : PHeap} {H : List Res} {j : (List ByteArray)} {g : Value} {r : (List Int) × Int} (hm : Ks j = some r) (hS : St w0 s (Res.arr encStr 9 g j :: H) w) :
  Calls Tryz.prog 113 #[g] w fun e w' => ∃ v, e = .returned v ∧ ((J2 fun (aL : (List Int)) (aM : Int) => ∃ (ai : PHeap) (al : Value), PHeap.le s ai ∧ St w0 ai (Res.arr encStr 9 g j :: Res.arr (Qa .i64) 3 al aL :: H) w' ∧ v = Value.tuple #[al, U aM]) r) := by
 unfold Ks at hm
 refine Qw Tryz.func113 Z Z (Zc (Zd (O Z Z (Zo (v := Vn) Z Z (O Z Z (Zo (v := U 0) Z Z (Zb (V (Zc (Zd (O Z Z (QgM (k := 9) (e := 3) hS Z ?_))))))))))))
 intro d bb y
 refine O Z Z (Zo (v := Value.map (some d)) Z Z (Zb (V (Zc (Zd (O Z Z (Zo (v := Vn) Z Z (Zb (V (Zc (Zc (Zd (O Z Z (Zm (v := g) Z Z (O Z Z (QP (y.f1) Qkj Z Z (O Z Z (Zm (v := U 0) Z Z (Zb (V ?_))))))))))))))))))))
 obtain ⟨aI, an, hm⟩ := Zg hm
 refine Qo (JZ (fun k' s' f' w' => (J2 fun (q : (List Int)) (n : Qcg) => ∃ (aj : PHeap) (b : Value), PHeap.le s aj ∧ St w0 aj (Res.arr encStr 9 g j :: Res.smap Tryz.prog 9 3 d n :: Res.arr (Qa .i64) 3 b q :: H) w' ∧ f' 4 = Value.map (some d) ∧ f' 5 = b ∧ f' 11 = g ∧ f' 12 = U ((j.length : Int)) ∧ f' 13 = U (k' : Int)) s') an ?_ ?_ ?_)
 ·have ar := y.nilArr (Qa .i64) 3
  exact ⟨s, Vn, (Zv _), (ar.f1).f2, Z, Z, Z, Z, Z⟩
 ·intro af aJ aF aT bc ay ao a
  obtain ⟨q, n⟩ := aJ
  replace a := Jp a
  obtain ⟨ab, b, az, m, p, ah, z, aa, x⟩ := ao
  refine Zc (Zd (O Z Z (Zq Z x aa (Zb (V (Zc (QL (Zx (decide_eq_true (by omega))) (Qq (V (Zc (Qo (Zc (Zd ?_)))))))))))))
  obtain ⟨ac, t, a⟩ := Zg a
  obtain ⟨aW, aO, ad⟩ := m.arr_at t
  refine O Z Z (Qd Qkj Z (Eq.trans z ad) x (Qg t).1 (Qg t).2.1 (O Z Z (Qt (F := encStr) (m) ad A9 Z Z Z t (Sub.refl _) ?_)))
  intro ba aB
  obtain rfl := QdX.1 aB
  refine O Z Z (Zo (v := Value.string (ac)) Z Z (Zb (V (Zc (Zd (O Z Z (Zm (v := Value.map (some d)) Z p (O Z Z (Zm (v := Value.string (ac)) Z Z ?_)))))))))
  obtain ⟨l, aC, a⟩ := Zg a
  refine O Z Z (QhV (m.f1) ⟨Tryz.underlying181, Tryz.underlying9, Tryz.underlying3⟩ Z3 Z Z Z aC (O Z Z (Zm (v := Value.tuple #[U (l.1), Vb (l.2)]) Z Z (O Z Z (Exec.extract (v := U (l.1)) Z Z Z (O Z Z (Exec.extract (v := Vb (l.2)) Z Z Z (O Z Z (Zo (v := U (l.1)) Z Z (O Z Z (Zo (v := Vb (l.2)) Z Z (Zb (V (Zc (Zc (Zd (O Z Z (Zm (v := Vb (l.2)) Z Z (O Z Z (Exec.not Z Z (Zb (V ?_))))))))))))))))))))))
  obtain ⟨u, h, a⟩ := Zg a
  refine QK (M := fun f' w' => (J2 fun (i : Int) (ag : Qcg) => ∃ (ak : PHeap) , PHeap.le ab ak ∧ St w0 ak (Res.arr encStr 9 g j :: Res.smap Tryz.prog 9 3 d ag :: Res.arr (Qa .i64) 3 b q :: H) w' ∧ f' 4 = Value.map (some d) ∧ f' 5 = b ∧ f' 8 = U i ∧ f' 11 = g ∧ f' 12 = U ((j.length : Int)) ∧ f' 13 = U ((af : Int))) u) ?_ ?_
  ·rcases Qf h with ⟨o, h⟩ | ⟨o, h⟩
   ·refine Qr Z o (Zc (Zd (O Z Z (Zm (v := Value.map (some d)) Z p (O Z Z (Qe4 (m.f1) ⟨Tryz.underlying181, Tryz.underlying9, Tryz.underlying3⟩ Z Z (O Z Z (Zo (v := U ((n.length : Int))) Z Z (Zb (V (Zd (O Z Z (Zm (v := Value.map (some d)) Z p (O Z Z (Zm (v := Value.string (ac)) Z Z (O Z Z (Zm (v := U ((n.length : Int))) Z Z ?_)))))))))))))))))
    obtain ⟨aY, aD, h⟩ := Zg h
    refine O Z Z (QhU m.f1 ⟨Tryz.underlying181, Tryz.underlying9, Tryz.underlying3⟩ Z Z Z Z aD ?_)
    intro bd au
    refine Zb (V ?_)
    have aP := Zu h
    subst u
    exact ⟨ab, (Zv _), ((au.f2).f1).f2, p, ah, Z, z, aa, x⟩
   refine Qs Z o ?_
   replace o := Zk o
   refine Qq (V ?_)
   have aQ := Zu h
   subst u
   exact ⟨ab, (Zv _), ((m.f2).f2).f2, p, ah, Z, z, aa, x⟩
  intro aU be aq
  obtain ⟨i, ag⟩ := u
  replace a := Jp a
  obtain ⟨aG, a0, av, a2, a3, a4, a5, a6, a7⟩ := aq
  refine (V (Zd (O Z Z (Zm (v := b) Z a3 (O Z Z (Zm (v := U i) Z a4 (O Z Z (Exec.buildSlice (Te := 3) (cs := [U i]) av Z (Qc (c := [U i]) (Qh Z Z) Qu) (fun _ => by kernel_rfl) ?_))))))))
  intro aN bf aw
  obtain ⟨aX, aE, a⟩ := Zg a
  refine O Z Z (QZ (E := (Qa .i64)) (ys := [i]) aw.f3 JG Z3 Z (by decide) Z Z Z Z ⟨[U i], [], Z, Z, Z⟩ Z aE ?_)
  intro am bg ax
  refine O Z Z (Zo (v := am) Z Z (Zb (Qz (V (Zd (O Z Z (Exec.add Z a7 Z (O Z Z (Zm (v := U (IntKind.i64.wrap ((af : Int) + 1))) Z Z (Zb (V ?_)))))))))))
  have aR := Zu a
  subst aF
  exact ⟨aG, am, (Zt az a0), (ax.f2).f2, a2, Z, a5, a6, (Eq.trans Z (QF ay (y.f1).arr_le))⟩
 intro aV bh ap
 obtain ⟨q, n⟩ := aI
 replace hm := Jp hm
 obtain ⟨aH, b, a1, ae, a8, a9, aZ, aA, aK⟩ := ap
 refine Zc (Zd (O Z Z (Zq Z aK aA (Zb (V (Zc (QB (Zx (decide_eq_false (by omega))) (QJ (Qn (Qn (Q9 (V (Zc (Zd (O Z Z (Zm (v := b) Z a9 (O Z Z (Zm (v := Value.map (some d)) Z a8 (O Z Z (Qe4 (ae.f1) ⟨Tryz.underlying181, Tryz.underlying9, Tryz.underlying3⟩ Z Z (O Z Z (Zo (v := b) Z Z (O Z Z (Zo (v := U ((n.length : Int))) Z Z (Zb (V (Q0 ?_)))))))))))))))))))))))))))
 have aS := Zu hm
 subst r
 refine ⟨_, QbU Z, ?_⟩
 exact ⟨aH, b, a1, (((ae.f1).drop).f1).f1, (Yp Z Z)⟩
theorem Qki : Je Tryz.prog 182 = some (183, 1, 24) := by kernel_rfl
theorem Qon : JL Tryz.prog 183 = some (Value.slice none 0 0) := by kernel_rfl
theorem Qmv : JU Tryz.prog 183 = some (false, 1) := by kernel_rfl
theorem Qd8 : Je Tryz.prog 183 = some (184, 2, 16) := by kernel_rfl
theorem Qnq : JL Tryz.prog 184 = some (Value.agg #[U 0, U 0]) := by kernel_rfl
theorem Qds {w0 w : World} {s : PHeap} {H : List Res} {a : Arr2_int} {b : Arr2_int} {r : Int} (hm : Ys a b = some r) (hS : St w0 s (H) w) :
  Calls Tryz.prog 132 #[Value.agg #[U (a.a0), U (a.a1)], Value.agg #[U (b.a0), U (b.a1)]] w fun e w' => ∃ v, e = .returned v ∧ ((fun (y : Int) => ∃ (g : PHeap) , PHeap.le s g ∧ St w0 g (H) w' ∧ v = U y) r) := by
 unfold Ys at hm
 refine Qw Tryz.func132 Z Z (Zc (Zd (O Z Z (Exec.box (cs := [U (a.a0), U (a.a1)]) hS Z Z Z ?_))))
 intro aa ah h
 refine O Z Z (Exec.box (cs := [U (b.a0), U (b.a1)]) h Z Z Z ?_)
 intro ab ai d
 refine O Z Z (Zo (v := U 0) Z Z (Zb (V (Zc (KT (n0 := 12) (qs 0 4 (qs 5 4 (.e 4 [5, 6, 7, 8] (.e 9 [] (.e 10 [] (.e 11 [] .done)))))) Yc (by kernel_rfl) (by kernel_rfl) (Qm Z Z (Kg Tryz.underlying184 A3 Z Z Z (by decide) Z ⟨Z, ?_⟩)))))))
 refine Qm Z Z (Zn ((d.drew).f1) A3 Z Z Z ⟨Z, ?_⟩)
 refine Qm Z Z (Kg Tryz.underlying184 A3 Z Z Z (by decide) Z ⟨Z, ?_⟩)
 refine Qm Z Z (Zn (d.drew) A3 Z Z Z ⟨Z, ?_⟩)
 refine Qm Z Z (Kg Tryz.underlying184 A3 Z Z Z (by decide) Z ⟨Z, ?_⟩)
 refine Qm Z Z (Zn ((d.drew).f1) A3 Z Z Z ⟨Z, ?_⟩)
 refine Qm Z Z (Kg Tryz.underlying184 A3 Z Z Z (by decide) Z ⟨Z, ?_⟩)
 refine Qm Z Z (Zn (d.drew) A3 Z Z Z ⟨Z, ?_⟩)
 refine JQ Z Z (Tc Z Z Z (Zi Z (Zi Z Qk)) (JC (Jy a.a0 b.a0) d.drew).r ?_)
 rintro _ aj ⟨ae, n, f, rfl⟩
 refine ⟨(Qb (Q4 Z Z (Kg Tryz.underlying184 A3 Z Z Z (by decide) Z ⟨Z, Z⟩)) (Qb (Q4 Z Z (Zn (f.f1) A3 Z Z Z ⟨Z, Z⟩)) (Qb (Q4 Z Z (Kg Tryz.underlying184 A3 Z Z Z (by decide) Z ⟨Z, Z⟩)) (Qb (Q4 Z Z (Zn (f) A3 Z Z Z ⟨Z, Z⟩)) QV)))), ?_⟩
 refine JQ Z Z (Tc Z Z Z (Zi Z (Zi Z Qk)) (JC (Jy a.a1 b.a1) f).r ?_)
 rintro _ ak ⟨af, o, i, rfl⟩
 refine ⟨QV, ?_⟩
 refine JQ Z Z (Exec.buildSlice (Te := 3) (cs := [U ((Qp a.a0 b.a0)), U ((Qp a.a1 b.a1))]) i Z (Qc (c := [U ((Qp a.a0 b.a0))]) (Qh Z Z) (Qc (c := [U ((Qp a.a1 b.a1))]) (Qh Z Z) Qu)) (fun _ => by kernel_rfl) ?_)
 intro ac al j
 refine ⟨QV, ?_⟩
 have k := St.boxArr (E := (Qa .i64)) (xs := [(Qp a.a0 b.a0), (Qp a.a1 b.a1)]) j ⟨[U ((Qp a.a0 b.a0))], [U ((Qp a.a1 b.a1))], rfl, rfl, ⟨[U ((Qp a.a1 b.a1))], [], rfl, rfl, rfl⟩⟩ (by simp [maxLen])
 obtain ⟨ag, p, l, u⟩ := k.freezeArr
 obtain ⟨z, t, hm⟩ := Zg hm
 refine JQ Z Z (Tc Z Z Z (Zi Z Qk) (Qbw t l u).r ?_)
 rintro _ am ⟨x, q, m, rfl⟩
 refine ⟨QV, ?_⟩
 refine QG (O Z Z (Zo (v := U z) Z Z (Zb (V (Q0 ?_)))))
 have ad := Zu hm
 subst r
 refine ⟨_, QW Z, ?_⟩
 exact ⟨x, (Zt (Zt (Zt n o) p) q), (m.drop).drop, Z⟩
end Go.Pw
