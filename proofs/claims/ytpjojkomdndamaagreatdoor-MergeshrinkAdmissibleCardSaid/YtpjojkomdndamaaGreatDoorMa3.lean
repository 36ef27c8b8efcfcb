/- -/
import Derived.Test.YtpjojkomdndamaaGreatDoorL27
import Derived.Test.YtpjojkomdndamaaGreatDoorMa2
import Derived.Test.YtpjojkomdndamaaGreatDoorMaPu
set_option maxRecDepth 100000
set_option maxHeartbeats 4000000
set_option linter.unusedVariables false
namespace Go.Pw
open Go.Proofs
theorem Qbo : Jk Tryz.prog 38 4 = some 4 := by kernel_rfl
theorem A36 : JI Tryz.prog 36 = some (false, 1) := by kernel_rfl
theorem S36 : Jb Tryz.prog 36 = some (4, 1, 1) := by kernel_rfl
theorem Z4 : JA Tryz.prog 4 = some (Value.bool false) := by kernel_rfl
theorem Qbd {w0 w : World} {s : PHeap} {H : List Res} {c : (List Int)} {b : Value} {r : (List Int)} (hm : JE c = some r) (hS : St w0 s (Res.arr (Qa .i64) 3 b c :: H) w) :
  Calls Tryz.prog 36 #[b] w fun e w' => ∃ v, e = .returned v ∧ ((fun (z : (List Int)) => ∃ (f : PHeap) (g : Value), PHeap.le s f ∧ St w0 f (Res.arr (Qa .i64) 3 b c :: Res.arr (Qa .i64) 3 g z :: H) w' ∧ v = g) r) := by
 unfold JE at hm
 refine Qy Tryz.func36 Z Z (Zc (Zd (O Z Z (Zo (v := Vs none 0 0) Z Z (Zb (V (Zc (Zc (Zd (O Z Z (Zm (v := b) Z Z ?_)))))))))))
 obtain ⟨i, ae, ab, j, u⟩ := hS.nilShape
 refine O Z Z (QbL Tryz.underlying22 Z j Z (Zb (V ?_)))
 by_cases a : i.isNone = true
 ·have x := u a
  replace hm := (show (some []) = ((app 8 [] c).bind fun d => some d) from by simp [x, app]).trans hm
  refine QK ((Zx a)) (Zc (Zd (O Z Z (Zo (v := Vs none 0 0) Z Z (Zb (V (Q1 (Qj ?_))))))))
  have ac := Zu hm
  subst r
  refine ⟨_, QX Z, ?_⟩
  have k := hS.nilArr (Qa .i64) 3
  have l := k.f1
  exact ⟨s, (Vs none 0 0), (Zv _), l, Z⟩
 replace a := Zk a
 refine QA ((Zx a)) (Qp (V (Zc (Zd (O Z Z (Exec.buildSlice (Te := 3) (cs := []) hS Z Qx (fun _ => by kernel_rfl) ?_))))))
 intro aa af m
 refine O Z Z (Zm (v := b) Z Z ?_)
 have n := St.boxArr (E := (Qa .i64)) (xs := []) m rfl (by simp [maxLen])
 obtain ⟨d, y, hm⟩ := Zg hm
 have o := n.f1
 have p := o.f1
 refine O Z Z (Qfv (E := (Qa .i64)) p Jt Z3 Z (by decide) Z Z Z y ?_)
 intro h ag q
 refine O Z Z (Zo (v := h) Z Z (Zb (V (Q1 ?_))))
 have ad := Zu hm
 subst r
 refine ⟨_, QX Z, ?_⟩
 have t := q.f1
 exact ⟨s, h, (Zv _), t, Z⟩
theorem QoH : (Tryz.f107.name == "runtime.NumGoroutine") = false := by kernel_rfl
theorem QeP {w0 w : World} {s : PHeap} {H : List Res} {o : (List Fact)} {j : (List Int)} {m : Value} {d : Value} {r : Bool} (hm : Qa0 o j = some r) (hS : St w0 s (Res.arr (Qa .i64) 3 d j :: H) w) (ab : SliceRep encFact s m o) :
  Calls Tryz.prog 107 #[m, d] w fun e w' => ∃ v, e = .returned v ∧ ((fun (aT : Bool) => ∃ (an : PHeap) , PHeap.le s an ∧ St w0 an (Res.arr (Qa .i64) 3 d j :: H) w' ∧ v = Value.bool (aT)) r) := by
 unfold Qa0 at hm
 refine Qy Tryz.func107 Z Z (Zc (Zd (O Z Z (Zo (v := Vb false) Z Z (Zb (V (Zc (Zc (Zd (O Z Z (Zm (v := m) Z Z (O Z Z (Zr S23 Z Z ab (O Z Z (Zm (v := U 0) Z Z (Zb (V ?_)))))))))))))))))
 obtain ⟨ad, av, aB, a9, a7⟩ := QO hm
 refine QJ (M := fun f' w' => ∃ s', (ad = .next s' ∨ ad = .brk s') ∧ (fun (_ : Unit) => ∃ (ao : PHeap) , PHeap.le s ao ∧ St w0 ao (Res.arr (Qa .i64) 3 d j :: H) w' ∧ f' 1 = d ∧ f' 7 = m ∧ f' 8 = U ((o.length : Int))) s') ?_ ?_
 ·refine Qm (J4 (fun k' s' f' w' => (fun (_ : Unit) => ∃ (ap : PHeap) , PHeap.le s ap ∧ St w0 ap (Res.arr (Qa .i64) 3 d j :: H) w' ∧ f' 1 = d ∧ f' 7 = m ∧ f' 8 = U ((o.length : Int)) ∧ f' 9 = U (k' : Int)) s') av ?_ ?_ ?_)
  ·exact ⟨s, (Zv _), hS, Z, Z, Z, Z⟩
  ·intro aj bn ae be bs a8 aw i aC
   obtain ⟨aa, ac, ag, t, x, y, u⟩ := aw
   refine Zc (Zd (O Z Z (Zq Z u y (Zb (V (Zc (QK (Zx (decide_eq_true (by omega))) (Qp (V (Zc (Qm (Zc (Zd ?_)))))))))))))
   obtain ⟨l, aM, i⟩ := Zg i
   refine O Z Z (Qu S23 Z x u (ab.mono ac) aM ?_)
   intro aU bj au
   refine O Z Z (Zw (E := encFact) ag A90 Z Z Z au ?_)
   intro bq aN
   obtain rfl := Ye.1 aN
   refine O Z Z (Exec.alloc (cs := [U 0, U 0]) ag Z90 Z Z ?_)
   intro aV bt a0
   refine O Z Z (Qf (ds := [U (l.Var), U (l.Val)]) (es := [U (l.Var), U (l.Val)]) a0 A90 Z Z Z Z (Zj Z (Zj Z Q6)) (Nat.le_of_ble_eq_true Z) Z ?_)
   intro bu a1
   refine Zb (V (Zc ?_))
   obtain ⟨n, c, i⟩ := Zg i
   refine QJ (M := fun f' w' => (fun (n : Bool) => ∃ (aq : PHeap) , PHeap.le aa aq ∧ St w0 aq (Res.arr (Qa .i64) 3 d j :: H) w' ∧ f' 1 = d ∧ f' 7 = m ∧ f' 8 = U ((o.length : Int)) ∧ f' 9 = U ((aj : Int)) ∧ f' 32 = Vb n) n) ?_ ?_
   ·refine K3 (n0 := 20) (.q 0 (.q 1 (.q 2 (.q 3 (.q 4 (.q 5 (.q 6 (.q 7 (.q 8 (.q 9 (.q 10 (.q 11 (.q 12 (.q 13 (.q 14 (.q 15 (.q 16 (.q 17 (.q 18 (.q 19 .done)))))))))))))))))))) K8 (by kernel_rfl) (by kernel_rfl) ?_
    have g := a1.drew
    refine Qh Z Z (Zp Yj Z Z Z ⟨Z, ?_⟩)
    refine Qh Z Z (Zn (g) A3 Z Z Z ⟨Z, ?_⟩)
    refine Qh Z Z (Zq Z Z Z ⟨Z, ?_⟩)
    refine Qh Z Z (Zm (v := Vb (decide (l.Var < 0))) Z Z ⟨Z, ?_⟩)
    rcases Qg c with ⟨b, c⟩ | ⟨b, c⟩
    ·refine Qq Z Z (Zf Z (Zx b)) Z (Qq Z Z (Zf Z (Zx b)) Z (Qq Z Z (Zf Z (Zx b)) Z (Qq Z Z (Zf Z (Zx b)) Z (Qq Z Z (Zf Z (Zx b)) Z (Qh Z Z (Zs (v := Vb true) Z (Zx b) Z ⟨Z, ?_⟩))))))
     refine Qh Z Z (Zm (v := Vb true) Z Z ⟨Z, ?_⟩)
     refine Qq Z Z (Zf Z Z) Z (Qq Z Z (Zf Z Z) Z (Qq Z Z (Zf Z Z) Z (Qq Z Z (Zf Z Z) Z (Qq Z Z (Zf Z Z) Z (Qq Z Z (Zf Z Z) Z (Qq Z Z (Zf Z Z) Z (Qq Z Z (Zf Z Z) Z (Qh Z Z (Zs (v := Vb true) Z Z Z ⟨Z, ?_⟩)))))))))
     refine QC (Zb (V ?_))
     have aX := Zu c
     subst n
     have a2 := g.drop
     exact ⟨aa, (Zv _), a2, t, x, y, u, Z⟩
    replace b := Zk b
    refine Q9 Z Z (Zf Z (Zx b)) (Zp Yj Z Z Z ⟨Z, ?_⟩)
    refine Q9 Z Z (Zf Z (Zx b)) (Zn (g) A3 Z Z Z ⟨Z, ?_⟩)
    refine Q9 Z Z (Zf Z (Zx b)) (Zm (v := d) Z t ⟨Z, ?_⟩)
    refine Q9 Z Z (Zf Z (Zx b)) (QQ (g.f1) Jt Z Z ⟨Z, ?_⟩)
    refine Q9 Z Z (Zf Z (Zx b)) (Exec.geq Z Z Z ⟨Z, ?_⟩)
    refine Qh Z Z (Q5 (v := Vb (decide ((j.length : Int) ≤ l.Var))) Z (Zx b) Z ⟨Z, ?_⟩)
    refine Qh Z Z (Zm (v := Vb (decide ((j.length : Int) ≤ l.Var))) Z Z ⟨Z, ?_⟩)
    rcases Qg c with ⟨a, c⟩ | ⟨a, c⟩
    ·refine Qq Z Z (Zf Z (Zx a)) Z (Qq Z Z (Zf Z (Zx a)) Z (Qq Z Z (Zf Z (Zx a)) Z (Qq Z Z (Zf Z (Zx a)) Z (Qq Z Z (Zf Z (Zx a)) Z (Qq Z Z (Zf Z (Zx a)) Z (Qq Z Z (Zf Z (Zx a)) Z (Qq Z Z (Zf Z (Zx a)) Z (Qh Z Z (Zs (v := Vb true) Z (Zx a) Z ⟨Z, ?_⟩)))))))))
     refine QC (Zb (V ?_))
     have aY := Zu c
     subst n
     have a3 := g.drop
     exact ⟨aa, (Zv _), a3, t, x, y, u, Z⟩
    replace a := Zk a
    refine Q9 Z Z (Zf Z (Zx a)) (Zm (v := d) Z t ⟨Z, ?_⟩)
    refine Q9 Z Z (Zf Z (Zx a)) (Zp Yj Z Z Z ⟨Z, ?_⟩)
    refine Q9 Z Z (Zf Z (Zx a)) (Zn (g) A3 Z Z Z ⟨Z, ?_⟩)
    obtain ⟨aR, z, c⟩ := Zg c
    obtain ⟨bi, aW, af⟩ := (g.f1).arr_at z
    refine Q9 Z Z (Zf Z (Zx a)) (Qc Jt Z af Z (Qe z).1 (Qe z).2.1 ⟨Z, ?_⟩)
    refine Q9 Z Z (Zf Z (Zx a)) (Qt (F := (Qa .i64)) (g.f1) af A3 Z Z Z z (Sub.refl _) ?_)
    intro br aO
    obtain rfl := Qs.1 aO
    refine ⟨Z, ?_⟩
    refine Q9 Z Z (Zf Z (Zx a)) (Zp QdX Z Z Z ⟨Z, ?_⟩)
    refine Q9 Z Z (Zf Z (Zx a)) (Zn (g) A3 Z Z Z ⟨Z, ?_⟩)
    refine Q9 Z Z (Zf Z (Zx a)) (Exec.neq Z Z Z ⟨Z, ?_⟩)
    refine Qh Z Z (Q5 (v := Vb (!decide (aR = l.Val))) Z (Zx a) Z ⟨Z, ?_⟩)
    refine QC (Zb (V ?_))
    have aZ := Zu c
    subst n
    have a4 := g.drop
    exact ⟨aa, (Zv _), a4, t, x, y, u, Z⟩
   intro bf bv ay
   obtain ⟨ar, ak, ah, aG, aH, aI, aJ, al⟩ := ay
   refine (V ?_)
   rcases Qg i with ⟨p, i⟩ | ⟨p, i⟩
   ·refine Qv al p (Zc (Zd (O Z Z (Zo (v := Vb false) Z Z (Zb (V (Q1 (QD (Qj (Qj (QD (Qj (Qj ?_)))))))))))))
    have ba := Zu i
    subst ae
    have aA := aB _ (aC (by intro _ h; cases h))
    have bb := Zu aA
    subst r
    refine ⟨_, QX Z, ?_⟩
    exact ⟨ar, (Zt ac ak), ah, Z⟩
   refine Qw al p ?_
   replace p := Zk p
   refine Qp (Qz (V (Zd (O Z Z (Exec.add Z aJ Z (O Z Z (Zm (v := U (IntKind.i64.wrap ((aj : Int) + 1))) Z Z (Zb (V ?_)))))))))
   have bc := Zu i
   subst ae
   refine ⟨_, Z, ?_⟩; exact ⟨ar, (Zt ac ak), ah, aG, aH, aI, (Eq.trans Z (QB a8 (SliceRep.le ab)))⟩
  intro bo bg bw ax aD
  obtain ⟨aP, aE, a5, aK, aL, am, aS⟩ := ax
  refine Zc (Zd (O Z Z (Zq Z aS am (Zb (V (Zc (QA (Zx (decide_eq_false (by omega))) (QF (Ql (Ql (Q7 (V ?_))))))))))))
  refine ⟨_, .inl aD, ?_⟩; exact ⟨aP, aE, a5, aK, aL, am⟩
 rintro bh bx ⟨bp, ai, az⟩
 have hm := ai.elim (a9 _) (a7 _)
 clear ai
 obtain ⟨aQ, aF, a6, bk, bl, bm⟩ := az
 refine (V (Zc (Zd (O Z Z (Zo (v := Vb true) Z Z (Zb (V (Q1 ?_))))))))
 have bd := Zu hm
 subst r
 refine ⟨_, QX Z, ?_⟩
 exact ⟨aQ, aF, a6, Z⟩
theorem QoG : (Tryz.f108.name == "runtime.NumGoroutine") = false := by kernel_rfl
theorem QaB {w0 w : World} {s : PHeap} {H : List Res} {ao : (List Int)} {a : Value} {r : Nat × (List Int)} (hm : J7 ao = some r) (hS : St w0 s (Res.arr (Qa .i64) 3 a ao :: H) w) :
  Calls Tryz.prog 108 #[a] w fun e w' => ∃ v, e = .returned v ∧ ((J2 fun (b8 : Nat) (bm : (List Int)) => ∃ (aM : PHeap) (aS : Value), PHeap.le s aM ∧ St w0 aM (Res.arr (Qa .i64) 3 a bm :: H) w' ∧ v = aS ∧ SubOf 1 a aS 0 b8) r) := by
 unfold J7 at hm
 refine Qy Tryz.func108 Z Z (Zc (Zd (O Z Z (Zo (v := Vs none 0 0) Z Z (Zb (V (Zc (Zc (Zd (O Z Z (Zm (v := a) Z Z (O Z Z (QQ (hS) Jt Z Z (O Z Z (Zq Z Z Z (Zb (V ?_)))))))))))))))))
 rcases Qg hm with ⟨t, hm⟩ | ⟨t, hm⟩
 ·refine Qv Z t (Zc (Zd (O Z Z (Zm (v := a) Z Z (O Z Z (Zo (v := a) Z Z (Zb (V (Q1 (Qj ?_))))))))))
  have bF := Zu hm
  subst r
  refine ⟨_, QX Z, ?_⟩
  exact ⟨s, a, (Zv _), hS, Z, (Or.inl ⟨Z, Z, hS.arr_shape⟩)⟩
 refine Qw Z t ?_
 replace t := Zk t
 refine Qp (V (Zc (Zc (Zd (O Z Z (Zo (v := U 1) Z Z (Zb (V ?_))))))))
 obtain ⟨aw, aW, bk, bh, bf⟩ := QO hm
 refine QJ (M := fun f' w' => ∃ s', (aw = .next s' ∨ aw = .brk s') ∧ (fun (aC : Int) => ∃ (aN : PHeap) , PHeap.le s aN ∧ St w0 aN (Res.arr (Qa .i64) 3 a ao :: H) w' ∧ f' 0 = a ∧ f' 3 = U aC) s') ?_ ?_
 ·refine Qm (Yy (fun s' f' w' => (fun (j : Int) => ∃ (aO : PHeap) , PHeap.le s aO ∧ St w0 aO (Res.arr (Qa .i64) 3 a ao :: H) w' ∧ f' 0 = a ∧ f' 3 = U j) s') aW ?_ ?_)
  ·exact ⟨s, (Zv _), hS, Z, Z⟩
  intro j aq bP co aY b aB
  obtain ⟨ac, au, ar, m, n⟩ := aY
  refine Zc (Zc (Zd (O Z Z (Zm (v := U j) Z n (O Z Z (Zm (v := a) Z m (O Z Z (QQ (ar) Jt Z Z (O Z Z (Zq Z Z Z (Zb (V ?_))))))))))))
  rcases Qg b with ⟨u, b⟩ | ⟨u, b⟩
  ·refine Qv Z u (Qp (V (Zc (Qm (Zc (K3 (n0 := 10) (.q 0 (.q 1 (.q 2 (.q 3 (.q 4 (.q 5 (.q 6 (.q 7 (.q 8 (.q 9 .done)))))))))) K8 (by kernel_rfl) (by kernel_rfl) ?_))))))
   have l := ar.drew
   refine Qh Z Z (Zm (v := a) Z m ⟨Z, ?_⟩)
   refine Qh Z Z (Zm (v := U j) Z n ⟨Z, ?_⟩)
   obtain ⟨cv, ah, b⟩ := Zg b
   obtain ⟨bU, b9, az⟩ := l.arr_at ah
   refine Qh Z Z (Qc Jt Z az Z (Qe ah).1 (Qe ah).2.1 ⟨Z, ?_⟩)
   refine Qh Z Z (Qt (F := (Qa .i64)) (l) az A3 Z Z Z ah (Sub.refl _) ?_)
   intro ci bv
   obtain rfl := Qs.1 bv
   refine ⟨Z, ?_⟩
   refine Qh Z Z (Zm (v := a) Z m ⟨Z, ?_⟩)
   refine Qh Z Z (Zm (v := U j) Z n ⟨Z, ?_⟩)
   refine Qh Z Z (Exec.sub Z Z Z ⟨Z, ?_⟩)
   obtain ⟨cw, ai, b⟩ := Zg b
   obtain ⟨bV, bA, a0⟩ := l.arr_at ai
   refine Qh Z Z (Qc Jt Z a0 Z (Qe ai).1 (Qe ai).2.1 ⟨Z, ?_⟩)
   refine Qh Z Z (Qt (F := (Qa .i64)) (l) a0 A3 Z Z Z ai (Sub.refl _) ?_)
   intro cj bw
   obtain rfl := Qs.1 bw
   refine ⟨Z, ?_⟩
   refine Qh Z Z (Exec.eql Z Z Z ⟨Z, ?_⟩)
   refine QC (Zb (V ?_))
   rcases Qg b with ⟨x, b⟩ | ⟨x, b⟩
   ·refine Qv Z x (Zc (Zd (O Z Z (Zm (v := a) Z m (O Z Z (Zm (v := U j) Z n ?_))))))
    obtain ⟨cc, aj, b⟩ := Zg b
    refine O Z Z (KU (l) Jt Z Z Z aj ?_)
    intro k ad
    refine O Z Z (Zo (v := k) Z Z (Zb (V (Zc (Zc (Zd (O Z Z (Zo (v := U 1) Z Z (Zb (V ?_))))))))))
    obtain ⟨ax, aX, ca, bi, bg⟩ := QO b
    refine QJ (M := fun f' w' => ∃ s', (ax = .next s' ∨ ax = .brk s') ∧ (un3 fun (ae : Int) (aD : Int) (aF : (List Int)) => ∃ (aP : PHeap) , PHeap.le ac aP ∧ St w0 aP (Res.arr (Qa .i64) 3 a aF :: H) w' ∧ f' 0 = a ∧ f' 3 = U ae ∧ f' 4 = k ∧ f' 5 = U aD) s') ?_ ?_
    ·refine Qm (Yy (fun s' f' w' => (un3 fun (ab : Int) (i : Int) (aG : (List Int)) => ∃ (aQ : PHeap) , PHeap.le ac aQ ∧ St w0 aQ (Res.arr (Qa .i64) 3 a aG :: H) w' ∧ f' 0 = a ∧ f' 3 = U ab ∧ f' 4 = k ∧ f' 5 = U i) s') aX ?_ ?_)
     ·exact ⟨ac, (Zv _), l, m, n, Z, Z⟩
     intro b6 ay bQ cp aZ c bl
     obtain ⟨ab, i, aG⟩ := b6
     replace c := Qbh c
     obtain ⟨an, aH, a5, af, ag, o, p⟩ := aZ
     refine Zc (Zc (Zd (O Z Z (Zm (v := U i) Z p (O Z Z (Zm (v := k) Z o (O Z Z (Qay Jt ad Z Z (O Z Z (Zq Z Z Z (Zb (V ?_))))))))))))
     rcases Qg c with ⟨z, c⟩ | ⟨z, c⟩
     ·refine Qv Z z (Qp (V (Zc (Qm (Zc (K3 (n0 := 10) (.q 0 (.q 1 (.q 2 (.q 3 (.q 4 (.q 5 (.q 6 (.q 7 (.q 8 (.q 9 .done)))))))))) K8 (by kernel_rfl) (by kernel_rfl) ?_))))))
      have g := a5.drew
      refine Qh Z Z (Zm (v := k) Z o ⟨Z, ?_⟩)
      refine Qh Z Z (Zm (v := U i) Z p ⟨Z, ?_⟩)
      obtain ⟨cx, ak, c⟩ := Zg c
      obtain ⟨bW, bB, a1⟩ := g.arr_at (QU ak).2.2
      refine Qh Z Z (JR Jt (KI aj).1 ad a1 Z Z Z (QU ak).1 (QU ak).2.1 ⟨Z, ?_⟩)
      refine Qh Z Z (Qt (F := (Qa .i64)) (g) a1 A3 Z Z Z (QU ak).2.2 (Sub.refl _) ?_)
      intro ck bx
      obtain rfl := Qs.1 bx
      refine ⟨Z, ?_⟩
      refine Qh Z Z (Zm (v := k) Z o ⟨Z, ?_⟩)
      refine Qh Z Z (Zm (v := U i) Z p ⟨Z, ?_⟩)
      refine Qh Z Z (Exec.sub Z Z Z ⟨Z, ?_⟩)
      obtain ⟨cy, al, c⟩ := Zg c
      obtain ⟨bX, bC, a2⟩ := g.arr_at (QU al).2.2
      refine Qh Z Z (JR Jt (KI aj).1 ad a2 Z Z Z (QU al).1 (QU al).2.1 ⟨Z, ?_⟩)
      refine Qh Z Z (Qt (F := (Qa .i64)) (g) a2 A3 Z Z Z (QU al).2.2 (Sub.refl _) ?_)
      intro cl bz
      obtain rfl := Qs.1 bz
      refine ⟨Z, ?_⟩
      refine Qh Z Z (Exec.neq Z Z Z ⟨Z, ?_⟩)
      refine QC (Zb (V ?_))
      obtain ⟨ap, d, c⟩ := Zg c
      refine QJ (M := fun f' w' => (J2 fun (aE : Int) (aI : (List Int)) => ∃ (aR : PHeap) , PHeap.le an aR ∧ St w0 aR (Res.arr (Qa .i64) 3 a aI :: H) w' ∧ f' 0 = a ∧ f' 3 = U aE ∧ f' 4 = k ∧ f' 5 = U i) ap) ?_ ?_
      ·rcases Qg d with ⟨aa, d⟩ | ⟨aa, d⟩
       ·refine Qv Z aa (Zc (Zd (O Z Z (Zm (v := a) Z af (O Z Z (Zm (v := U ab) Z ag (O Z Z (Zm (v := k) Z o (O Z Z (Zm (v := U i) Z p ?_))))))))))
        obtain ⟨cz, am, d⟩ := Zg d
        obtain ⟨bY, bD, a3⟩ := g.arr_at (QU am).2.2
        refine O Z Z (JR Jt (KI aj).1 ad a3 Z Z Z (QU am).1 (QU am).2.1 (O Z Z (Qt (F := (Qa .i64)) (g) a3 A3 Z Z Z (QU am).2.2 (Sub.refl _) ?_)))
        intro cm b0
        obtain rfl := Qs.1 b0
        obtain ⟨c0, av, d⟩ := Zg d
        obtain ⟨bZ, bE, a4⟩ := g.arr_at av
        refine O Z Z (Qc Jt Z a4 Z (Qe av).1 (Qe av).2.1 ?_)
        obtain ⟨cb, b1, d⟩ := Zg d
        refine O Z Z (QN g a4 A3 Z Z Z Z (Qs.2 Z) b1 ?_)
        intro cq bd
        refine Zb (V (Zd (O Z Z (Zm (v := U ab) Z ag (O Z Z (Exec.add Z Z Z (O Z Z (Zo (v := U (IntKind.i64.wrap (ab + 1))) Z Z (Zb (V ?_))))))))))
        have bG := Zu d
        subst ap
        exact ⟨an, (Zv _), bd, af, Z, o, p⟩
       refine Qw Z aa ?_
       replace aa := Zk aa
       refine Qp (V ?_)
       have bH := Zu d
       subst ap
       exact ⟨an, (Zv _), g, af, ag, o, p⟩
      intro bR cr ba
      obtain ⟨aE, aI⟩ := ap
      replace c := Jf c
      obtain ⟨b3, bn, be, bq, br, bs, bt⟩ := ba
      refine (Qz (V (Zd (O Z Z (Zm (v := U i) Z bt (O Z Z (Exec.add Z Z Z (O Z Z (Zo (v := U (IntKind.i64.wrap (i + 1))) Z Z (Zb (V ?_)))))))))))
      have bI := Zu c
      subst ay
      refine ⟨_, Z, ?_⟩; exact ⟨b3, (Zt aH bn), be, bq, br, bs, Z⟩
     refine Qw Z z ?_
     replace z := Zk z
     refine QF (Ql (Ql (Q7 (V ?_))))
     have bJ := Zu c
     subst ay
     refine ⟨_, .inr (bl (by intro _ h; cases h)), ?_⟩; exact ⟨an, aH, a5, af, ag, o, p⟩
    rintro bS cs ⟨b7, a9, bb⟩
    have b := a9.elim (bi _) (bg _)
    clear a9
    obtain ⟨ae, aD, aF⟩ := b7
    replace b := Qbh b
    obtain ⟨b4, bo, a6, aJ, aK, cf, cg⟩ := bb
    refine (V (Zc (Zd (O Z Z (Zm (v := a) Z aJ (O Z Z (Zm (v := U ae) Z aK ?_)))))))
    obtain ⟨cd, aL, b⟩ := Zg b
    refine O Z Z (KU (a6) Jt Z Z Z aL ?_)
    intro cn aU
    refine O Z Z (Qa2 (E := (Qa .i64)) (y := 0) a6 aU (KI aL).2.2.2.2.2 Jt Z3 Z Z Z ?_)
    intro ct a7
    refine Zb (V (Zc (Zd (O Z Z (Zm (v := a) Z aJ (O Z Z (Zm (v := U ae) Z aK ?_)))))))
    obtain ⟨ce, b2, b⟩ := Zg b
    refine O Z Z (QbV (a7) Jt Z Z Z b2 ?_)
    intro aT aV
    refine O Z Z (Zo (v := aT) Z Z (Zb (V (Q1 (QD (Qj (Qj (QD (Qj (Qj ?_))))))))))
    have bK := Zu b
    subst aq
    have bj := bk _ (aB (by intro _ h; cases h))
    have bL := Zu bj
    subst r
    refine ⟨_, QX Z, ?_⟩
    exact ⟨b4, aT, (Zt au bo), a7, Z, aV⟩
   refine Qw Z x ?_
   replace x := Zk x
   refine Qp (Qz (V (Zd (O Z Z (Zm (v := U j) Z n (O Z Z (Exec.add Z Z Z (O Z Z (Zo (v := U (IntKind.i64.wrap (j + 1))) Z Z (Zb (V ?_)))))))))))
   have bM := Zu b
   subst aq
   refine ⟨_, Z, ?_⟩; exact ⟨ac, au, l, m, Z⟩
  refine Qw Z u ?_
  replace u := Zk u
  refine QF (Ql (Ql (Q7 (V ?_))))
  have bN := Zu b
  subst aq
  refine ⟨_, .inr (aB (by intro _ h; cases h)), ?_⟩; exact ⟨ac, au, ar, m, n⟩
 rintro bT cu ⟨aC, aA, bc⟩
 have hm := aA.elim (bh _) (bf _)
 clear aA
 obtain ⟨b5, bp, a8, bu, ch⟩ := bc
 refine (V (Zc (Zd (O Z Z (Zm (v := a) Z bu (O Z Z (Zo (v := a) Z Z (Zb (V (Q1 ?_))))))))))
 have bO := Zu hm
 subst r
 refine ⟨_, QX Z, ?_⟩
 exact ⟨b5, a, bp, a8, Z, (Or.inl ⟨Z, Z, a8.arr_shape⟩)⟩
theorem N81 : (Tryz.f81.name == "runtime.NumGoroutine") = false := by kernel_rfl
theorem Qd2 {w0 w : World} {s : PHeap} {H : List Res} {a3 : Task} {aR : Int} {ce : (List Int)} {bq : (List Int)} {aH : Int} {n : Value} {o : Value} {p : Value} {t : Value} {z : Value} {ae : Value} {r : (List Int)} (hm : KP a3 aR ce bq aH = some r) (hS : St w0 s (H) w) (ar : SliceRep (Qa .i64) s n a3.Vars) (a5 : SliceRep (Qa .i64) s o a3.Init) (a6 : SliceRep encFact s p a3.Goal) (au : SliceRep encOp s t a3.Ops) (a7 : SliceRep (Qa .i64) s z ce) (bk : SliceRep (Qa .i64) s ae bq) :
  Calls Tryz.prog 81 #[Value.agg #[n, o, p, t], U aR, z, ae, U aH] w fun e w' => ∃ v, e = .returned v ∧ ((fun (f0 : (List Int)) => ∃ (bd : PHeap) (co : Value), PHeap.le s bd ∧ St w0 bd (H) w' ∧ v = co ∧ SliceRep (Qa .i64) bd co f0) r) := by
 unfold KP at hm
 refine Qy Tryz.func81 Z Z (Zc (Zd (O Z Z (Exec.box (cs := [n, o, p, t]) hS Z Z Z ?_))))
 intro x gC aI
 refine O Z Z (Zo (v := Vs none 0 0) Z Z (Zb (V (Zc (Zd (O Z Z (Zp Qaa Z Z Z (O Z Z (Zn (aI) A24 Z Z Z (O Z Z (Zm (v := U aR) Z Z ?_)))))))))))
 obtain ⟨b, eK, hm⟩ := Zg hm
 refine O Z Z (Qu S24 Z Z Z au eK ?_)
 intro f8 gl cr
 refine O Z Z (Zw (E := encOp) aI A60 Z Z Z cr ?_)
 intro g8 eL
 obtain ⟨ad, aa, rfl, a2, aB⟩ := Y8.1 eL
 refine O Z Z (Exec.alloc (cs := [Value.string (⟨#[]⟩), U 0, Vs none 0 0, Vs none 0 0]) aI Z60 Z Z ?_)
 intro y gD c7
 refine O Z Z (Qf (ds := [Value.string (b.Name), U (b.Cost), ad, aa]) (es := [Value.string (b.Name), U (b.Cost), ad, aa]) c7 A60 Z Z Z Z (Zj Z (Zj Z (Zj a2.one (Zj aB.one Q6)))) (Nat.le_of_ble_eq_true Z) Z ?_)
 intro gE br
 refine Zb (V (Zc (Zd (O Z Z (Zp Yk Z Z Z (O Z Z (Zn (br.f1) A22 Z Z Z (O Z Z (Zr Jt Z Z ar ?_)))))))))
 obtain ⟨gd, eM, hm⟩ := Zg hm
 refine O Z Z (JX (E := (Qa .i64)) br Jt Z3 Z Z Z Z eM ?_)
 intro i gF bs
 refine O Z Z (Zo (v := i) Z Z (Zb (V (Zc (Zd (O Z Z (Qn (ds := [n, o, p, t]) (bs.f2) A26 Z Z Z (O Z Z (Zm (v := z) Z Z (O Z Z (Zm (v := i) Z Z (O Z Z (Zm (v := U aH) Z Z ?_)))))))))))))
 obtain ⟨gf, eN, hm⟩ := Zg hm
 refine O Z Z (Exec.call Z Z Tryz.func79 Z N79 (Zi Z (Zi Z (Zi Z (Zi Z Qk)))) ((Qh4 eN bs ar a5 a6 au a7).mono ?_))
 rintro _ gG ⟨_, rfl, ⟨be, a, bt, rfl⟩⟩
 refine ⟨_, Z, ?_⟩
 refine Zb (V (Zc (Zc (Zd (O Z Z (Zp Qii Z Z Z (O Z Z (Zn (bt.f1) A23 Z Z Z (O Z Z (Zr S23 Z Z (a2.mono a) (O Z Z (Zm (v := U 0) Z Z (Zb (V ?_))))))))))))))
 obtain ⟨bm, cv, ea, dY, dV⟩ := QO hm
 refine QJ (M := fun f' w' => ∃ s', (bm = .next s' ∨ bm = .brk s') ∧ (fun (b6 : (List Int)) => ∃ (cg : PHeap) , PHeap.le be cg ∧ St w0 cg (Res.box x 26 [n, o, p, t] :: Res.box y 60 [Value.string (b.Name), U (b.Cost), ad, aa] :: Res.arr (Qa .i64) 3 i b6 :: H) w' ∧ f' 2 = z ∧ f' 3 = ae ∧ f' 5 = Vp (some ⟨x, 0, none⟩) ∧ f' 11 = Vp (some ⟨y, 0, none⟩) ∧ f' 12 = i ∧ f' 37 = ad ∧ f' 38 = U ((b.Pre.length : Int))) s') ?_ ?_
 ·refine Qm (J4 (fun k' s' f' w' => (fun (aL : (List Int)) => ∃ (ch : PHeap) , PHeap.le be ch ∧ St w0 ch (Res.box x 26 [n, o, p, t] :: Res.box y 60 [Value.string (b.Name), U (b.Cost), ad, aa] :: Res.arr (Qa .i64) 3 i aL :: H) w' ∧ f' 2 = z ∧ f' 3 = ae ∧ f' 5 = Vp (some ⟨x, 0, none⟩) ∧ f' 11 = Vp (some ⟨y, 0, none⟩) ∧ f' 12 = i ∧ f' 37 = ad ∧ f' 38 = U ((b.Pre.length : Int)) ∧ f' 39 = U (k' : Int)) s') cv ?_ ?_ ?_)
  ·have c8 := bt.f1
   have c9 := c8.f2
   exact ⟨be, (Zv _), c9, Z, Z, Z, Z, Z, Z, Z, Z⟩
  ·intro b5 aL aG fR gH b4 cy g eb
   obtain ⟨gx, a0, bu, aS, b7, b8, b9, a9, aT, aU, aC⟩ := cy
   refine Zc (Zd (O Z Z (Zq Z aC aU (Zb (V (Zc (QK (Zx (decide_eq_true (by omega))) (Qp (V (Zc (Qm (Zc (Zd ?_)))))))))))))
   obtain ⟨aD, eO, g⟩ := Zg g
   refine O Z Z (Qu S23 Z aT aC (a2.mono (Zt a a0)) eO ?_)
   intro f9 gm ct
   refine O Z Z (Zw (E := encFact) bu A90 Z Z Z ct ?_)
   intro g9 eP
   obtain rfl := Ye.1 eP
   refine O Z Z (Exec.alloc (cs := [U 0, U 0]) bu Z90 Z Z ?_)
   intro fA gI cA
   refine O Z Z (Qf (ds := [U (aD.Var), U (aD.Val)]) (es := [U (aD.Var), U (aD.Val)]) cA A90 Z Z Z Z (Zj Z (Zj Z Q6)) (Nat.le_of_ble_eq_true Z) Z ?_)
   intro gJ bv
   refine Zb (V (Zc (Zd (O Z Z (Zm (v := z) Z aS (O Z Z (Zp Yj Z Z Z (O Z Z (Zn (bv) A3 Z Z Z ?_)))))))))
   obtain ⟨hk, eQ, g⟩ := Zg g
   refine O Z Z (Exec.call Z Z Tryz.func80 Z N80 (Zi Z (Zi Z Qk)) ((Jz eQ bv (a7.mono (Zt a a0))).mono ?_))
   rintro _ gK ⟨_, rfl, ⟨bf, aM, av, rfl⟩⟩
   refine ⟨_, Z, ?_⟩
   refine Zb (V ?_)
   rcases Qg g with ⟨ax, g⟩ | ⟨ax, g⟩
   ·refine Qv Z ax (Zc (K3 (n0 := 8) (.q 0 (.q 1 (.q 2 (.q 3 (.q 4 (.q 5 (.q 6 (.q 7 .done)))))))) K8 (by kernel_rfl) (by kernel_rfl) ?_))
    have am := av.drew
    refine Qh Z Z (Zm (v := i) Z a9 ⟨Z, ?_⟩)
    refine Qh Z Z (Zp Yj Z Z Z ⟨Z, ?_⟩)
    refine Qh Z Z (Zn (am) A3 Z Z Z ⟨Z, ?_⟩)
    obtain ⟨hh, aA, g⟩ := Zg g
    obtain ⟨ga, fD, bn⟩ := (am.f3).arr_at aA
    refine Qh Z Z (Qc Jt Z bn Z (Qe aA).1 (Qe aA).2.1 ⟨Z, ?_⟩)
    refine Qh Z Z (Qt (F := (Qa .i64)) (am.f3) bn A3 Z Z Z aA (Sub.refl _) ?_)
    intro gA eR
    obtain rfl := Qs.1 eR
    refine ⟨Z, ?_⟩
    refine Qh Z Z (Zp QdX Z Z Z ⟨Z, ?_⟩)
    refine Qh Z Z (Zn (am) A3 Z Z Z ⟨Z, ?_⟩)
    refine Qh Z Z (Exec.neq Z Z Z ⟨Z, ?_⟩)
    refine QC (Zb (V ?_))
    rcases Qg g with ⟨ay, g⟩ | ⟨ay, g⟩
    ·refine Qv Z ay (Zc (Zd (O Z Z (Zo (v := Vs none 0 0) Z Z (Zb (V (Q1 (QD (Qj (Qj (QD (Qj (Qj ?_)))))))))))))
     have fG := Zu g
     subst aG
     have dZ := ea _ (eb (by intro _ h; cases h))
     have fH := Zu dZ
     subst r
     refine ⟨_, QX Z, ?_⟩
     have cB := am.drop
     have cC := cB.drop
     have cD := cC.drop
     have cE := cD.drop
     exact ⟨bf, (Vs none 0 0), (Zt (Zt a a0) aM), cE, Z, (SliceRep.nil _ _)⟩
    refine Qw Z ay ?_
    replace ay := Zk ay
    refine Qp (Qz (V (Zd (O Z Z (Exec.add Z aC Z (O Z Z (Zm (v := U (IntKind.i64.wrap ((b5 : Int) + 1))) Z Z (Zb (V ?_)))))))))
    have fI := Zu g
    subst aG
    have cF := am.drop
    have cG := cF.f2
    have cH := cG.f2
    have cI := cH.f2
    refine ⟨_, Z, ?_⟩; exact ⟨bf, (Zt a0 aM), cI, aS, b7, b8, b9, a9, aT, aU, (Eq.trans Z (QB b4 (SliceRep.le (a2.mono a))))⟩
   refine Qw Z ax ?_
   replace ax := Zk ax
   refine Zd (O Z Z (Zm (v := i) Z a9 (O Z Z (Zp Yj Z Z Z (O Z Z (Zn (av) A3 Z Z Z (O Z Z (Zp QdX Z Z Z (O Z Z (Zn (av) A3 Z Z Z ?_))))))))))
   obtain ⟨hi, bb, g⟩ := Zg g
   obtain ⟨gb, fE, bo⟩ := (av.f3).arr_at bb
   refine O Z Z (Qc Jt Z bo Z (Qe bb).1 (Qe bb).2.1 ?_)
   obtain ⟨gg, eS, g⟩ := Zg g
   have cJ := av.f3
   refine O Z Z (QN cJ bo A3 Z Z Z Z (Qs.2 Z) eS ?_)
   intro gL cK
   refine Zb (Qz (V (Zd (O Z Z (Exec.add Z aC Z (O Z Z (Zm (v := U (IntKind.i64.wrap ((b5 : Int) + 1))) Z Z (Zb (V ?_)))))))))
   have fJ := Zu g
   subst aG
   have cL := (cK.f1).drop
   have cM := cL.f2
   have cN := cM.f2
   refine ⟨_, Z, ?_⟩; exact ⟨bf, (Zt a0 aM), cN, aS, b7, b8, b9, a9, aT, aU, (Eq.trans Z (QB b4 (SliceRep.le (a2.mono a))))⟩
  intro aL fS gM cz ec
  obtain ⟨fk, ed, cO, em, en, eo, ep, er, et, bA, fx⟩ := cz
  refine Zc (Zd (O Z Z (Zq Z fx bA (Zb (V (Zc (QA (Zx (decide_eq_false (by omega))) (QF (Ql (Ql (Q7 (V ?_))))))))))))
  have cP := cO.f2
  have cQ := cP.f2
  have cR := cQ.f2
  refine ⟨_, .inl ec, ?_⟩; exact ⟨fk, ed, cR, em, en, eo, ep, er, et, bA⟩
 rintro fT gN ⟨b6, b3, c4⟩
 have hm := b3.elim (dY _) (dV _)
 clear b3
 obtain ⟨gy, d, bw, eu, bB, bC, ev, ew, go, gp⟩ := c4
 refine (V (Zc (Zd (O Z Z (Qn (ds := [n, o, p, t]) (bw) A26 Z bC Z (O Z Z (Zm (v := ae) Z bB ?_)))))))
 obtain ⟨ft, eT, hm⟩ := Zg hm
 obtain ⟨aj, bj⟩ := ft
 replace hm := Jf hm
 refine O Z Z (Exec.call Z Z Tryz.func76 Z N76 (Zi Z (Zi Z Qk)) ((Qa4 eT bw (ar.mono (Zt a d)) (a5.mono (Zt a d)) (a6.mono (Zt a d)) (au.mono (Zt a d)) (bk.mono (Zt a d))).mono ?_))
 rintro _ gO ⟨_, rfl, ⟨ci, j, cS, rfl⟩⟩
 refine ⟨_, Z, ?_⟩
 refine O Z Z (Zm (v := Value.tuple #[U aj, Vb bj]) Z Z (O Z Z (Exec.extract (v := U aj) Z Z Z (O Z Z (Exec.extract (v := Vb bj) Z Z Z (O Z Z (Zo (v := U aj) Z Z (O Z Z (Zo (v := Vb bj) Z Z (Zb (V (Zc (Zd (O Z Z (Zo (v := Vs none 0 0) Z Z (Zb (V (Zc (Zc (Zd (O Z Z (Zm (v := U aj) Z Z (O Z Z (Zm (v := U 0) Z Z (Zb (V ?_))))))))))))))))))))))))))
 obtain ⟨g6, eU, hm⟩ := Zg hm
 obtain ⟨fu, cw, hm⟩ := Zg hm
 refine Qm (J3 (fun k' s' f' w' => (J2 fun (ap : (List Int)) (aN : (List Int)) => ∃ (cj : PHeap) (u : Value), PHeap.le ci cj ∧ St w0 cj (Res.box x 26 [n, o, p, t] :: Res.box y 60 [Value.string (b.Name), U (b.Cost), ad, aa] :: Res.arr (Qa .i64) 3 i aN :: Res.arr (Qa .i64) 3 u ap :: H) w' ∧ f' 2 = z ∧ f' 3 = ae ∧ f' 5 = Vp (some ⟨x, 0, none⟩) ∧ f' 11 = Vp (some ⟨y, 0, none⟩) ∧ f' 12 = i ∧ f' 17 = u ∧ f' 68 = U aj ∧ f' 69 = U (k' : Int)) s') cw ?_ ?_ ?_)
 ·have cT := cS.nilArr (Qa .i64) 3
  have cU := cT.f3
  have cV := cU.f3
  have cW := cV.f3
  exact ⟨ci, (Vs none 0 0), (Zv _), cW, eu, bB, bC, ev, ew, Z, Z, Z⟩
 ·intro al fv fl fU gP dW c0 m
  obtain ⟨ap, aN⟩ := fv
  replace m := Jf m
  obtain ⟨gz, u, l, bx, ex, bD, bE, bF, aV, ey, bG, bi⟩ := c0
  refine Zc (Zd (O Z Z (Zq Z bi bG (Zb (V (Zc (QK (Zx (decide_eq_true (by omega))) (Qp (V (Zc (Qm (Zc (Zd (O Z Z (Zm (v := U ((al : Int))) Z bi (O Z Z (Zo (v := U ((al : Int))) Z Z (Zb (V (Zc (Zd (O Z Z (Qn (ds := [n, o, p, t]) (bx) A26 Z bE Z (O Z Z (Zm (v := ae) Z bD (O Z Z (Zm (v := i) Z aV (O Z Z (Zm (v := U ((al : Int))) Z Z ?_)))))))))))))))))))))))))))))
  obtain ⟨aO, eV, m⟩ := Zg m
  have cX := bx.f2
  refine O Z Z (Exec.call Z Z Tryz.func79 Z N79 (Zi Z (Zi Z (Zi Z (Zi Z Qk)))) ((Qh4 eV cX (ar.mono (Zt (Zt (Zt a d) j) l)) (a5.mono (Zt (Zt (Zt a d) j) l)) (a6.mono (Zt (Zt (Zt a d) j) l)) (au.mono (Zt (Zt (Zt a d) j) l)) (bk.mono (Zt (Zt (Zt a d) j) l))).mono ?_))
  rintro _ gQ ⟨_, rfl, ⟨g0, ab, cY, rfl⟩⟩
  refine ⟨_, Z, ?_⟩
  refine Zb (V (Zc (Zd (O Z Z (Zm (v := i) Z aV ?_)))))
  obtain ⟨hl, eW, m⟩ := Zg m
  refine O Z Z (Exec.call Z Z Tryz.func36 Z N36 (Zi Z Qk) ((Qbd eW cY).mono ?_))
  rintro _ gR ⟨ai, rfl, ⟨ck, _, ac, bz, rfl⟩⟩
  refine ⟨_, Z, ?_⟩
  refine O Z Z (Zo (v := ai) Z Z (Zb (V (Zc (Zc (Zd (O Z Z (Zp QdY Z bF Z (O Z Z (Zn (bz.f3) A58 Z Z Z (O Z Z (Zr S58 Z Z (aB.mono (Zt (Zt (Zt (Zt (Zt a d) j) l) ab) ac)) (O Z Z (Zm (v := U 0) Z Z (Zb (V ?_))))))))))))))))
  obtain ⟨a8, cx, m⟩ := Zg m
  refine Qm (J3 (fun k' s' f' w' => (fun (a8 : (List Int)) => ∃ (cl : PHeap) , PHeap.le ck cl ∧ St w0 cl (Res.box x 26 [n, o, p, t] :: Res.box y 60 [Value.string (b.Name), U (b.Cost), ad, aa] :: Res.arr (Qa .i64) 3 i aO :: Res.arr (Qa .i64) 3 u ap :: Res.arr (Qa .i64) 3 ai a8 :: H) w' ∧ f' 2 = z ∧ f' 3 = ae ∧ f' 5 = Vp (some ⟨x, 0, none⟩) ∧ f' 11 = Vp (some ⟨y, 0, none⟩) ∧ f' 12 = i ∧ f' 17 = u ∧ f' 19 = ai ∧ f' 68 = U aj ∧ f' 69 = U ((al : Int)) ∧ f' 80 = aa ∧ f' 81 = U ((b.Effs.length : Int)) ∧ f' 82 = U (k' : Int)) s') cx ?_ ?_ ?_)
  ·have cZ := bz.f1
   have da := cZ.f4
   have db := da.f2
   have dc := db.f4
   have dd := dc.f4
   exact ⟨ck, (Zv _), dd, ex, bD, bE, bF, aV, ey, Z, bG, bi, Z, Z, Z⟩
  ·intro aK a8 fm fV gS dX c1 ak
   obtain ⟨fn, aP, b0, aW, bH, bI, bJ, aX, bK, bL, bM, bN, aY, aZ, aE⟩ := c1
   refine Zc (Zd (O Z Z (Zq Z aE aZ (Zb (V (Zc (QK (Zx (decide_eq_true (by omega))) (Qp (V (Zc (Qm (Zc (Zd ?_)))))))))))))
   obtain ⟨aq, eX, ak⟩ := Zg ak
   refine O Z Z (Qu S58 Z aY aE (aB.mono (Zt (Zt (Zt (Zt (Zt (Zt a d) j) l) ab) ac) aP)) eX ?_)
   intro fB gn cu
   refine O Z Z (Zw (E := encEffect) b0 A95 Z Z Z cu ?_)
   intro gB eY
   obtain ⟨bh, rfl, cf⟩ := Yv.1 eY
   refine O Z Z (Exec.alloc (cs := [Vs none 0 0, U 0, U 0]) b0 Z95 Z Z ?_)
   intro bl gT de
   refine O Z Z (Qf (ds := [bh, U (aq.Var), U (aq.Val)]) (es := [bh, U (aq.Var), U (aq.Val)]) de A95 Z Z Z Z (Zj cf.one (Zj Z (Zj Z Q6))) (Nat.le_of_ble_eq_true Z) Z ?_)
   intro gU b1
   refine Zb (V (Zc ?_))
   obtain ⟨a4, ag, ak⟩ := Zg ak
   refine QJ (M := fun f' w' => (fun (a4 : Bool) => ∃ (cm : PHeap) , PHeap.le fn cm ∧ St w0 cm (Res.box x 26 [n, o, p, t] :: Res.box y 60 [Value.string (b.Name), U (b.Cost), ad, aa] :: Res.arr (Qa .i64) 3 i aO :: Res.arr (Qa .i64) 3 u ap :: Res.arr (Qa .i64) 3 ai a8 :: Res.box bl 95 [bh, U (aq.Var), U (aq.Val)] :: H) w' ∧ f' 2 = z ∧ f' 3 = ae ∧ f' 5 = Vp (some ⟨x, 0, none⟩) ∧ f' 11 = Vp (some ⟨y, 0, none⟩) ∧ f' 12 = i ∧ f' 17 = u ∧ f' 19 = ai ∧ f' 21 = Vp (some ⟨bl, 0, none⟩) ∧ f' 68 = U aj ∧ f' 69 = U ((al : Int)) ∧ f' 80 = aa ∧ f' 81 = U ((b.Effs.length : Int)) ∧ f' 82 = U ((aK : Int)) ∧ f' 95 = Vb a4) a4) ?_ ?_
   ·refine Zd (O Z Z (Zm (v := z) Z aW (O Z Z (Zp QgV Z Z Z (O Z Z (Zn (b1) A3 Z Z Z ?_))))))
    obtain ⟨f6, eZ, ag⟩ := Zg ag
    refine O Z Z (Exec.call Z Z Tryz.func80 Z N80 (Zi Z (Zi Z Qk)) ((Jz eZ b1 (a7.mono (Zt (Zt (Zt (Zt (Zt (Zt a d) j) l) ab) ac) aP))).mono ?_))
    rintro _ gV ⟨_, rfl, ⟨fo, aQ, aJ, rfl⟩⟩
    refine ⟨_, Z, ?_⟩
    refine O Z Z (Zm (v := Vb f6) Z Z ?_)
    rcases Qg ag with ⟨af, ag⟩ | ⟨af, ag⟩
    ·refine Qo Z (Zf Z (Zx af)) Z (Zp Qih Z Z Z (Qo Z (Zf Z (Zx af)) Z (Zn (aJ) A23 Z Z Z (Qo Z (Zf Z (Zx af)) Z (Zm (v := i) Z aX ?_)))))
     obtain ⟨f7, fa, ag⟩ := Zg ag
     have df := aJ.f3
     refine Qo Z (Zf Z (Zx af)) Z (Exec.call Z Z Tryz.func107 Z QoH (Zi Z (Zi Z Qk)) ((QeP fa df (cf.mono aQ)).mono ?_))
     rintro _ gW ⟨_, rfl, ⟨fp, ee, dg, rfl⟩⟩
     refine ⟨_, Z, ?_⟩
     refine O Z Z (Zs (v := Vb f7) Z (Zx af) Z (Zb (V ?_)))
     have fK := Zu ag
     subst a4
     have dh := dg.f1
     have di := dh.f5
     have dj := di.f5
     have dk := dj.f3
     have dl := dk.f5
     have dm := dl.f5
     exact ⟨fp, (Zt aQ ee), dm, aW, bH, bI, bJ, aX, bK, bL, Z, bM, bN, aY, aZ, aE, Z⟩
    replace af := Zk af
    refine Q0 5 (by rw [af]; rfl) ?_
    refine Zb (V ?_)
    have fL := Zu ag
    subst a4
    have dn := aJ.f5
    have dp := dn.f5
    have dq := dp.f5
    have dr := dq.f5
    have dt := dr.f5
    exact ⟨fo, aQ, dt, aW, bH, bI, bJ, aX, bK, bL, Z, bM, bN, aY, aZ, aE, Z⟩
   intro fW gX c5
   obtain ⟨bg, ef, aw, bO, bP, bQ, bR, bS, bT, ba, bU, bV, bW, bX, bY, bZ, ca⟩ := c5
   refine (V ?_)
   obtain ⟨a1, ah, ak⟩ := Zg ak
   refine QJ (M := fun f' w' => (fun (a1 : (List Int)) => ∃ (cn : PHeap) , PHeap.le bg cn ∧ St w0 cn (Res.box x 26 [n, o, p, t] :: Res.box y 60 [Value.string (b.Name), U (b.Cost), ad, aa] :: Res.arr (Qa .i64) 3 i aO :: Res.arr (Qa .i64) 3 u ap :: Res.arr (Qa .i64) 3 ai a1 :: H) w' ∧ f' 2 = z ∧ f' 3 = ae ∧ f' 5 = Vp (some ⟨x, 0, none⟩) ∧ f' 11 = Vp (some ⟨y, 0, none⟩) ∧ f' 12 = i ∧ f' 17 = u ∧ f' 19 = ai ∧ f' 68 = U aj ∧ f' 69 = U ((al : Int)) ∧ f' 80 = aa ∧ f' 81 = U ((b.Effs.length : Int)) ∧ f' 82 = U ((aK : Int))) a1) ?_ ?_
   ·rcases Qg ah with ⟨az, ah⟩ | ⟨az, ah⟩
    ·refine Qv ca az (Zd (O Z Z (Zm (v := ai) Z ba (O Z Z (Zp QgV Z bU Z (O Z Z (Zn (aw.f5) A3 Z Z Z (O Z Z (Zp QjG Z bU Z (O Z Z (Zn (aw.f5) A3 Z Z Z ?_)))))))))))
     obtain ⟨hj, bc, ah⟩ := Zg ah
     obtain ⟨gc, fF, bp⟩ := (aw.f4).arr_at bc
     refine O Z Z (Qc Jt Z bp Z (Qe bc).1 (Qe bc).2.1 ?_)
     obtain ⟨gh, fb, ah⟩ := Zg ah
     have du := aw.f4
     refine O Z Z (QN du bp A3 Z Z Z Z (Qs.2 Z) fb ?_)
     intro gY dv
     refine Zb (V ?_)
     have fM := Zu ah
     subst a1
     have dw := (dv.f5).drop
     have dx := dw.f4
     have dy := dx.f4
     have dz := dy.f4
     have d0 := dz.f4
     exact ⟨bg, (Zv _), d0, bO, bP, bQ, bR, bS, bT, ba, bV, bW, bX, bY, bZ⟩
    refine Qw ca az ?_
    replace az := Zk az
    refine Qp (V ?_)
    have fN := Zu ah
    subst a1
    have d1 := (aw.f5).drop
    have d2 := d1.f4
    have d3 := d2.f4
    have d4 := d3.f4
    have d5 := d4.f4
    have d6 := d5.f4
    exact ⟨bg, (Zv _), d6, bO, bP, bQ, bR, bS, bT, ba, bV, bW, bX, bY, bZ⟩
   intro fX gZ c6
   obtain ⟨fq, eg, d7, ez, e0, e1, e2, e3, e4, e5, e6, e7, e8, e9, eA⟩ := c6
   refine (Qz (V (Zd (O Z Z (Exec.add Z eA Z (O Z Z (Zm (v := U (IntKind.i64.wrap ((aK : Int) + 1))) Z Z (Zb (V ?_)))))))))
   have fO := Zu ak
   subst fm
   have d8 := d7.f4
   have d9 := d8.f4
   have dA := d9.f4
   have dB := dA.f4
   have dC := dB.f4
   exact ⟨fq, (Zt (Zt aP ef) eg), dC, ez, e0, e1, e2, e3, e4, e5, e6, e7, e8, e9, (Eq.trans Z (QB dX (SliceRep.le (aB.mono (Zt (Zt (Zt (Zt (Zt a d) j) l) ab) ac)))))⟩
  intro fY ha c2
  obtain ⟨g1, an, b2, cb, eB, cc, eC, eD, eE, eF, eG, eH, gq, eI, fy⟩ := c2
  refine Zc (Zd (O Z Z (Zq Z fy eI (Zb (V (Zc (QA (Zx (decide_eq_false (by omega))) (QF (Ql (Ql (Q7 (V (Zd (O Z Z (Zm (v := u) Z eE (O Z Z (Qn (ds := [n, o, p, t]) (b2) A26 Z cc Z (O Z Z (Zm (v := z) Z cb (O Z Z (Zm (v := ai) Z eF ?_)))))))))))))))))))))
  have dD := b2.f4
  obtain ⟨g2, ao, dE, fh⟩ := dD.freezeArr
  obtain ⟨aF, fc, m⟩ := Zg m
  refine O Z Z (Exec.call Z Z Tryz.func77 Z N77 (Zi Z (Zi Z (Zi Z Qk))) ((QbH fc dE (ar.mono (Zt (Zt (Zt (Zt (Zt (Zt (Zt a d) j) l) ab) ac) an) ao)) (a5.mono (Zt (Zt (Zt (Zt (Zt (Zt (Zt a d) j) l) ab) ac) an) ao)) (a6.mono (Zt (Zt (Zt (Zt (Zt (Zt (Zt a d) j) l) ab) ac) an) ao)) (au.mono (Zt (Zt (Zt (Zt (Zt (Zt (Zt a d) j) l) ab) ac) an) ao)) (a7.mono (Zt (Zt (Zt (Zt (Zt (Zt (Zt a d) j) l) ab) ac) an) ao)) fh).mono ?_))
  rintro _ hb ⟨_, rfl, ⟨fr, eh, dF, rfl⟩⟩
  refine ⟨_, Z, ?_⟩
  refine O Z Z (Exec.buildSlice (Te := 3) (cs := [U aF]) dF Z (Qb (c := [U aF]) (Qi Z Z) Qx) (fun _ => by kernel_rfl) ?_)
  intro fC hc dG
  obtain ⟨gi, fd, m⟩ := Zg m
  have dH := dG.f4
  refine O Z Z (QR (E := (Qa .i64)) (ys := [aF]) dH Jt Z3 Z (by decide) Z Z Z Z ⟨[U aF], [], Z, Z, Z⟩ Z fd ?_)
  intro cp hd dI
  refine O Z Z (Zo (v := cp) Z Z (Zb (Qz (V (Zd (O Z Z (Exec.add Z eH Z (O Z Z (Zm (v := U (IntKind.i64.wrap ((al : Int) + 1))) Z Z (Zb (V ?_)))))))))))
  have fP := Zu m
  subst fl
  have dJ := dI.f3
  have dK := dJ.f3
  have dL := dK.f3
  exact ⟨fr, cp, (Zt (Zt (Zt (Zt (Zt l ab) ac) an) ao) eh), dL, cb, eB, cc, eC, eD, Z, eG, (Eq.trans Z (QB dW (by have h := QT eU; simp at h; simp only [maxLen]; omega)))⟩
 intro fZ he c3
 obtain ⟨ap, aN⟩ := fu
 replace hm := Jf hm
 obtain ⟨g3, u, ei, dM, gr, gs, gu, gv, gw, cd, eJ, fz⟩ := c3
 refine Zc (Zd (O Z Z (Zq Z fz eJ (Zb (V (Zc (QA (Zx (decide_eq_false (by omega))) (QF (Ql (Ql (Q7 (V (Zc (Zd (O Z Z (Zm (v := u) Z cd ?_))))))))))))))))
 obtain ⟨gj, fe, hm⟩ := Zg hm
 have dN := dM.f3
 refine O Z Z (Exec.call Z Z Tryz.func53 Z N53 (Zi Z Qk) ((QcC fe dN).mono ?_))
 rintro _ hf ⟨_, rfl, ⟨g4, ej, dO, rfl⟩⟩
 refine ⟨_, Z, ?_⟩
 refine Zb (V (Zc (Zd (O Z Z (Zm (v := u) Z cd ?_)))))
 obtain ⟨fw, ff, hm⟩ := Zg hm
 obtain ⟨hn, gk⟩ := fw
 replace hm := Jf hm
 refine O Z Z (Exec.call Z Z Tryz.func108 Z QoG (Zi Z Qk) ((QaB ff dO).mono ?_))
 rintro _ hg ⟨cq, rfl, ⟨g5, _, ek, dP, rfl, fi⟩⟩
 refine ⟨_, Z, ?_⟩
 obtain ⟨g7, fg, hm⟩ := Zg hm
 have dQ := dP.arr_head fi (by simpa using QT fg)
 refine O Z Z (Zo (v := cq) Z Z (Zb (V (Q1 ?_))))
 have fQ := Zu hm
 subst r
 refine ⟨_, QX Z, ?_⟩
 obtain ⟨fs, el, dR, fj⟩ := dQ.freezeArr
 have dS := dR.drop
 have dT := dS.drop
 have dU := dT.drop
 exact ⟨fs, cq, (Zt (Zt (Zt (Zt (Zt (Zt a d) j) ei) ej) ek) el), dU, Z, fj⟩
theorem QaF : Jk Tryz.prog 38 3 = some 3 := by kernel_rfl
theorem A35 : JI Tryz.prog 35 = some (false, 1) := by kernel_rfl
theorem S35 : Jb Tryz.prog 35 = some (85, 3, 24) := by kernel_rfl
theorem Z85 : JA Tryz.prog 85 = some (Value.agg #[U 0, U 0, U 0]) := by kernel_rfl
theorem N55 : (Tryz.f55.name == "runtime.NumGoroutine") = false := by kernel_rfl
theorem Qbs {w0 w : World} {s : PHeap} {H : List Res} {aj : Task} {cW : (List Int)} {ab : Value} {ac : Value} {p : Value} {t : Value} {ad : Value} {r : (Option Int) × System} (hm : JN aj cW = some r) (hS : St w0 s (H) w) (a0 : SliceRep (Qa .i64) s ab aj.Vars) (a1 : SliceRep (Qa .i64) s ac aj.Init) (av : SliceRep encFact s p aj.Goal) (ak : SliceRep encOp s t aj.Ops) (a2 : SliceRep (Qa .i64) s ad cW) :
  Calls Tryz.prog 55 #[Value.agg #[ab, ac, p, t], ad] w fun e w' => ∃ v, e = .returned v ∧ ((J2 fun (kp : (Option Int)) (aO : System) => ∃ (aK : PHeap) (dp : Value) (dq : Value) (dr : Value), PHeap.le s aK ∧ St w0 aK (H) w' ∧ v = Value.tuple #[Value.agg #[U (aO.States), U (aO.Init), dp, dq, dr], QG 50 (kp)] ∧ SliceRep (Qa .i64) aK dp aO.Costs ∧ SliceRep encEdge aK dq aO.Edges ∧ SliceRep encBool aK dr aO.Goals) r) := by
 unfold JN at hm
 refine Qy Tryz.func55 Z Z (Zc (Zd (O Z Z (Exec.box (cs := [ab, ac, p, t]) hS Z Z Z ?_))))
 intro u lF dK
 refine O Z Z (Exec.alloc (cs := [U 0, U 0, Vs none 0 0, Vs none 0 0, Vs none 0 0]) dK Z38 Z Z ?_)
 intro x lG cd
 refine O Z Z (Zo (v := QG 50 (none)) Z Z (Zb (V (Zc (Zc (Zd (O Z Z (Qn (ds := [ab, ac, p, t]) (cd.f1) A26 Z Z Z (O Z Z (Zm (v := ad) Z Z ?_))))))))))
 obtain ⟨bh, jx, hm⟩ := Zg hm
 refine O Z Z (Exec.call Z Z Tryz.func75 Z N75 (Zi Z (Zi Z Qk)) ((Qe2 jx cd a0 a1 av ak a2).mono ?_))
 rintro _ lH ⟨_, rfl, ⟨jR, a, bk, rfl⟩⟩
 refine ⟨_, Z, ?_⟩
 refine O Z Z (Zo (v := QG 50 (bh)) Z Z (Zb (V (Zc (Zd (O Z Z (Zm (v := QG 50 (bh)) Z Z (O Z Z (Je (T := 50) Tryz.underlying32 Z Z Z (Zb (V ?_)))))))))))
 rcases Qg hm with ⟨aE, hm⟩ | ⟨aE, hm⟩
 ·refine Qv Z aE (Zc (Zd (O Z Z (Exec.build Z Qx (v := Value.agg #[U 0, U 0, Vs none 0 0, Vs none 0 0, Vs none 0 0]) (fun _ => by kernel_rfl) (O Z Z (Zm (v := QG 50 (bh)) Z Z (O Z Z (Qf (ds := [U 0, U 0, Vs none 0 0, Vs none 0 0, Vs none 0 0]) (es := [U 0, U 0, Vs none 0 0, Vs none 0 0, Vs none 0 0]) bk KH Z Z Z Z (Zj Z (Zj Z (Zj Z (Zj Z (Zj Z Q6))))) (Nat.le_of_ble_eq_true Z) Z ?_))))))))
  intro lI ce
  refine O Z Z (Zo (v := QG 50 (bh)) Z Z (Zb (V (Q1 (Qj ?_)))))
  have k3 := Zu hm
  subst r
  refine ⟨_, Qak Z ⟨_, _, Z, JY (ce) KH⟩ Z, ?_⟩
  have dL := ce.drop
  have dM := dL.drop
  exact ⟨jR, (Vs none 0 0), (Vs none 0 0), (Vs none 0 0), a, dM, (KX Z Z), (SliceRep.nil _ _), (SliceRep.nil _ _), (SliceRep.nil _ _)⟩
 refine Qw Z aE ?_
 replace aE := Zk aE
 refine Qp (V (Zc (Zd (O Z Z (Qn (ds := [ab, ac, p, t]) (bk.f1) A26 Z Z Z (O Z Z (Zm (v := ad) Z Z ?_)))))))
 obtain ⟨kc, jy, hm⟩ := Zg hm
 obtain ⟨d, bi⟩ := kc
 replace hm := Jf hm
 refine O Z Z (Exec.call Z Z Tryz.func76 Z N76 (Zi Z (Zi Z Qk)) ((Qa4 jy bk (a0.mono a) (a1.mono a) (av.mono a) (ak.mono a) (a2.mono a)).mono ?_))
 rintro _ lJ ⟨_, rfl, ⟨jS, b, aR, rfl⟩⟩
 refine ⟨_, Z, ?_⟩
 refine O Z Z (Zm (v := Value.tuple #[U d, Vb bi]) Z Z (O Z Z (Exec.extract (v := U d) Z Z Z (O Z Z (Exec.extract (v := Vb bi) Z Z Z (O Z Z (Zo (v := U d) Z Z (O Z Z (Zo (v := Vb bi) Z Z (Zb (V (Zc (Zc (Zd (O Z Z (Zm (v := Vb bi) Z Z (O Z Z (Exec.not Z Z (Zb (V ?_))))))))))))))))))))
 rcases Qg hm with ⟨aF, hm⟩ | ⟨aF, hm⟩
 ·refine Qv Z aF (Zc (Zd (O Z Z (Exec.build Z Qx (v := Value.agg #[U 0, U 0, Vs none 0 0, Vs none 0 0, Vs none 0 0]) (fun _ => by kernel_rfl) (O Z Z (Exec.makeInterface C50 Z Z (O Z Z (Qf (ds := [U 0, U 0, Vs none 0 0, Vs none 0 0, Vs none 0 0]) (es := [U 0, U 0, Vs none 0 0, Vs none 0 0, Vs none 0 0]) aR KH Z Z Z Z (Zj Z (Zj Z (Zj Z (Zj Z (Zj Z Q6))))) (Nat.le_of_ble_eq_true Z) Z ?_))))))))
  intro lK cf
  refine O Z Z (Zo (v := QG 50 (some 5)) Z Z (Zb (V (Q1 (Qj ?_)))))
  have k4 := Zu hm
  subst r
  refine ⟨_, Qak Z ⟨_, _, Z, JY (cf) KH⟩ Z, ?_⟩
  have dN := cf.drop
  have dO := dN.drop
  exact ⟨jS, (Vs none 0 0), (Vs none 0 0), (Vs none 0 0), (Zt a b), dO, (KX Z Z), (SliceRep.nil _ _), (SliceRep.nil _ _), (SliceRep.nil _ _)⟩
 refine Qw Z aF ?_
 replace aF := Zk aF
 refine Qp (V (Zc (Zd (O Z Z (Zm (v := U d) Z Z (O Z Z (Qn (ds := [ab, ac, p, t]) (aR.f1) A26 Z Z Z (O Z Z (Zm (v := ad) Z Z (O Z Z (Zp Qlg Z Z Z (O Z Z (Zn (aR.f1) A22 Z Z Z ?_)))))))))))))
 obtain ⟨z, jz, hm⟩ := Zg hm
 refine O Z Z (Exec.call Z Z Tryz.func77 Z N77 (Zi Z (Zi Z (Zi Z Qk))) ((QbH jz aR (a0.mono (Zt a b)) (a1.mono (Zt a b)) (av.mono (Zt a b)) (ak.mono (Zt a b)) (a2.mono (Zt a b)) (a1.mono (Zt a b))).mono ?_))
 rintro _ lL ⟨_, rfl, ⟨bD, g, dP, rfl⟩⟩
 refine ⟨_, Z, ?_⟩
 refine O Z Z (Exec.build Z (Qb (c := [U d]) (Qi Z Z) (Qb (c := [U z]) (Qi Z Z) Qx)) (v := Value.agg #[U d, U z, Vs none 0 0, Vs none 0 0, Vs none 0 0]) (fun _ => by kernel_rfl) (O Z Z (Exec.alloc (cs := [U 0, U 0, Vs none 0 0, Vs none 0 0, Vs none 0 0]) dP Z38 Z Z ?_)))
 intro y lM dQ
 refine O Z Z (Qf (ds := [U d, U z, Vs none 0 0, Vs none 0 0, Vs none 0 0]) (es := [U d, U z, Vs none 0 0, Vs none 0 0, Vs none 0 0]) dQ KH Z Z Z Z (Zj Z (Zj Z (Zj Z (Zj Z (Zj Z Q6))))) (Nat.le_of_ble_eq_true Z) Z ?_)
 intro lN cg
 refine Zb (V (Zc (Zd (O Z Z (Zp Qaa Z Z Z (O Z Z (Zn (cg.f2) A24 Z Z Z (O Z Z (Zr S24 Z Z (ak.mono (Zt (Zt a b) g)) ?_)))))))))
 obtain ⟨ld, j0, hm⟩ := Zg hm
 refine O Z Z (JX (E := (QE (Qa .i64))) cg S44 Z22 ⟨_, Z, (SliceRep.nil _ _)⟩ Z Z Z j0 ?_)
 intro l lO ch
 refine O Z Z (Zo (v := l) Z Z (Zb (V (Zc (Zc (Zd (O Z Z (Zp Qaa Z Z Z (O Z Z (Zn (ch.f3) A24 Z Z Z (O Z Z (Zr S24 Z Z (ak.mono (Zt (Zt a b) g)) (O Z Z (Zm (v := U 0) Z Z (Zb (V ?_))))))))))))))))
 obtain ⟨bR, d0, hu, hl, hc⟩ := QO hm
 refine QJ (M := fun f' w' => ∃ s', (bR = .next s' ∨ bR = .brk s') ∧ (J2 fun (au : (List Int)) (ap : (List (List Int))) => ∃ (cZ : PHeap) (j : Value), PHeap.le bD cZ ∧ St w0 cZ (Res.box u 26 [ab, ac, p, t] :: Res.box x 38 [U 0, U 0, Vs none 0 0, Vs none 0 0, Vs none 0 0] :: Res.box y 38 [U d, U z, j, Vs none 0 0, Vs none 0 0] :: Res.arr (QE (Qa .i64)) 22 l ap :: Res.arr (Qa .i64) 3 j au :: H) w' ∧ f' 1 = ad ∧ f' 2 = Vp (some ⟨u, 0, none⟩) ∧ f' 4 = Vp (some ⟨x, 0, none⟩) ∧ f' 7 = U d ∧ f' 9 = Vp (some ⟨y, 0, none⟩) ∧ f' 10 = l ∧ f' 52 = t ∧ f' 53 = U ((aj.Ops.length : Int))) s') ?_ ?_
 ·refine Qm (J4 (fun k' s' f' w' => (J2 fun (bQ : (List Int)) (bq : (List (List Int))) => ∃ (da : PHeap) (aL : Value), PHeap.le bD da ∧ St w0 da (Res.box u 26 [ab, ac, p, t] :: Res.box x 38 [U 0, U 0, Vs none 0 0, Vs none 0 0, Vs none 0 0] :: Res.box y 38 [U d, U z, aL, Vs none 0 0, Vs none 0 0] :: Res.arr (QE (Qa .i64)) 22 l bq :: Res.arr (Qa .i64) 3 aL bQ :: H) w' ∧ f' 1 = ad ∧ f' 2 = Vp (some ⟨u, 0, none⟩) ∧ f' 4 = Vp (some ⟨x, 0, none⟩) ∧ f' 7 = U d ∧ f' 9 = Vp (some ⟨y, 0, none⟩) ∧ f' 10 = l ∧ f' 52 = t ∧ f' 53 = U ((aj.Ops.length : Int)) ∧ f' 54 = U (k' : Int)) s') d0 ?_ ?_ ?_)
  ·have dR := ch.nilArr (Qa .i64) 3
   have dS := dR.f1
   have dT := dS.f2
   have dU := dT.f3
   have dV := dU.f4
   exact ⟨bD, (Vs none 0 0), (Zv _), dV, Z, Z, Z, Z, Z, Z, Z, Z, Z⟩
  ·intro aJ kd bS kK lP hg d5 m hy
   obtain ⟨bQ, bq⟩ := kd
   replace m := Jf m
   obtain ⟨l0, aL, az, ci, c9, cA, bx, hG, bz, b0, cB, cC, bg⟩ := d5
   refine Zc (Zd (O Z Z (Zq Z bg cC (Zb (V (Zc (QK (Zx (decide_eq_true (by omega))) (Qp (V (Zc (Qm (Zc (Zd (O Z Z (Zm (v := U ((aJ : Int))) Z bg ?_)))))))))))))))
   obtain ⟨aq, j1, m⟩ := Zg m
   refine O Z Z (Qu S24 Z cB bg (ak.mono (Zt (Zt (Zt a b) g) az)) j1 ?_)
   intro kr lj dx
   refine O Z Z (Zw (E := encOp) ci A60 Z Z Z dx ?_)
   intro l8 j2
   obtain ⟨bH, bI, rfl, cX, cY⟩ := Y8.1 j2
   refine O Z Z (Exec.alloc (cs := [Value.string (⟨#[]⟩), U 0, Vs none 0 0, Vs none 0 0]) ci Z60 Z Z ?_)
   intro ks lQ dW
   refine O Z Z (Zo (v := U ((aJ : Int))) Z Z (O Z Z (Qf (ds := [Value.string (aq.Name), U (aq.Cost), bH, bI]) (es := [Value.string (aq.Name), U (aq.Cost), bH, bI]) dW A60 Z Z Z Z (Zj Z (Zj Z (Zj cX.one (Zj cY.one Q6)))) (Nat.le_of_ble_eq_true Z) Z ?_)))
   intro lR bl
   refine Zb (V (Zc (Zd (O Z Z (Zp QaQ Z bz Z (O Z Z (Zn (bl.f3) A22 Z Z Z (O Z Z (Zp QgW Z Z Z (O Z Z (Zn (bl) A3 Z Z Z (O Z Z (Exec.buildSlice (Te := 3) (cs := [U (aq.Cost)]) bl Z (Qb (c := [U (aq.Cost)]) (Qi Z Z) Qx) (fun _ => by kernel_rfl) ?_)))))))))))))
   intro kt lS dX
   obtain ⟨lf, j3, m⟩ := Zg m
   have dY := dX.f6
   refine O Z Z (QR (E := (Qa .i64)) (ys := [aq.Cost]) dY Jt Z3 Z (by decide) Z Z Z Z ⟨[U (aq.Cost)], [], Z, Z, Z⟩ Z j3 ?_)
   intro bJ lT dZ
   refine O Z Z (Zp QaQ Z bz Z ?_)
   have bm := dZ.f4
   refine O Z Z (Qf (ds := [bJ]) (es := [U d, U z, bJ, Vs none 0 0, Vs none 0 0]) bm A22 Z Z Z (QV (bm.f1).arr_one) (Zj (bm.f1).arr_one Q6) (Nat.le_of_ble_eq_true Z) Z ?_)
   intro lU cj
   refine Zb (V (Zc (Zd (O Z Z (Zm (v := l) Z b0 (O Z Z (Zm (v := U ((aJ : Int))) Z Z (O Z Z (Qn (ds := [Value.string (aq.Name), U (aq.Cost), bH, bI]) (cj.f2) A60 Z Z Z (O Z Z (Zm (v := ad) Z c9 ?_)))))))))))
   obtain ⟨m4, j4, m⟩ := Zg m
   refine O Z Z (Exec.call Z Z Tryz.func78 Z N78 (Zi Z (Zi Z Qk)) ((Qd3 j4 cj cX cY (a2.mono (Zt (Zt (Zt a b) g) az))).mono ?_))
   rintro _ lV ⟨l9, rfl, ⟨l1, _, aB, ck, rfl, jL⟩⟩
   refine ⟨_, Z, ?_⟩
   obtain ⟨m1, bB, m⟩ := Zg m
   obtain ⟨kZ, kz, bZ⟩ := (ck.f5).arr_at bB
   refine O Z Z (Qc S44 Z bZ Z (Qe bB).1 (Qe bB).2.1 ?_)
   obtain ⟨lg, j5, m⟩ := Zg m
   have ea := ck.f5
   refine O Z Z (QN ea bZ A22 Z Z Z Z (Jw.2 jL) j5 ?_)
   intro lW eb
   refine Zb (V (Zc (K3 (n0 := 10) (.q 0 (.q 1 (.q 2 (.q 3 (.q 4 (.e 5 [] (.q 6 (.q 7 (.q 8 (.q 9 .done)))))))))) K8 (by kernel_rfl) (by kernel_rfl) ?_)))
   have aS := eb.drew
   refine Qh Z Z (Qn (ds := [ab, ac, p, t]) (aS.f4) A26 Z cA Z ⟨Z, ?_⟩)
   refine Qh Z Z (Zm (v := l) Z b0 ⟨Z, ?_⟩)
   refine Qh Z Z (Zm (v := U ((aJ : Int))) Z Z ⟨Z, ?_⟩)
   obtain ⟨m2, bb, m⟩ := Zg m
   obtain ⟨la, k0, ca⟩ := aS.arr_at bb
   refine Qh Z Z (Qc S44 Z ca Z (Qe bb).1 (Qe bb).2.1 ⟨Z, ?_⟩)
   refine Qh Z Z (Qt (F := (QE (Qa .i64))) (aS) ca A22 Z Z Z bb (Sub.refl _) ?_)
   intro lA j6
   have jM := Jw.1 j6
   refine ⟨Z, ?_⟩
   obtain ⟨ke, j7, m⟩ := Zg m
   obtain ⟨bP, bj⟩ := ke
   replace m := Jf m
   refine JH Z Z (Exec.call Z Z Tryz.func76 Z N76 (Zi Z (Zi Z Qk)) ((Qa4 j7 aS (a0.mono (Zt (Zt (Zt (Zt a b) g) az) aB)) (a1.mono (Zt (Zt (Zt (Zt a b) g) az) aB)) (av.mono (Zt (Zt (Zt (Zt a b) g) az) aB)) (ak.mono (Zt (Zt (Zt (Zt a b) g) az) aB)) jM).mono ?_))
   rintro _ lX ⟨_, rfl, ⟨db, c2, cl, rfl⟩⟩
   refine ⟨_, Z, ?_⟩
   refine ⟨QY, ?_⟩
   refine Qh Z Z (Zm (v := Value.tuple #[U bP, Vb bj]) Z Z ⟨Z, ?_⟩)
   refine Qh Z Z (Exec.extract (v := U bP) Z Z Z ⟨Z, ?_⟩)
   refine Qh Z Z (Exec.extract (v := Vb bj) Z Z Z ⟨Z, ?_⟩)
   refine Qh Z Z (Zo (v := U bP) Z Z ⟨Z, ?_⟩)
   refine QC (O Z Z (Zo (v := Vb bj) Z Z (Zb (V (Zc (Zd (O Z Z (Zm (v := Vb bj) Z Z (O Z Z (Exec.not Z Z (Zb (V ?_))))))))))))
   rcases Qg m with ⟨aG, m⟩ | ⟨aG, m⟩
   ·refine Qv Z aG (Zc (Zd (O Z Z (Exec.build Z Qx (v := Value.agg #[U 0, U 0, Vs none 0 0, Vs none 0 0, Vs none 0 0]) (fun _ => by kernel_rfl) (O Z Z (Exec.makeInterface C50 Z Z ?_))))))
    have ec := cl.f5
    refine O Z Z (Qf (ds := [U 0, U 0, Vs none 0 0, Vs none 0 0, Vs none 0 0]) (es := [U 0, U 0, Vs none 0 0, Vs none 0 0, Vs none 0 0]) ec KH Z bx Z Z (Zj Z (Zj Z (Zj Z (Zj Z (Zj Z Q6))))) (Nat.le_of_ble_eq_true Z) Z ?_)
    intro lY cm
    refine O Z Z (Zo (v := QG 50 (some 5)) Z Z (Zb (V (Q1 (QD (Qj (Qj (QD (Qj (Qj ?_))))))))))
    have k5 := Zu m
    subst bS
    have hq := hu _ (hy (by intro _ h; cases h))
    have k6 := Zu hq
    subst r
    refine ⟨_, Qak Z ⟨_, _, bx, JY (cm) KH⟩ Z, ?_⟩
    have ed := cm.drop
    have ee := ed.drop
    have ef := ee.drop
    have eg := ef.drop
    have eh := eg.drop
    have ei := eh.drop
    exact ⟨db, (Vs none 0 0), (Vs none 0 0), (Vs none 0 0), (Zt (Zt (Zt (Zt (Zt a b) g) az) aB) c2), ei, (KX Z Z), (SliceRep.nil _ _), (SliceRep.nil _ _), (SliceRep.nil _ _)⟩
   refine Qw Z aG ?_
   replace aG := Zk aG
   refine Qp (Qz (V (Zd (O Z Z (Exec.add Z bg Z (O Z Z (Zm (v := U (IntKind.i64.wrap ((aJ : Int) + 1))) Z Z (Zb (V ?_)))))))))
   have k7 := Zu m
   subst bS
   have ej := (cl.f3).drop
   have ek := ej.f2
   have el := ek.f1
   have em := el.f2
   have en := em.f4
   have eo := en.f4
   refine ⟨_, Z, ?_⟩; exact ⟨db, bJ, (Zt (Zt az aB) c2), eo, c9, cA, bx, hG, bz, b0, cB, cC, (Eq.trans Z (QB hg (SliceRep.le (ak.mono (Zt (Zt a b) g)))))⟩
  intro kf kL lZ d6 hz
  obtain ⟨bQ, bq⟩ := kf
  obtain ⟨jT, aL, h7, ep, hH, hI, hJ, hK, hL, hM, hN, cD, kk⟩ := d6
  refine Zc (Zd (O Z Z (Zq Z kk cD (Zb (V (Zc (QA (Zx (decide_eq_false (by omega))) (QF (Ql (Ql (Q7 (V ?_))))))))))))
  have er := ep.f4
  have et := er.f4
  have eu := et.f4
  have ev := eu.f4
  have ew := ev.f4
  refine ⟨_, .inl hz, ?_⟩; exact ⟨jT, aL, h7, ew, hH, hI, hJ, hK, hL, hM, hN, cD⟩
 rintro kM ma ⟨kg, cx, dF⟩
 have hm := cx.elim (hl _) (hc _)
 clear cx
 obtain ⟨au, ap⟩ := kg
 replace hm := Jf hm
 obtain ⟨bE, j, aa, cn, hO, cE, hP, hQ, hR, hT, lm, ln⟩ := dF
 refine (V (Zc (Zd (O Z Z (Zp Yk Z cE Z (O Z Z (Zn (cn) A22 Z Z Z (O Z Z (Zr Jt Z Z (a0.mono (Zt (Zt (Zt a b) g) aa)) ?_)))))))))
 obtain ⟨lh, j8, hm⟩ := Zg hm
 refine O Z Z (JX (E := (Qa .i64)) cn Jt Z3 Z Z Z Z j8 ?_)
 intro ae mb ex
 refine O Z Z (Zo (v := ae) Z Z (Zb (V (Zc (Zc (Zd (O Z Z (Zm (v := U d) Z hQ (O Z Z (Zm (v := U 0) Z Z (Zb (V ?_))))))))))))
 obtain ⟨l7, j9, hm⟩ := Zg hm
 obtain ⟨bT, d1, hv, hn, hd⟩ := QO hm
 refine QJ (M := fun f' w' => ∃ s', (bT = .next s' ∨ bT = .brk s') ∧ (un3 fun (dv : (List Edge)) (dw : (List Bool)) (c3 : (List Int)) => ∃ (dc : PHeap) (a5 : Value) (a6 : Value), PHeap.le bE dc ∧ St w0 dc (Res.box u 26 [ab, ac, p, t] :: Res.box x 38 [U 0, U 0, Vs none 0 0, Vs none 0 0, Vs none 0 0] :: Res.box y 38 [U d, U z, j, a5, a6] :: Res.arr (QE (Qa .i64)) 22 l ap :: Res.arr (Qa .i64) 3 ae c3 :: Res.arr (Qa .i64) 3 j au :: Res.arr encEdge 85 a5 dv :: Res.arr encBool 4 a6 dw :: H) w' ∧ f' 1 = ad ∧ f' 2 = Vp (some ⟨u, 0, none⟩) ∧ f' 4 = Vp (some ⟨x, 0, none⟩) ∧ f' 9 = Vp (some ⟨y, 0, none⟩) ∧ f' 10 = l ∧ f' 15 = ae ∧ f' 90 = U d) s') ?_ ?_
 ·refine Qm (J4 (fun k' s' f' w' => (un3 fun (aP : (List Edge)) (aQ : (List Bool)) (br : (List Int)) => ∃ (dd : PHeap) (an : Value) (ay : Value), PHeap.le bE dd ∧ St w0 dd (Res.box u 26 [ab, ac, p, t] :: Res.box x 38 [U 0, U 0, Vs none 0 0, Vs none 0 0, Vs none 0 0] :: Res.box y 38 [U d, U z, j, an, ay] :: Res.arr (QE (Qa .i64)) 22 l ap :: Res.arr (Qa .i64) 3 ae br :: Res.arr (Qa .i64) 3 j au :: Res.arr encEdge 85 an aP :: Res.arr encBool 4 ay aQ :: H) w' ∧ f' 1 = ad ∧ f' 2 = Vp (some ⟨u, 0, none⟩) ∧ f' 4 = Vp (some ⟨x, 0, none⟩) ∧ f' 9 = Vp (some ⟨y, 0, none⟩) ∧ f' 10 = l ∧ f' 15 = ae ∧ f' 90 = U d ∧ f' 91 = U (k' : Int)) s') d1 ?_ ?_ ?_)
  ·have ey := ex.nilArr encEdge 85
   have ez := ey.nilArr encBool 4
   have e0 := ez.f1
   have e1 := e0.f7
   have e2 := e1.f3
   have e3 := e2.f7
   have e4 := e3.f7
   have e5 := e4.f7
   have e6 := e5.f7
   exact ⟨bE, (Vs none 0 0), (Vs none 0 0), (Zv _), e6, hO, cE, hP, hR, hT, Z, Z, Z⟩
  ·intro i kh bU kN mc hh d7 am h0
   obtain ⟨aP, aQ, br⟩ := kh
   replace am := Qbh am
   obtain ⟨l2, an, ay, ag, co, cF, b1, hU, hV, hW, cG, cH, bL⟩ := d7
   refine Zc (Zd (O Z Z (Zq Z bL cH (Zb (V (Zc (QK (Zx (decide_eq_true (by omega))) (Qp (V (Zc (Qm (Zc (Zd (O Z Z (Zm (v := U ((i : Int))) Z bL (O Z Z (Zo (v := U ((i : Int))) Z Z (Zb (V (Zc (Zd (O Z Z (Qn (ds := [ab, ac, p, t]) (co) A26 Z b1 Z (O Z Z (Zm (v := ad) Z cF (O Z Z (Zm (v := ae) Z cG (O Z Z (Zm (v := U ((i : Int))) Z Z ?_)))))))))))))))))))))))))))))
   obtain ⟨aC, jA, am⟩ := Zg am
   have e7 := co.f4
   refine O Z Z (Exec.call Z Z Tryz.func79 Z N79 (Zi Z (Zi Z (Zi Z (Zi Z Qk)))) ((Qh4 jA e7 (a0.mono (Zt (Zt (Zt (Zt a b) g) aa) ag)) (a1.mono (Zt (Zt (Zt (Zt a b) g) aa) ag)) (av.mono (Zt (Zt (Zt (Zt a b) g) aa) ag)) (ak.mono (Zt (Zt (Zt (Zt a b) g) aa) ag)) (a2.mono (Zt (Zt (Zt (Zt a b) g) aa) ag))).mono ?_))
   rintro _ md ⟨_, rfl, ⟨de, ai, cp, rfl⟩⟩
   refine ⟨_, Z, ?_⟩
   refine Zb (V (Zc (Zd (O Z Z (Zo (v := Vb true) Z Z (Zb (V (Zc (Zc (Zd (O Z Z (Zp QjI Z b1 Z (O Z Z (Zn (cp.f1) A23 Z Z Z (O Z Z (Zr S23 Z Z (av.mono (Zt (Zt (Zt (Zt (Zt a b) g) aa) ag) ai)) (O Z Z (Zm (v := U 0) Z Z (Zb (V ?_))))))))))))))))))))
   obtain ⟨ao, d2, am⟩ := Zg am
   refine Qm (J3 (fun k' s' f' w' => (fun (ao : Bool) => ∃ (df : PHeap) , PHeap.le de df ∧ St w0 df (Res.box u 26 [ab, ac, p, t] :: Res.box x 38 [U 0, U 0, Vs none 0 0, Vs none 0 0, Vs none 0 0] :: Res.box y 38 [U d, U z, j, an, ay] :: Res.arr (QE (Qa .i64)) 22 l ap :: Res.arr (Qa .i64) 3 ae aC :: Res.arr (Qa .i64) 3 j au :: Res.arr encEdge 85 an aP :: Res.arr encBool 4 ay aQ :: H) w' ∧ f' 1 = ad ∧ f' 2 = Vp (some ⟨u, 0, none⟩) ∧ f' 4 = Vp (some ⟨x, 0, none⟩) ∧ f' 9 = Vp (some ⟨y, 0, none⟩) ∧ f' 10 = l ∧ f' 15 = ae ∧ f' 16 = U ((i : Int)) ∧ f' 17 = Vb ao ∧ f' 90 = U d ∧ f' 91 = U ((i : Int)) ∧ f' 100 = p ∧ f' 101 = U ((aj.Goal.length : Int)) ∧ f' 102 = U (k' : Int)) s') d2 ?_ ?_ ?_)
   ·have e8 := cp.f7
    have e9 := e8.f7
    have eA := e9.f7
    have eB := eA.f3
    have eC := eB.f7
    have eD := eC.f7
    have eE := eD.f7
    have eF := eE.f7
    exact ⟨de, (Zv _), eF, cF, b1, hU, hV, hW, cG, Z, Z, cH, bL, Z, Z, Z⟩
   ·intro c1 ao jU kO me hi d8 aI
    obtain ⟨dg, bs, cq, aW, b2, b3, b4, b5, aX, b6, hX, b7, b8, aY, aZ, aN⟩ := d8
    refine Zc (Zd (O Z Z (Zq Z aN aZ (Zb (V (Zc (QK (Zx (decide_eq_true (by omega))) (Qp (V (Zc (Qm (Zc (Zd ?_)))))))))))))
    obtain ⟨a7, jB, aI⟩ := Zg aI
    refine O Z Z (Qu S23 Z aY aN (av.mono (Zt (Zt (Zt (Zt (Zt (Zt a b) g) aa) ag) ai) bs)) jB ?_)
    intro ku lk dy
    refine O Z Z (Zw (E := encFact) cq A90 Z Z Z dy ?_)
    intro lB jC
    obtain rfl := Ye.1 jC
    refine O Z Z (Exec.alloc (cs := [U 0, U 0]) cq Z90 Z Z ?_)
    intro kv mf eG
    refine O Z Z (Qf (ds := [U (a7.Var), U (a7.Val)]) (es := [U (a7.Var), U (a7.Val)]) eG A90 Z Z Z Z (Zj Z (Zj Z Q6)) (Nat.le_of_ble_eq_true Z) Z ?_)
    intro mg eH
    refine Zb (V ?_)
    obtain ⟨a8, ah, aI⟩ := Zg aI
    refine QJ (M := fun f' w' => (fun (a8 : Bool) => ∃ (dh : PHeap) , PHeap.le dg dh ∧ St w0 dh (Res.box u 26 [ab, ac, p, t] :: Res.box x 38 [U 0, U 0, Vs none 0 0, Vs none 0 0, Vs none 0 0] :: Res.box y 38 [U d, U z, j, an, ay] :: Res.arr (QE (Qa .i64)) 22 l ap :: Res.arr (Qa .i64) 3 ae aC :: Res.arr (Qa .i64) 3 j au :: Res.arr encEdge 85 an aP :: Res.arr encBool 4 ay aQ :: H) w' ∧ f' 1 = ad ∧ f' 2 = Vp (some ⟨u, 0, none⟩) ∧ f' 4 = Vp (some ⟨x, 0, none⟩) ∧ f' 9 = Vp (some ⟨y, 0, none⟩) ∧ f' 10 = l ∧ f' 15 = ae ∧ f' 16 = U ((i : Int)) ∧ f' 17 = Vb a8 ∧ f' 90 = U d ∧ f' 91 = U ((i : Int)) ∧ f' 100 = p ∧ f' 101 = U ((aj.Goal.length : Int)) ∧ f' 102 = U ((c1 : Int))) a8) ?_ ?_
    ·refine K3 (n0 := 18) (.q 0 (.q 1 (.q 2 (.q 3 (.q 4 (.e 5 [] (.q 6 (.q 7 (.q 8 (.q 9 (.q 10 (.q 11 (.q 12 (.q 13 (.q 14 (.q 15 (.q 16 (.q 17 .done)))))))))))))))))) K8 (by kernel_rfl) (by kernel_rfl) ?_
     have bn := eH.drew
     refine Qh Z Z (Zm (v := Vb ao) Z hX ⟨Z, ?_⟩)
     refine Qh Z Z (Zm (v := Vb ao) Z Z ⟨Z, ?_⟩)
     rcases Qg ah with ⟨n, ah⟩ | ⟨n, ah⟩
     ·refine Q9 Z Z (Zf Z (Zx n)) (Zm (v := ad) Z aW ⟨Z, ?_⟩)
      refine Q9 Z Z (Zf Z (Zx n)) (Zp Yj Z Z Z ⟨Z, ?_⟩)
      refine Q9 Z Z (Zf Z (Zx n)) (Zn (bn) A3 Z Z Z ⟨Z, ?_⟩)
      obtain ⟨kq, jD, ah⟩ := Zg ah
      refine Qnd Z Z (Zf Z (Zx n)) (Exec.call Z Z Tryz.func80 Z N80 (Zi Z (Zi Z Qk)) ((Jz jD bn (a2.mono (Zt (Zt (Zt (Zt (Zt (Zt a b) g) aa) ag) ai) bs))).mono ?_))
      rintro _ mh ⟨_, rfl, ⟨di, c4, a9, rfl⟩⟩
      refine ⟨_, Z, ?_⟩
      refine ⟨QY, ?_⟩
      refine Q9 Z Z (Zf Z (Zx n)) (Exec.not Z Z ⟨Z, ?_⟩)
      refine Q9 Z Z (Zf Z (Zx n)) (Zm (v := Vb (!kq)) Z Z ⟨Z, ?_⟩)
      rcases Qg ah with ⟨o, ah⟩ | ⟨o, ah⟩
      ·refine Qq Z Z (Zf Z (Zx o)) Z (Qq Z Z (Zf Z (Zx o)) Z (Qq Z Z (Zf Z (Zx o)) Z (Qq Z Z (Zf Z (Zx o)) Z (Qq Z Z (Zf Z (Zx o)) Z (Qq Z Z (Zf Z (Zx o)) Z (Qq Z Z (Zf Z (Zx o)) Z (Qq Z Z (Zf Z (Zx o)) Z (Q9 Z Z (Zf Z (Zx n)) (Zs (v := Vb true) Z (Zx o) Z ⟨Z, ?_⟩)))))))))
       refine Qh Z Z (Zs (v := Vb true) Z (Zx n) Z ⟨Z, ?_⟩)
       refine QC (O Z Z (Zo (v := Vb true) Z Z (Zb (V ?_))))
       have k8 := Zu ah
       subst a8
       have eI := a9.drop
       have eJ := eI.f7
       have eK := eJ.f7
       have eL := eK.f7
       have eM := eL.f7
       have eN := eM.f7
       have eO := eN.f7
       have eP := eO.f7
       have eQ := eP.f7
       exact ⟨di, c4, eQ, aW, b2, b3, b4, b5, aX, b6, Z, b7, b8, aY, aZ, aN⟩
      replace o := Zk o
      refine Q9 Z Z (Zf Z (Zx o)) (Zm (v := ae) Z aX ⟨Z, ?_⟩)
      refine Q9 Z Z (Zf Z (Zx o)) (Zp Yj Z Z Z ⟨Z, ?_⟩)
      refine Q9 Z Z (Zf Z (Zx o)) (Zn (a9) A3 Z Z Z ⟨Z, ?_⟩)
      obtain ⟨bM, bc, ah⟩ := Zg ah
      obtain ⟨lb, k1, cb⟩ := (a9.f5).arr_at bc
      refine Q9 Z Z (Zf Z (Zx o)) (Qc Jt Z cb Z (Qe bc).1 (Qe bc).2.1 ⟨Z, ?_⟩)
      refine Q9 Z Z (Zf Z (Zx o)) (Qt (F := (Qa .i64)) (a9.f5) cb A3 Z Z Z bc (Sub.refl _) ?_)
      intro lC jE
      obtain rfl := Qs.1 jE
      refine ⟨Z, ?_⟩
      refine Q9 Z Z (Zf Z (Zx o)) (Zp QdX Z Z Z ⟨Z, ?_⟩)
      refine Q9 Z Z (Zf Z (Zx o)) (Zn (a9) A3 Z Z Z ⟨Z, ?_⟩)
      refine Q9 Z Z (Zf Z (Zx o)) (Exec.eql Z Z Z ⟨Z, ?_⟩)
      refine Q9 Z Z (Zf Z (Zx n)) (Q5 (v := Vb (decide (bM = a7.Val))) Z (Zx o) Z ⟨Z, ?_⟩)
      refine Qh Z Z (Zs (v := Vb (decide (bM = a7.Val))) Z (Zx n) Z ⟨Z, ?_⟩)
      refine QC (O Z Z (Zo (v := Vb (decide (bM = a7.Val))) Z Z (Zb (V ?_))))
      have k9 := Zu ah
      subst a8
      have eR := a9.drop
      have eS := eR.f7
      have eT := eS.f7
      have eU := eT.f7
      have eV := eU.f7
      have eW := eV.f7
      have eX := eW.f7
      have eY := eX.f7
      have eZ := eY.f7
      exact ⟨di, c4, eZ, aW, b2, b3, b4, b5, aX, b6, Z, b7, b8, aY, aZ, aN⟩
     replace n := Zk n
     refine Qq Z Z (Zf Z (Zx n)) Z (Qq Z Z (Zf Z (Zx n)) Z (Qq Z Z (Zf Z (Zx n)) Z (Qnc Z Z (Zf Z (Zx n)) Z (Qq Z Z (Zf Z (Zx n)) Z (Qq Z Z (Zf Z (Zx n)) Z (QZ Z Z (Zh Z Z) (QZ Z Z (Zh Z Z) (QZ Z Z (Zh Z Z) (QZ Z Z (Zh Z Z) (QZ Z Z (Zh Z Z) (QZ Z Z (Zh Z Z) (QZ Z Z (Zh Z Z) (QZ Z Z (Zh Z Z) (Qq Z Z (Zf Z (Zx n)) Z (Qh Z Z (Q5 (v := Vb false) Z (Zx n) Z ⟨Z, ?_⟩))))))))))))))))
     refine QC (O Z Z (Zo (v := Vb false) Z Z (Zb (V ?_))))
     have kA := Zu ah
     subst a8
     have fa := bn.drop
     have fb := fa.f7
     have fc := fb.f7
     have fd := fc.f7
     have fe := fd.f7
     have ff := fe.f7
     have fg := ff.f7
     have fh := fg.f7
     have fi := fh.f7
     exact ⟨dg, (Zv _), fi, aW, b2, b3, b4, b5, aX, b6, Z, b7, b8, aY, aZ, aN⟩
    intro kP mi dG
    obtain ⟨jV, h8, fj, hY, hZ, ia, ib, ic, ie, ig, ih, ii, ij, ik, il, im⟩ := dG
    refine (Qz (V (Zd (O Z Z (Exec.add Z im Z (O Z Z (Zm (v := U (IntKind.i64.wrap ((c1 : Int) + 1))) Z Z (Zb (V ?_)))))))))
    have kB := Zu aI
    subst jU
    have fk := fj.f7
    have fl := fk.f7
    have fm := fl.f7
    have fn := fm.f7
    have fo := fn.f7
    have fp := fo.f7
    have fq := fp.f7
    have fr := fq.f7
    exact ⟨jV, (Zt bs h8), fr, hY, hZ, ia, ib, ic, ie, ig, ih, ii, ij, ik, il, (Eq.trans Z (QB hi (SliceRep.le (av.mono (Zt (Zt (Zt (Zt (Zt a b) g) aa) ag) ai)))))⟩
   intro kQ mj d9
   obtain ⟨bF, ax, cr, io, cI, ip, b9, iq, ir, it, iu, iv, iw, lo, ix, kl⟩ := d9
   refine Zc (Zd (O Z Z (Zq Z kl ix (Zb (V (Zc (QA (Zx (decide_eq_false (by omega))) (QF (Ql (Ql (Q7 (V (Zc (Zd (O Z Z (Zp Qbo Z b9 Z (O Z Z (Zn (cr.f2) A36 Z Z Z (O Z Z (Zm (v := Vb ao) Z iu (O Z Z (Exec.buildSlice (Te := 4) (cs := [Vb ao]) cr Z (Qb (c := [Vb ao]) (Qi Z Z) Qx) (fun _ => by kernel_rfl) ?_))))))))))))))))))))))
   intro kw mk fs
   obtain ⟨aV, jF, am⟩ := Zg am
   have ft := fs.f8
   refine O Z Z (QR (E := encBool) (ys := [ao]) ft S36 Z4 Z (by decide) Z Z Z Z ⟨[Vb ao], [], Z, Z, Z⟩ Z jF ?_)
   intro al ml fu
   refine O Z Z (Zp Qbo Z b9 Z ?_)
   have bo := fu.f3
   refine O Z Z (Qf (ds := [al]) (es := [U d, U z, j, an, al]) bo A36 Z Z Z (QV (bo.f1).arr_one) (Zj (bo.f1).arr_one Q6) (Nat.le_of_ble_eq_true Z) Z ?_)
   intro mm ct
   refine Zb (V (Zc (Zd (O Z Z (Zp Qaa Z cI Z (O Z Z (Zn (ct.f2) A24 Z Z Z (O Z Z (Zr S24 Z Z (ak.mono (Zt (Zt (Zt (Zt (Zt (Zt a b) g) aa) ag) ai) ax)) (O Z Z (Zm (v := U 0) Z Z (Zb (V ?_)))))))))))))
   obtain ⟨bV, d3, hw, ho, he⟩ := QO am
   refine QJ (M := fun f' w' => ∃ s', (bV = .next s' ∨ bV = .brk s') ∧ (fun (c5 : (List Edge)) => ∃ (dj : PHeap) (be : Value), PHeap.le bF dj ∧ St w0 dj (Res.box u 26 [ab, ac, p, t] :: Res.box x 38 [U 0, U 0, Vs none 0 0, Vs none 0 0, Vs none 0 0] :: Res.box y 38 [U d, U z, j, be, al] :: Res.arr (QE (Qa .i64)) 22 l ap :: Res.arr (Qa .i64) 3 ae aC :: Res.arr (Qa .i64) 3 j au :: Res.arr encEdge 85 be c5 :: Res.arr encBool 4 al aV :: H) w' ∧ f' 1 = ad ∧ f' 2 = Vp (some ⟨u, 0, none⟩) ∧ f' 4 = Vp (some ⟨x, 0, none⟩) ∧ f' 9 = Vp (some ⟨y, 0, none⟩) ∧ f' 10 = l ∧ f' 15 = ae ∧ f' 16 = U ((i : Int)) ∧ f' 90 = U d ∧ f' 91 = U ((i : Int)) ∧ f' 133 = U ((aj.Ops.length : Int))) s') ?_ ?_
   ·refine Qm (J4 (fun k' s' f' w' => (fun (bt : (List Edge)) => ∃ (dk : PHeap) (aD : Value), PHeap.le bF dk ∧ St w0 dk (Res.box u 26 [ab, ac, p, t] :: Res.box x 38 [U 0, U 0, Vs none 0 0, Vs none 0 0, Vs none 0 0] :: Res.box y 38 [U d, U z, j, aD, al] :: Res.arr (QE (Qa .i64)) 22 l ap :: Res.arr (Qa .i64) 3 ae aC :: Res.arr (Qa .i64) 3 j au :: Res.arr encEdge 85 aD bt :: Res.arr encBool 4 al aV :: H) w' ∧ f' 1 = ad ∧ f' 2 = Vp (some ⟨u, 0, none⟩) ∧ f' 4 = Vp (some ⟨x, 0, none⟩) ∧ f' 9 = Vp (some ⟨y, 0, none⟩) ∧ f' 10 = l ∧ f' 15 = ae ∧ f' 16 = U ((i : Int)) ∧ f' 90 = U d ∧ f' 91 = U ((i : Int)) ∧ f' 133 = U ((aj.Ops.length : Int)) ∧ f' 134 = U (k' : Int)) s') d3 ?_ ?_ ?_)
    ·have fv := ct.f1
     have fw := fv.f7
     have fx := fw.f7
     have fy := fx.f7
     have fz := fy.f7
     have f0 := fz.f5
     have f9 := f0.f7
     have fA := f9.f7
     exact ⟨bF, an, (Zv _), fA, io, cI, ip, b9, iq, ir, it, iv, iw, Z, Z⟩
    ·intro af bt bW kR mn hj dA a3 h1
     obtain ⟨l3, aD, a4, fB, cJ, cK, iy, iz, cL, i0, cM, i1, i2, cN, bN⟩ := dA
     refine Zc (Zd (O Z Z (Zq Z bN cN (Zb (V (Zc (QK (Zx (decide_eq_true (by omega))) (Qp (V (Zc (Qm (Zc (Zd (O Z Z (Zm (v := U ((af : Int))) Z bN (O Z Z (Zo (v := U ((af : Int))) Z Z (Zb (V (Zc (K3 (n0 := 11) (.q 0 (.q 1 (.q 2 (.q 3 (.q 4 (.q 5 (.q 6 (.q 7 (.q 10 (.e 8 [10] (.q 9 .done))))))))))) K8 (by kernel_rfl) (by kernel_rfl) ?_)))))))))))))))))))))
     have aT := fB.drew
     refine Qh Z Z (Qn (ds := [ab, ac, p, t]) (aT) A26 Z cK Z ⟨Z, ?_⟩)
     refine Qh Z Z (Zm (v := U ((af : Int))) Z Z ⟨Z, ?_⟩)
     refine Qh Z Z (Zm (v := ad) Z cJ ⟨Z, ?_⟩)
     refine Qh Z Z (Zm (v := l) Z cL ⟨Z, ?_⟩)
     refine Qh Z Z (Zm (v := U ((af : Int))) Z Z ⟨Z, ?_⟩)
     obtain ⟨m3, bd, a3⟩ := Zg a3
     obtain ⟨lc, k2, cc⟩ := (aT.f3).arr_at bd
     refine Qh Z Z (Qc S44 Z cc Z (Qe bd).1 (Qe bd).2.1 ⟨Z, ?_⟩)
     refine Qh Z Z (Qt (F := (QE (Qa .i64))) (aT.f3) cc A22 Z Z Z bd (Sub.refl _) ?_)
     intro lD jG
     have jN := Jw.1 jG
     refine ⟨Z, ?_⟩
     refine Qh Z Z (Zm (v := U ((i : Int))) Z cM ⟨Z, ?_⟩)
     refine Qh Z Z (Zm (v := U 0) Z Z ⟨Z, ?_⟩)
     obtain ⟨du, jH, a3⟩ := Zg a3
     refine JH Z Z (Exec.call Z Z Tryz.func81 Z N81 (Zi Z (Zi Z (Zi Z (Zi Z (Zi Z Qk))))) ((Qd2 jH aT (a0.mono (Zt (Zt (Zt (Zt (Zt (Zt (Zt a b) g) aa) ag) ai) ax) a4)) (a1.mono (Zt (Zt (Zt (Zt (Zt (Zt (Zt a b) g) aa) ag) ai) ax) a4)) (av.mono (Zt (Zt (Zt (Zt (Zt (Zt (Zt a b) g) aa) ag) ai) ax) a4)) (ak.mono (Zt (Zt (Zt (Zt (Zt (Zt (Zt a b) g) aa) ag) ai) ax) a4)) (a2.mono (Zt (Zt (Zt (Zt (Zt (Zt (Zt a b) g) aa) ag) ai) ax) a4)) jN).mono ?_))
     rintro _ mo ⟨dt, rfl, ⟨bG, _, c6, fC, rfl, bC⟩⟩
     refine ⟨_, Z, ?_⟩
     refine ⟨(Qd (Q4 Z Z (Zm (v := U 0) Z Z ⟨Z, Z⟩)) QY), ?_⟩
     refine Qh Z Z (Zr Jt Z Z bC ⟨Z, ?_⟩)
     refine QC (Zb (V ?_))
     obtain ⟨bX, d4, hx, hp, hf⟩ := QO a3
     refine QJ (M := fun f' w' => ∃ s', (bX = .next s' ∨ bX = .brk s') ∧ (fun (c7 : (List Edge)) => ∃ (dl : PHeap) (bf : Value), PHeap.le bG dl ∧ St w0 dl (Res.box u 26 [ab, ac, p, t] :: Res.box x 38 [U 0, U 0, Vs none 0 0, Vs none 0 0, Vs none 0 0] :: Res.box y 38 [U d, U z, j, bf, al] :: Res.arr (QE (Qa .i64)) 22 l ap :: Res.arr (Qa .i64) 3 ae aC :: Res.arr (Qa .i64) 3 j au :: Res.arr encEdge 85 bf c7 :: Res.arr encBool 4 al aV :: H) w' ∧ f' 1 = ad ∧ f' 2 = Vp (some ⟨u, 0, none⟩) ∧ f' 4 = Vp (some ⟨x, 0, none⟩) ∧ f' 9 = Vp (some ⟨y, 0, none⟩) ∧ f' 10 = l ∧ f' 15 = ae ∧ f' 16 = U ((i : Int)) ∧ f' 20 = U ((af : Int)) ∧ f' 90 = U d ∧ f' 91 = U ((i : Int)) ∧ f' 133 = U ((aj.Ops.length : Int)) ∧ f' 134 = U ((af : Int)) ∧ f' 145 = dt ∧ f' 146 = U ((du.length : Int))) s') ?_ ?_
     ·refine Qm (J4 (fun k' s' f' w' => (fun (bu : (List Edge)) => ∃ (dm : PHeap) (aM : Value), PHeap.le bG dm ∧ St w0 dm (Res.box u 26 [ab, ac, p, t] :: Res.box x 38 [U 0, U 0, Vs none 0 0, Vs none 0 0, Vs none 0 0] :: Res.box y 38 [U d, U z, j, aM, al] :: Res.arr (QE (Qa .i64)) 22 l ap :: Res.arr (Qa .i64) 3 ae aC :: Res.arr (Qa .i64) 3 j au :: Res.arr encEdge 85 aM bu :: Res.arr encBool 4 al aV :: H) w' ∧ f' 1 = ad ∧ f' 2 = Vp (some ⟨u, 0, none⟩) ∧ f' 4 = Vp (some ⟨x, 0, none⟩) ∧ f' 9 = Vp (some ⟨y, 0, none⟩) ∧ f' 10 = l ∧ f' 15 = ae ∧ f' 16 = U ((i : Int)) ∧ f' 20 = U ((af : Int)) ∧ f' 90 = U d ∧ f' 91 = U ((i : Int)) ∧ f' 133 = U ((aj.Ops.length : Int)) ∧ f' 134 = U ((af : Int)) ∧ f' 145 = dt ∧ f' 146 = U ((du.length : Int)) ∧ f' 147 = U (k' : Int)) s') d4 ?_ ?_ ?_)
      ·have fD := fC.f7
       have fE := fD.f7
       have fF := fE.f7
       have fG := fF.f7
       have fH := fG.f7
       have fI := fH.f7
       have fJ := fI.f7
       have fK := fJ.f7
       exact ⟨bG, aD, (Zv _), fK, cJ, cK, iy, iz, cL, i0, cM, Z, i1, i2, cN, bN, Z, Z, Z⟩
      ·intro h6 bu bY kS mp hk dB aw h2
       obtain ⟨dn, aM, bv, aA, i3, i4, bA, ba, i5, i6, cO, cP, i7, i8, i9, iA, cQ, cR, bO⟩ := dB
       refine Zc (Zd (O Z Z (Zq Z bO cR (Zb (V (Zc (QK (Zx (decide_eq_true (by omega))) (Qp (V (Zc (Qm (Zc (Zd ?_)))))))))))))
       obtain ⟨ar, jI, aw⟩ := Zg aw
       refine O Z Z (Qu Jt Z cQ bO (bC.mono bv) jI ?_)
       intro kx ll dz
       refine O Z Z (Zw (E := (Qa .i64)) aA A3 Z Z Z dz ?_)
       intro lE jJ
       obtain rfl := Qs.1 jJ
       refine O Z Z (Zo (v := U ar) Z Z (Zb (V (Zc (Zc (Zd (O Z Z (Zp QaF Z ba Z (O Z Z (Zn (aA.f2) A35 Z Z Z (O Z Z (QQ (aA.f6) S35 Z Z (O Z Z (Exec.eql Z Z Z (Zb (V ?_))))))))))))))))
       rcases Qg aw with ⟨aH, aw⟩ | ⟨aH, aw⟩
       ·refine Qv Z aH (Zc (Zd (O Z Z (Exec.build Z Qx (v := Value.agg #[U 0, U 0, Vs none 0 0, Vs none 0 0, Vs none 0 0]) (fun _ => by kernel_rfl) (O Z Z (Exec.makeInterface C50 Z Z ?_))))))
        have fL := aA.f1
        refine O Z Z (Qf (ds := [U 0, U 0, Vs none 0 0, Vs none 0 0, Vs none 0 0]) (es := [U 0, U 0, Vs none 0 0, Vs none 0 0, Vs none 0 0]) fL KH Z bA Z Z (Zj Z (Zj Z (Zj Z (Zj Z (Zj Z Q6))))) (Nat.le_of_ble_eq_true Z) Z ?_)
        intro mq cu
        refine O Z Z (Zo (v := QG 50 (some 5)) Z Z (Zb (V (Q1 (Qj (QD (Qj (Qj (QD (Qj (QD (Qj (Qj (QD (Qj (QD (Qj (Qj (QD (Qj (Qj ?_)))))))))))))))))))))
        have kC := Zu aw
        subst bY
        have hr := hx _ (h2 (by intro _ h; cases h))
        have kD := Zu hr
        subst bW
        have hs := hw _ (h1 (by intro _ h; cases h))
        have kE := Zu hs
        subst bU
        have ht := hv _ (h0 (by intro _ h; cases h))
        have kF := Zu ht
        subst r
        refine ⟨_, Qak Z ⟨_, _, bA, JY (cu) KH⟩ Z, ?_⟩
        have fM := cu.drop
        have fN := fM.drop
        have fO := fN.drop
        have fP := fO.drop
        have fQ := fP.drop
        have fR := fQ.drop
        have fS := fR.drop
        have fT := fS.drop
        exact ⟨dn, (Vs none 0 0), (Vs none 0 0), (Vs none 0 0), (Zt (Zt (Zt (Zt (Zt (Zt (Zt (Zt (Zt a b) g) aa) ag) ai) ax) a4) c6) bv), fT, (KX Z Z), (SliceRep.nil _ _), (SliceRep.nil _ _), (SliceRep.nil _ _)⟩
       refine Qw Z aH ?_
       replace aH := Zk aH
       refine Qp (V (Zd (O Z Z (Zp QaF Z ba Z (O Z Z (Zn (aA.f2) A35 Z Z Z (O Z Z (Zm (v := U ((i : Int))) Z cO (O Z Z (Zm (v := U ((af : Int))) Z cP (O Z Z (Zm (v := U ar) Z Z (O Z Z (Exec.build Z (Qb (c := [U ((i : Int))]) (Qi Z Z) (Qb (c := [U ((af : Int))]) (Qi Z Z) (Qb (c := [U ar]) (Qi Z Z) Qx))) (v := Value.agg #[U ((i : Int)), U ((af : Int)), U ar]) (fun _ => by kernel_rfl) (O Z Z (Exec.buildSlice (Te := 85) (cs := [U ((i : Int)), U ((af : Int)), U ar]) aA Z (Qb (c := [U ((i : Int)), U ((af : Int)), U ar]) (Qi Z Z) Qx) (fun _ => by kernel_rfl) ?_))))))))))))))))
       intro ky mr fU
       obtain ⟨li, jK, aw⟩ := Zg aw
       have fV := fU.f7
       refine O Z Z (QR (E := encEdge) (ys := [(⟨(i : Int), (af : Int), ar⟩ : Edge)]) fV S35 Z85 Z (by decide) Z Z Z Z ⟨[U ((i : Int)), U ((af : Int)), U ar], [], Z, ⟨[U ((i : Int))], [U ((af : Int)), U ar], Z, Z, ⟨[U ((af : Int))], [U ar], Z, Z, Z⟩⟩, Z⟩ Z jK ?_)
       intro bK ms fW
       refine O Z Z (Zp QaF Z ba Z ?_)
       have bp := fW.f3
       refine O Z Z (Qf (ds := [bK]) (es := [U d, U z, j, bK, al]) bp A35 Z Z Z (QV (bp.f1).arr_one) (Zj (bp.f1).arr_one Q6) (Nat.le_of_ble_eq_true Z) Z ?_)
       intro mt fX
       refine Zb (Qz (V (Zd (O Z Z (Exec.add Z bO Z (O Z Z (Zm (v := U (IntKind.i64.wrap ((h6 : Int) + 1))) Z Z (Zb (V ?_)))))))))
       have kG := Zu aw
       subst bY
       have fY := fX.f7
       have fZ := fY.f2
       have ga := fZ.f7
       have gb := ga.f7
       have gc := gb.f7
       have gd := gc.f5
       have gf := gd.f7
       have gg := gf.f7
       refine ⟨_, Z, ?_⟩; exact ⟨dn, bK, bv, gg, i3, i4, bA, ba, i5, i6, cO, cP, i7, i8, i9, iA, cQ, cR, (Eq.trans Z (QB hk (SliceRep.le bC)))⟩
      intro bu kT mu dC h3
      obtain ⟨jW, aM, h9, gh, iB, iC, iD, iE, iF, iG, iH, iI, iJ, iK, iL, iM, iN, cS, km⟩ := dC
      refine Zc (Zd (O Z Z (Zq Z km cS (Zb (V (Zc (QA (Zx (decide_eq_false (by omega))) (QF (Ql (Ql (Q7 (V ?_))))))))))))
      have gi := gh.f7
      have gj := gi.f7
      have gk := gj.f7
      have gl := gk.f7
      have gm := gl.f7
      have gn := gm.f7
      have go := gn.f7
      have gp := go.f7
      refine ⟨_, .inl h3, ?_⟩; exact ⟨jW, aM, h9, gp, iB, iC, iD, iE, iF, iG, iH, iI, iJ, iK, iL, iM, iN, cS⟩
     rintro kU mv ⟨c7, cy, dH⟩
     have a3 := cy.elim (hp _) (hf _)
     clear cy
     obtain ⟨jX, bf, hA, gq, iO, iP, iQ, iR, iS, iT, iU, lp, iV, iW, iX, iY, lq, lr⟩ := dH
     refine (Qz (V (Zd (O Z Z (Exec.add Z iY Z (O Z Z (Zm (v := U (IntKind.i64.wrap ((af : Int) + 1))) Z Z (Zb (V ?_)))))))))
     have kH := Zu a3
     subst bW
     have gr := gq.f7
     have gs := gr.f7
     have gu := gs.f7
     have gv := gu.f7
     have gw := gv.f7
     have gx := gw.f7
     have gy := gx.f7
     have gz := gy.f7
     refine ⟨_, Z, ?_⟩; exact ⟨jX, bf, (Zt (Zt a4 c6) hA), gz, iO, iP, iQ, iR, iS, iT, iU, iV, iW, iX, (Eq.trans Z (QB hj (SliceRep.le (ak.mono (Zt (Zt (Zt (Zt (Zt (Zt a b) g) aa) ag) ai) ax)))))⟩
    intro bt kV mw dD h4
    obtain ⟨jY, aD, hB, g0, iZ, ja, jb, jc, jd, je, jf, jg, jh, cT, kn⟩ := dD
    refine Zc (Zd (O Z Z (Zq Z kn cT (Zb (V (Zc (QA (Zx (decide_eq_false (by omega))) (QF (Ql (Ql (Q7 (V ?_))))))))))))
    have g1 := g0.f7
    have g2 := g1.f7
    have g3 := g2.f7
    have g4 := g3.f7
    have g5 := g4.f7
    have g6 := g5.f7
    have g7 := g6.f7
    have g8 := g7.f7
    refine ⟨_, .inl h4, ?_⟩; exact ⟨jY, aD, hB, g8, iZ, ja, jb, jc, jd, je, jf, jg, jh, cT⟩
   rintro kW mx ⟨c5, cz, dI⟩
   have am := cz.elim (ho _) (he _)
   clear cz
   obtain ⟨jZ, be, hC, g9, ji, jj, jk, jl, jm, jn, ls, jo, jp, lu⟩ := dI
   refine (Qz (V (Zd (O Z Z (Exec.add Z jp Z (O Z Z (Zm (v := U (IntKind.i64.wrap ((i : Int) + 1))) Z Z (Zb (V ?_)))))))))
   have kI := Zu am
   subst bU
   have gA := g9.f7
   have gB := gA.f7
   have gC := gB.f7
   have gD := gC.f7
   have gE := gD.f7
   have gF := gE.f7
   have gG := gF.f7
   have gH := gG.f7
   refine ⟨_, Z, ?_⟩; exact ⟨jZ, be, al, (Zt (Zt (Zt ag ai) ax) hC), gH, ji, jj, jk, jl, jm, jn, jo, (Eq.trans Z (QB hh (by have h := QT j9; simp at h; simp only [maxLen]; omega)))⟩
  intro ki kX my dE h5
  obtain ⟨aP, aQ, br⟩ := ki
  obtain ⟨ka, an, ay, hD, gI, jq, jr, js, jt, ju, jv, cU, ko⟩ := dE
  refine Zc (Zd (O Z Z (Zq Z ko cU (Zb (V (Zc (QA (Zx (decide_eq_false (by omega))) (QF (Ql (Ql (Q7 (V ?_))))))))))))
  have gJ := gI.f7
  have gK := gJ.f7
  have gL := gK.f7
  have gM := gL.f7
  have gN := gM.f7
  have gO := gN.f7
  have gP := gO.f7
  have gQ := gP.f7
  refine ⟨_, .inl h5, ?_⟩; exact ⟨ka, an, ay, hD, gQ, jq, jr, js, jt, ju, jv, cU⟩
 rintro kY mz ⟨kj, c0, dJ⟩
 have hm := c0.elim (hn _) (hd _)
 clear c0
 obtain ⟨dv, dw, c3⟩ := kj
 replace hm := Qbh hm
 obtain ⟨l4, a5, a6, hE, cv, lv, lw, cV, jw, lx, ly, lz⟩ := dJ
 refine (V (Zc (Zd (O Z Z (Qn (ds := [U d, U z, j, a5, a6]) (cv.f2) KH Z jw Z ?_)))))
 have aU := cv.f1
 refine O Z Z (Qf (ds := [U d, U z, j, a5, a6]) (es := [U d, U z, j, a5, a6]) aU KH Z cV Z Z (Zj Z (Zj Z (Zj (aU.f5).arr_one (Zj (aU.f6).arr_one (Zj (aU.f7).arr_one Q6))))) (Nat.le_of_ble_eq_true Z) Z ?_)
 intro m0 cw
 refine O Z Z (Zo (v := QG 50 (none)) Z Z (Zb (V (Q1 ?_))))
 have kJ := Zu hm
 subst r
 refine ⟨_, Qak Z ⟨_, _, cV, JY (cw) KH⟩ Z, ?_⟩
 have gR := cw.f5
 obtain ⟨l5, hF, gS, jO⟩ := gR.freezeArr
 have gT := gS.f5
 obtain ⟨l6, c8, gU, jP⟩ := gT.freezeArr
 have gV := gU.f5
 obtain ⟨kb, bw, gW, jQ⟩ := gV.freezeArr
 have gX := gW.drop
 have gY := gX.drop
 have gZ := gY.drop
 have ha := gZ.drop
 have hb := ha.drop
 exact ⟨kb, j, a5, a6, (Zt (Zt (Zt (Zt (Zt (Zt (Zt a b) g) aa) hE) hF) c8) bw), hb, (KX Z Z), (jO.mono (Zt c8 bw)), (jP.mono bw), jQ⟩
theorem N56 : (Tryz.f56.name == "runtime.NumGoroutine") = false := by kernel_rfl
theorem Qdh {w0 w : World} {s : PHeap} {H : List Res} {d : Int} {r : Int} (hm : KD d = some r) (hS : St w0 s (H) w) :
  Calls Tryz.prog 56 #[U d] w fun e w' => ∃ v, e = .returned v ∧ ((fun (ah : Int) => ∃ (p : PHeap) , PHeap.le s p ∧ St w0 p (H) w' ∧ v = U ah) r) := by
 unfold KD at hm
 refine Qy Tryz.func56 Z Z (Zc (Zd (O Z Z (Zo (v := U 0) Z Z (Zb (V (Zc (Zd (O Z Z (Zo (v := U 0) Z Z (Zb (V (Zc ?_)))))))))))))
 obtain ⟨k, x, an, ac, ab⟩ := QO hm
 refine QJ (M := fun f' w' => ∃ s', (k = .next s' ∨ k = .brk s') ∧ (fun (i : Int) => ∃ (q : PHeap) , PHeap.le s q ∧ St w0 q (H) w' ∧ f' 0 = U d ∧ f' 3 = U i) s') ?_ ?_
 ·refine Qm (Yy (fun s' f' w' => (fun (a : Int) => ∃ (t : PHeap) , PHeap.le s t ∧ St w0 t (H) w' ∧ f' 0 = U d ∧ f' 3 = U a) s') x ?_ ?_)
  ·exact ⟨s, (Zv _), hS, Z, Z⟩
  intro a l al ap y c ad
  obtain ⟨u, o, m, j, g⟩ := y
  refine Zc (Zc (Zd (O Z Z (Zm (v := U a) Z g (O Z Z (Exec.add Z Z Z (O Z Z (Zm (v := U a) Z g (O Z Z (Exec.add Z Z Z (O Z Z (Exec.mul Z Z Z (O Z Z (Zm (v := U d) Z j (O Z Z (Exec.leq Z Z Z (Zb (V ?_))))))))))))))))))
  rcases Qg c with ⟨b, c⟩ | ⟨b, c⟩
  ·refine Qv Z b (Qp (V (Qm (Zd (O Z Z (Zm (v := U a) Z g (O Z Z (Exec.add Z Z Z (O Z Z (Zo (v := U (IntKind.i64.wrap (a + 1))) Z Z (Zb (Qz (V ?_)))))))))))))
   have ai := Zu c
   subst l
   refine ⟨_, Z, ?_⟩; exact ⟨u, o, m, j, Z⟩
  refine Qw Z b ?_
  replace b := Zk b
  refine QF (Ql (Ql (Q7 (V ?_))))
  have aj := Zu c
  subst l
  refine ⟨_, .inr (ad (by intro _ h; cases h)), ?_⟩; exact ⟨u, o, m, j, g⟩
 rintro am aq ⟨i, n, z⟩
 have hm := n.elim (ac _) (ab _)
 clear n
 obtain ⟨ag, ae, aa, ao, af⟩ := z
 refine (V (Zc (Zd (O Z Z (Zm (v := U i) Z af (O Z Z (Zo (v := U i) Z Z (Zb (V (Q1 ?_))))))))))
 have ak := Zu hm
 subst r
 refine ⟨_, QX Z, ?_⟩
 exact ⟨ag, ae, aa, Z⟩
theorem N57 : (Tryz.f57.name == "runtime.NumGoroutine") = false := by kernel_rfl
theorem QdO {w0 w : World} {s : PHeap} {H : List Res} {g : Task} {a : Int} {i : Value} {j : Value} {k : Value} {l : Value} {r : (Option Int) × System} (hm : KZ g a = some r) (hS : St w0 s (H) w) (ac : SliceRep (Qa .i64) s i g.Vars) (ad : SliceRep (Qa .i64) s j g.Init) (ae : SliceRep encFact s k g.Goal) (af : SliceRep encOp s l g.Ops) :
  Calls Tryz.prog 57 #[Value.agg #[i, j, k, l], U a] w fun e w' => ∃ v, e = .returned v ∧ ((J2 fun (au : (Option Int)) (h : System) => ∃ (f : PHeap) (y : Value) (z : Value) (aa : Value), PHeap.le s f ∧ St w0 f (H) w' ∧ v = Value.tuple #[Value.agg #[U (h.States), U (h.Init), y, z, aa], QG 50 (au)] ∧ SliceRep (Qa .i64) f y h.Costs ∧ SliceRep encEdge f z h.Edges ∧ SliceRep encBool f aa h.Goals) r) := by
 unfold KZ at hm
 refine Qy Tryz.func57 Z Z (Zc (Zd (O Z Z (Exec.box (cs := [i, j, k, l]) hS Z Z Z ?_))))
 intro av a0 ag
 refine O Z Z (Exec.alloc (cs := [U 0, U 0, Vs none 0 0, Vs none 0 0, Vs none 0 0]) ag Z38 Z Z ?_)
 intro aw a1 p
 refine O Z Z (Zo (v := QG 50 (none)) Z Z (Zb (V (Zc (Zd (O Z Z (Qn (ds := [i, j, k, l]) (p.f1) A26 Z Z Z (O Z Z (Zm (v := U a) Z Z (O Z Z (Exec.buildSlice (Te := 3) (cs := [U a]) p Z (Qb (c := [U a]) (Qi Z Z) Qx) (fun _ => by kernel_rfl) ?_)))))))))))
 intro ax a2 ah
 have ai := St.boxArr (E := (Qa .i64)) (xs := [a]) ah ⟨[U a], [], rfl, rfl, rfl⟩ (by simp [maxLen])
 obtain ⟨az, d, aj, ap⟩ := ai.freezeArr
 obtain ⟨ar, ao, hm⟩ := Zg hm
 obtain ⟨ab, b⟩ := ar
 replace hm := Jf hm
 refine O Z Z (Exec.call Z Z Tryz.func55 Z N55 (Zi Z (Zi Z Qk)) ((Qbs ao aj (ac.mono d) (ad.mono d) (ae.mono d) (af.mono d) ap).mono ?_))
 rintro _ a3 ⟨_, rfl, ⟨aq, m, n, o, an, ak, rfl, t, u, x⟩⟩
 refine ⟨_, Z, ?_⟩
 refine O Z Z (Exec.extract (v := Value.agg #[U (b.States), U (b.Init), m, n, o]) Z Z Z (O Z Z (Exec.extract (v := QG 50 (ab)) Z Z Z (O Z Z (Qf (ds := [U (b.States), U (b.Init), m, n, o]) (es := [U (b.States), U (b.Init), m, n, o]) ak KH Z Z Z Z (Zj Z (Zj Z (Zj t.one (Zj u.one (Zj x.one Q6))))) (Nat.le_of_ble_eq_true Z) Z ?_)))))
 intro a4 q
 refine O Z Z (Zo (v := QG 50 (ab)) Z Z (Zb (V (Q1 ?_))))
 have ay := Zu hm
 subst r
 refine ⟨_, Qak Z ⟨_, _, Z, JY (q) KH⟩ Z, ?_⟩
 have al := q.drop
 have am := al.drop
 exact ⟨aq, m, n, o, (Zt d an), am, (KX Z Z), t, u, x⟩
theorem Z87 : JA Tryz.prog 87 = some (Value.agg #[U 0, Value.slice none 0 0, Value.slice none 0 0, U 0]) := by kernel_rfl
theorem A87 : JI Tryz.prog 87 = some (true, 4) := by kernel_rfl
theorem JL : Jk Tryz.prog 38 0 = some 0 := by kernel_rfl
theorem KW : Jk Tryz.prog 38 1 = some 1 := by kernel_rfl
theorem A85 : JI Tryz.prog 85 = some (true, 3) := by kernel_rfl
theorem Qbn : Jk Tryz.prog 85 0 = some 0 := by kernel_rfl
theorem YZ : Jk Tryz.prog 85 2 = some 2 := by kernel_rfl
theorem Qan : Jk Tryz.prog 85 1 = some 1 := by kernel_rfl
theorem QnE : (Tryz.f126.name == "runtime.NumGoroutine") = false := by kernel_rfl
theorem QbJ {w0 w : World} {s : PHeap} {H : List Res} {a : Int} {r : Bool} (hm : Yd a = some r) (hS : St w0 s (H) w) :
  Calls Tryz.prog 126 #[U a] w fun e w' => ∃ v, e = .returned v ∧ ((fun (c : Bool) => ∃ (b : PHeap) , PHeap.le s b ∧ St w0 b (H) w' ∧ v = Value.bool (c)) r) := by
 unfold Yd at hm
 refine Qy Tryz.func126 Z Z (Zc (Zd (O Z Z (Zo (v := Vb false) Z Z (Zb (V (Zc (Zd (O Z Z (Zm (v := U a) Z Z (O Z Z (Zm (v := U a) Z Z (O Z Z (Exec.neq Z Z Z (O Z Z (Zo (v := Vb (!decide (a = a))) Z Z (Zb (V (Q1 ?_)))))))))))))))))))
 have d := Zu hm
 subst r
 refine ⟨_, QX Z, ?_⟩
 exact ⟨s, (Zv _), hS, Z⟩
theorem Qib : (Tryz.f119.name == "runtime.NumGoroutine") = false := by kernel_rfl
theorem J6 {w0 w : World} {s : PHeap} {H : List Res} {b : Int} {a : Int} {r : Int} (hm : Kp b a = some r) (hS : St w0 s (H) w) :
  Calls Tryz.prog 119 #[U b, U a] w fun e w' => ∃ v, e = .returned v ∧ ((fun (o : Int) => ∃ (m : PHeap) , PHeap.le s m ∧ St w0 m (H) w' ∧ v = U o) r) := by
 unfold Kp at hm
 refine Qy Tryz.func119 Z Z (Zc (Zd (O Z Z (Zo (v := U 0) Z Z (Zb (V (Zc (Zd (O Z Z (Zm (v := U b) Z Z (O Z Z (Exec.call Z Z Tryz.func126 Z QnE (Zi Z Qk) ((QbJ (Yi b) hS).mono ?_)))))))))))))
 rintro _ aa ⟨_, rfl, ⟨z, d, n, rfl⟩⟩
 refine ⟨_, Z, ?_⟩
 refine O Z Z (Zo (v := Vb ((Jh b))) Z Z (Zb (V (Zc (Zd (O Z Z (Zm (v := U a) Z Z (O Z Z (Exec.call Z Z Tryz.func126 Z QnE (Zi Z Qk) ((QbJ (Yi a) n).mono ?_))))))))))
 rintro _ ab ⟨_, rfl, ⟨g, f, c, rfl⟩⟩
 refine ⟨_, Z, ?_⟩
 refine O Z Z (Zo (v := Vb ((Jh a))) Z Z (Zb (V (Zc (Zc (Zd (O Z Z (Zm (v := Vb ((Jh b))) Z Z (Zb (V ?_))))))))))
 rcases Qg hm with ⟨h, hm⟩ | ⟨h, hm⟩
 ·refine Qv Z h (Zc (Zc (Zd (O Z Z (Zm (v := Vb ((Jh a))) Z Z (Zb (V ?_)))))))
  rcases Qg hm with ⟨i, hm⟩ | ⟨i, hm⟩
  ·refine Qv Z i (Zc (Zd (O Z Z (Zo (v := U 0) Z Z (Zb (V (Q1 (Qj (Qj ?_)))))))))
   have p := Zu hm
   subst r
   refine ⟨_, QX Z, ?_⟩
   exact ⟨g, (Zt d f), c, Z⟩
  refine Qw Z i ?_
  replace i := Zk i
  refine Qp (V (Zc (Zd (O Z Z (Zo (v := U ((-1))) Z Z (Zb (V (Q1 (Qj ?_)))))))))
  have q := Zu hm
  subst r
  refine ⟨_, QX Z, ?_⟩
  exact ⟨g, (Zt d f), c, Z⟩
 refine Qw Z h ?_
 replace h := Zk h
 refine Qp (V (Zc (Zc (Zd (O Z Z (Zm (v := Vb ((Jh a))) Z Z (Zb (V ?_))))))))
 rcases Qg hm with ⟨j, hm⟩ | ⟨j, hm⟩
 ·refine Qv Z j (Zc (Zd (O Z Z (Zo (v := U 1) Z Z (Zb (V (Q1 (Qj ?_))))))))
  have t := Zu hm
  subst r
  refine ⟨_, QX Z, ?_⟩
  exact ⟨g, (Zt d f), c, Z⟩
 refine Qw Z j ?_
 replace j := Zk j
 refine Qp (V (Zc (Zc (Zd (O Z Z (Zm (v := U b) Z Z (O Z Z (Zm (v := U a) Z Z (O Z Z (Zq Z Z Z (Zb (V ?_))))))))))))
 rcases Qg hm with ⟨k, hm⟩ | ⟨k, hm⟩
 ·refine Qv Z k (Zc (Zd (O Z Z (Zo (v := U ((-1))) Z Z (Zb (V (Q1 (Qj ?_))))))))
  have u := Zu hm
  subst r
  refine ⟨_, QX Z, ?_⟩
  exact ⟨g, (Zt d f), c, Z⟩
 refine Qw Z k ?_
 replace k := Zk k
 refine Qp (V (Zc (Zc (Zd (O Z Z (Zm (v := U b) Z Z (O Z Z (Zm (v := U a) Z Z (O Z Z (Exec.gtr Z Z Z (Zb (V ?_))))))))))))
 rcases Qg hm with ⟨l, hm⟩ | ⟨l, hm⟩
 ·refine Qv Z l (Zc (Zd (O Z Z (Zo (v := U 1) Z Z (Zb (V (Q1 (Qj ?_))))))))
  have x := Zu hm
  subst r
  refine ⟨_, QX Z, ?_⟩
  exact ⟨g, (Zt d f), c, Z⟩
 refine Qw Z l ?_
 replace l := Zk l
 refine Qp (V (Zc (Zd (O Z Z (Zo (v := U 0) Z Z (Zb (V (Q1 ?_))))))))
 have y := Zu hm
 subst r
 refine ⟨_, QX Z, ?_⟩
 exact ⟨g, (Zt d f), c, Z⟩
theorem Qnp : (Tryz.f118.name == "runtime.NumGoroutine") = false := by kernel_rfl
theorem Qbk {w0 w : World} {s : PHeap} {H : List Res} {d : (List Int)} {c : Value} {r : Int} (hm : KS d = some r) (hS : St w0 s (H) w) (i : SliceRep (Qa .i64) s c d) :
  Calls Tryz.prog 118 #[c] w fun e w' => ∃ v, e = .returned v ∧ ((fun (a3 : Int) => ∃ (y : PHeap) , PHeap.le s y ∧ St w0 y (H) w' ∧ v = U a3) r) := by
 unfold KS at hm
 refine Qy Tryz.func118 Z Z (Zc (Zd (O Z Z (Zo (v := U 0) Z Z (Zb (V (Zc (Zd (O Z Z (Zo (v := U 0) Z Z (Zb (V (Zc (Zc (Zd (O Z Z (Zm (v := c) Z Z (O Z Z (Zr Jt Z Z i (O Z Z (Zm (v := U 0) Z Z (Zb (V ?_)))))))))))))))))))))))
 obtain ⟨n, ad, an, al, aj⟩ := QO hm
 refine QJ (M := fun f' w' => ∃ s', (n = .next s' ∨ n = .brk s') ∧ (fun (_ : Unit) => ∃ (z : PHeap) , PHeap.le s z ∧ St w0 z (H) w' ∧ f' 3 = U 0 ∧ f' 6 = c ∧ f' 7 = U ((d.length : Int))) s') ?_ ?_
 ·refine Qm (J4 (fun k' s' f' w' => (fun (_ : Unit) => ∃ (aa : PHeap) , PHeap.le s aa ∧ St w0 aa (H) w' ∧ f' 3 = U 0 ∧ f' 6 = c ∧ f' 7 = U ((d.length : Int)) ∧ f' 8 = U (k' : Int)) s') ad ?_ ?_ ?_)
  ·exact ⟨s, (Zv _), hS, Z, Z, Z, Z⟩
  ·intro aq aF o a9 aJ ak ae a ao
   obtain ⟨ab, l, j, q, t, u, m⟩ := ae
   refine Zc (Zd (O Z Z (Zq Z m u (Zb (V (Zc (QK (Zx (decide_eq_true (by omega))) (Qp (V (Zc (Qm (Zc (Zd ?_)))))))))))))
   obtain ⟨g, ay, a⟩ := Zg a
   refine O Z Z (Qu Jt Z t m (i.mono l) ay ?_)
   intro a4 aC ac
   refine O Z Z (Zw (E := (Qa .i64)) j A3 Z Z Z ac ?_)
   intro aI az
   obtain rfl := Qs.1 az
   refine O Z Z (Zo (v := U g) Z Z (Zb (V (Zc (Zd (O Z Z (Zm (v := U g) Z Z (O Z Z (Zm (v := U 0) Z q (O Z Z (Exec.neq Z Z Z (Zb (V ?_)))))))))))))
   rcases Qg a with ⟨b, a⟩ | ⟨b, a⟩
   ·refine Qv Z b (Zc (Zd (O Z Z (Zm (v := U g) Z Z (O Z Z (Zo (v := U g) Z Z (Zb (V (Q1 (QD (Qj (Qj (QD (Qj (Qj ?_)))))))))))))))
    have a5 := Zu a
    subst o
    have am := an _ (ao (by intro _ h; cases h))
    have a6 := Zu am
    subst r
    refine ⟨_, QX Z, ?_⟩
    exact ⟨ab, l, j, Z⟩
   refine Qw Z b ?_
   replace b := Zk b
   refine Qp (Qz (V (Zd (O Z Z (Exec.add Z m Z (O Z Z (Zm (v := U (IntKind.i64.wrap ((aq : Int) + 1))) Z Z (Zb (V ?_)))))))))
   have a7 := Zu a
   subst o
   refine ⟨_, Z, ?_⟩; exact ⟨ab, l, j, q, t, u, (Eq.trans Z (QB ak (SliceRep.le i)))⟩
  intro aG aA aK af ap
  obtain ⟨a0, ar, ah, av, aw, x, a2⟩ := af
  refine Zc (Zd (O Z Z (Zq Z a2 x (Zb (V (Zc (QA (Zx (decide_eq_false (by omega))) (QF (Ql (Ql (Q7 (V ?_))))))))))))
  refine ⟨_, .inl ap, ?_⟩; exact ⟨a0, ar, ah, av, aw, x⟩
 rintro aB aL ⟨aH, p, ag⟩
 have hm := p.elim (al _) (aj _)
 clear p
 obtain ⟨a1, au, ai, ax, aD, aE⟩ := ag
 refine (V (Zc (Zd (O Z Z (Zm (v := U 0) Z ax (O Z Z (Zo (v := U 0) Z Z (Zb (V (Q1 ?_))))))))))
 have a8 := Zu hm
 subst r
 refine ⟨_, QX Z, ?_⟩
 exact ⟨a1, au, ai, Z⟩
theorem N88 : (Tryz.f88.name == "runtime.NumGoroutine") = false := by kernel_rfl
theorem Qbp {w0 w : World} {s : PHeap} {H : List Res} {a : Edge} {b : Edge} {r : Int} (hm : Kv a b = some r) (hS : St w0 s (H) w) :
  Calls Tryz.prog 88 #[Value.agg #[U (a.From), U (a.Label), U (a.To)], Value.agg #[U (b.From), U (b.Label), U (b.To)]] w fun e w' => ∃ v, e = .returned v ∧ ((fun (ae : Int) => ∃ (h : PHeap) , PHeap.le s h ∧ St w0 h (H) w' ∧ v = U ae) r) := by
 unfold Kv at hm
 refine Qy Tryz.func88 Z Z (Zc (Zd (O Z Z (Exec.box (cs := [U (a.From), U (a.Label), U (a.To)]) hS Z Z Z ?_))))
 intro ag ao i
 refine O Z Z (Exec.box (cs := [U (b.From), U (b.Label), U (b.To)]) i Z Z Z ?_)
 intro ah ap j
 refine O Z Z (Zo (v := U 0) Z Z (Zb (V (Zc (K3 (n0 := 17) (.q 0 (.q 1 (.q 2 (.q 3 (.q 5 (.q 6 (.q 7 (.q 8 (.q 10 (.q 11 (.q 12 (.q 13 (.e 4 [5, 6, 7, 8, 10, 11, 12, 13] (.e 9 [10, 11, 12, 13] (.e 14 [] (.e 15 [] (.e 16 [] .done))))))))))))))))) K8 (by kernel_rfl) (by kernel_rfl) ?_)))))
 have d := j.drew
 refine Qh Z Z (Zp Qbn Z Z Z ⟨Z, ?_⟩)
 refine Qh Z Z (Zn (d.f1) A3 Z Z Z ⟨Z, ?_⟩)
 refine Qh Z Z (Zp Qbn Z Z Z ⟨Z, ?_⟩)
 refine Qh Z Z (Zn (d) A3 Z Z Z ⟨Z, ?_⟩)
 refine Qh Z Z (Zp Qan Z Z Z ⟨Z, ?_⟩)
 refine Qh Z Z (Zn (d.f1) A3 Z Z Z ⟨Z, ?_⟩)
 refine Qh Z Z (Zp Qan Z Z Z ⟨Z, ?_⟩)
 refine Qh Z Z (Zn (d) A3 Z Z Z ⟨Z, ?_⟩)
 refine Qh Z Z (Zp YZ Z Z Z ⟨Z, ?_⟩)
 refine Qh Z Z (Zn (d.f1) A3 Z Z Z ⟨Z, ?_⟩)
 refine Qh Z Z (Zp YZ Z Z Z ⟨Z, ?_⟩)
 refine Qh Z Z (Zn (d) A3 Z Z Z ⟨Z, ?_⟩)
 refine JH Z Z (Exec.call Z Z Tryz.func119 Z Qib (Zi Z (Zi Z Qk)) ((J6 (Jr a.From b.From) d).mono ?_))
 rintro _ aq ⟨_, rfl, ⟨ak, u, f, rfl⟩⟩
 refine ⟨_, Z, ?_⟩
 refine ⟨(Qd (Q4 Z Z (Zp Qan Z Z Z ⟨Z, Z⟩)) (Qd (Q4 Z Z (Zn (f.f1) A3 Z Z Z ⟨Z, Z⟩)) (Qd (Q4 Z Z (Zp Qan Z Z Z ⟨Z, Z⟩)) (Qd (Q4 Z Z (Zn (f) A3 Z Z Z ⟨Z, Z⟩)) (Qd (Q4 Z Z (Zp YZ Z Z Z ⟨Z, Z⟩)) (Qd (Q4 Z Z (Zn (f.f1) A3 Z Z Z ⟨Z, Z⟩)) (Qd (Q4 Z Z (Zp YZ Z Z Z ⟨Z, Z⟩)) (Qd (Q4 Z Z (Zn (f) A3 Z Z Z ⟨Z, Z⟩)) QY)))))))), ?_⟩
 refine JH Z Z (Exec.call Z Z Tryz.func119 Z Qib (Zi Z (Zi Z Qk)) ((J6 (Jr a.Label b.Label) f).mono ?_))
 rintro _ ar ⟨_, rfl, ⟨al, x, g, rfl⟩⟩
 refine ⟨_, Z, ?_⟩
 refine ⟨(Qd (Q4 Z Z (Zp YZ Z Z Z ⟨Z, Z⟩)) (Qd (Q4 Z Z (Zn (g.f1) A3 Z Z Z ⟨Z, Z⟩)) (Qd (Q4 Z Z (Zp YZ Z Z Z ⟨Z, Z⟩)) (Qd (Q4 Z Z (Zn (g) A3 Z Z Z ⟨Z, Z⟩)) QY)))), ?_⟩
 refine JH Z Z (Exec.call Z Z Tryz.func119 Z Qib (Zi Z (Zi Z Qk)) ((J6 (Jr a.To b.To) g).mono ?_))
 rintro _ au ⟨_, rfl, ⟨am, y, k, rfl⟩⟩
 refine ⟨_, Z, ?_⟩
 refine ⟨QY, ?_⟩
 refine JH Z Z (Exec.buildSlice (Te := 3) (cs := [U ((Qr a.From b.From)), U ((Qr a.Label b.Label)), U ((Qr a.To b.To))]) k Z (Qb (c := [U ((Qr a.From b.From))]) (Qi Z Z) (Qb (c := [U ((Qr a.Label b.Label))]) (Qi Z Z) (Qb (c := [U ((Qr a.To b.To))]) (Qi Z Z) Qx))) (fun _ => by kernel_rfl) ?_)
 intro ai av l
 refine ⟨QY, ?_⟩
 have m := St.boxArr (E := (Qa .i64)) (xs := [(Qr a.From b.From), (Qr a.Label b.Label), (Qr a.To b.To)]) l ⟨[U ((Qr a.From b.From))], [U ((Qr a.Label b.Label)), U ((Qr a.To b.To))], rfl, rfl, ⟨[U ((Qr a.Label b.Label))], [U ((Qr a.To b.To))], rfl, rfl, ⟨[U ((Qr a.To b.To))], [], rfl, rfl, rfl⟩⟩⟩ (by simp [maxLen])
 obtain ⟨an, z, n, ac⟩ := m.freezeArr
 obtain ⟨af, ab, hm⟩ := Zg hm
 refine JH Z Z (Exec.call Z Z Tryz.func118 Z Qnp (Zi Z Qk) ((Qbk ab n ac).mono ?_))
 rintro _ aw ⟨_, rfl, ⟨ad, aa, o, rfl⟩⟩
 refine ⟨_, Z, ?_⟩
 refine ⟨QY, ?_⟩
 refine QC (O Z Z (Zo (v := U af) Z Z (Zb (V (Q1 ?_)))))
 have aj := Zu hm
 subst r
 refine ⟨_, QX Z, ?_⟩
 have p := o.drop
 have t := p.drop
 exact ⟨ad, (Zt (Zt (Zt (Zt u x) y) z) aa), t, Z⟩
theorem N60 : (Tryz.f60.name == "runtime.NumGoroutine") = false := by kernel_rfl
theorem KM {w0 w : World} {s : PHeap} {H : List Res} {a : System} {y : Value} {z : Value} {ai : Value} {r : Bool} (hm : JV a = some r) (hS : St w0 s (H) w) (au : SliceRep (Qa .i64) s y a.Costs) (av : SliceRep encEdge s z a.Edges) (bf : SliceRep encBool s ai a.Goals) :
  Calls Tryz.prog 60 #[Value.agg #[U (a.States), U (a.Init), y, z, ai]] w fun e w' => ∃ v, e = .returned v ∧ ((fun (cv : Bool) => ∃ (aU : PHeap) , PHeap.le s aU ∧ St w0 aU (H) w' ∧ v = Value.bool (cv)) r) := by
 unfold JV at hm
 refine Qy Tryz.func60 Z Z (Zc (Zd (O Z Z (Exec.box (cs := [U (a.States), U (a.Init), y, z, ai]) hS Z Z Z ?_))))
 intro o dh j
 refine O Z Z (Zo (v := Vb false) Z Z (Zb (V (Zc (Zc (QJ (M := fun f' w' => ∃ (aV : PHeap) , PHeap.le s aV ∧ St w0 aV (Res.box o 38 [U (a.States), U (a.Init), y, z, ai] :: H) w' ∧ f' 1 = Vp (some ⟨o, 0, none⟩) ∧ f' 46 = Vb (((decide (a.States < 1)) || ((decide (4096 < a.States)) || ((decide (a.Init < 0)) || ((decide (a.States ≤ a.Init)) || ((!decide ((a.Goals.length : Int) = a.States)) || ((decide (4096 < (a.Costs.length : Int))) || decide (65536 < (a.Edges.length : Int)))))))))) ?_ ?_))))))
 ·refine Zd (O Z Z (Zp JL Z Z Z (O Z Z (Zn (j) A3 Z Z Z (O Z Z (Zq Z Z Z (O Z Z (Zm (v := Vb (decide (a.States < 1))) Z Z ?_))))))))
  by_cases p : (decide (a.States < 1)) = true
  ·refine Q0 36 (by rw [p]; rfl) ?_
   refine Zb (V ?_)
   exact ⟨s, (Zv _), j, Z, (Zx (QdV p)).symm⟩
  replace p := Zk p
  refine Qo Z (Zf Z (Zx p)) Z (Zp JL Z Z Z (Qo Z (Zf Z (Zx p)) Z (Zn (j) A3 Z Z Z (Qo Z (Zf Z (Zx p)) Z (Exec.gtr Z Z Z ?_)))))
  refine Q0 2 (by rw [p]; rfl) ?_
  by_cases x : (decide (4096 < a.States)) = true
  ·refine Q0 31 (by rw [x]; rfl) ?_
   refine Zb (V ?_)
   exact ⟨s, (Zv _), j, Z, (Zx (Eq.trans (Qaj p) (QdV x))).symm⟩
  replace x := Zk x
  refine Qo Z (Zf Z (Zx x)) Z (Zp KW Z Z Z (Qo Z (Zf Z (Zx x)) Z (Zn (j) A3 Z Z Z (Qo Z (Zf Z (Zx x)) Z (Zq Z Z Z ?_)))))
  refine Q0 2 (by rw [x]; rfl) ?_
  by_cases t : (decide (a.Init < 0)) = true
  ·refine Q0 26 (by rw [t]; rfl) ?_
   refine Zb (V ?_)
   exact ⟨s, (Zv _), j, Z, (Zx (Eq.trans (Qaj p) (Eq.trans (Qaj x) (QdV t)))).symm⟩
  replace t := Zk t
  refine Qo Z (Zf Z (Zx t)) Z (Zp KW Z Z Z (Qo Z (Zf Z (Zx t)) Z (Zn (j) A3 Z Z Z (Qo Z (Zf Z (Zx t)) Z (Zp JL Z Z Z (Qo Z (Zf Z (Zx t)) Z (Zn (j) A3 Z Z Z (Qo Z (Zf Z (Zx t)) Z (Exec.geq Z Z Z ?_)))))))))
  refine Q0 2 (by rw [t]; rfl) ?_
  by_cases u : (decide (a.States ≤ a.Init)) = true
  ·refine Q0 19 (by rw [u]; rfl) ?_
   refine Zb (V ?_)
   exact ⟨s, (Zv _), j, Z, (Zx (Eq.trans (Qaj p) (Eq.trans (Qaj x) (Eq.trans (Qaj t) (QdV u))))).symm⟩
  replace u := Zk u
  refine Qo Z (Zf Z (Zx u)) Z (Zp Qbo Z Z Z (Qo Z (Zf Z (Zx u)) Z (Zn (j) A36 Z Z Z (Qo Z (Zf Z (Zx u)) Z (Zr S36 Z Z bf (Qo Z (Zf Z (Zx u)) Z (Zp JL Z Z Z (Qo Z (Zf Z (Zx u)) Z (Zn (j) A3 Z Z Z (Qo Z (Zf Z (Zx u)) Z (Exec.neq Z Z Z ?_)))))))))))
  refine Q0 2 (by rw [u]; rfl) ?_
  by_cases ac : (!decide ((a.Goals.length : Int) = a.States)) = true
  ·refine Q0 11 (by rw [ac]; rfl) ?_
   refine Zb (V ?_)
   exact ⟨s, (Zv _), j, Z, (Zx (Eq.trans (Qaj p) (Eq.trans (Qaj x) (Eq.trans (Qaj t) (Eq.trans (Qaj u) (QdV ac)))))).symm⟩
  replace ac := Zk ac
  refine Qo Z (Zf Z (Zx ac)) Z (Zp QaQ Z Z Z (Qo Z (Zf Z (Zx ac)) Z (Zn (j) A22 Z Z Z (Qo Z (Zf Z (Zx ac)) Z (Zr Jt Z Z au (Qo Z (Zf Z (Zx ac)) Z (Exec.gtr Z Z Z ?_)))))))
  refine Q0 2 (by rw [ac]; rfl) ?_
  by_cases ah : (decide (4096 < (a.Costs.length : Int))) = true
  ·refine Q0 5 (by rw [ah]; rfl) ?_
   refine Zb (V ?_)
   exact ⟨s, (Zv _), j, Z, (Zx (Eq.trans (Qaj p) (Eq.trans (Qaj x) (Eq.trans (Qaj t) (Eq.trans (Qaj u) (Eq.trans (Qaj ac) (QdV ah))))))).symm⟩
  replace ah := Zk ah
  refine Qo Z (Zf Z (Zx ah)) Z (Zp QaF Z Z Z (Qo Z (Zf Z (Zx ah)) Z (Zn (j) A35 Z Z Z (Qo Z (Zf Z (Zx ah)) Z (Zr S35 Z Z av (Qo Z (Zf Z (Zx ah)) Z (Exec.gtr Z Z Z (O Z Z (Q5 (v := Vb (decide (65536 < (a.Edges.length : Int)))) Z (Zx ah) Z (Zb (V ?_)))))))))))
  exact ⟨s, (Zv _), j, Z, (Zx (Eq.trans (Qaj p) (Eq.trans (Qaj x) (Eq.trans (Qaj t) (Eq.trans (Qaj u) (Eq.trans (Qaj ac) (Qaj ah))))))).symm⟩
 intro cH di bp
 obtain ⟨a0, aa, a2, aM, aN⟩ := bp
 refine (V ?_)
 rcases Qg hm with ⟨aw, hm⟩ | ⟨aw, hm⟩
 ·refine Qv aN aw (Zc (Zd (O Z Z (Zo (v := Vb false) Z Z (Zb (V (Q1 (Qj ?_))))))))
  have c0 := Zu hm
  subst r
  refine ⟨_, QX Z, ?_⟩
  have bu := a2.drop
  exact ⟨a0, aa, bu, Z⟩
 refine Qw aN aw ?_
 replace aw := Zk aw
 refine Qp (V (Zc (Zc (Zd (O Z Z (Zp QaQ Z aM Z (O Z Z (Zn (a2) A22 Z Z Z (O Z Z (Zr Jt Z Z (au.mono aa) (O Z Z (Zm (v := U 0) Z Z (Zb (V ?_))))))))))))))
 obtain ⟨a9, bj, bL, bH, bD⟩ := QO hm
 refine QJ (M := fun f' w' => ∃ s', (a9 = .next s' ∨ a9 = .brk s') ∧ (fun (_ : Unit) => ∃ (aW : PHeap) , PHeap.le a0 aW ∧ St w0 aW (Res.box o 38 [U (a.States), U (a.Init), y, z, ai] :: H) w' ∧ f' 1 = Vp (some ⟨o, 0, none⟩) ∧ f' 48 = y ∧ f' 49 = U ((a.Costs.length : Int))) s') ?_ ?_
 ·refine Qm (J4 (fun k' s' f' w' => (fun (_ : Unit) => ∃ (aX : PHeap) , PHeap.le a0 aX ∧ St w0 aX (Res.box o 38 [U (a.States), U (a.Init), y, z, ai] :: H) w' ∧ f' 1 = Vp (some ⟨o, 0, none⟩) ∧ f' 48 = y ∧ f' 49 = U ((a.Costs.length : Int)) ∧ f' 50 = U (k' : Int)) s') bj ?_ ?_ ?_)
  ·exact ⟨a0, (Zv _), a2, aM, Z, Z, Z⟩
  ·intro aJ cY aA cI dj bF bl ap bN
   obtain ⟨a7, a4, a3, aO, a5, a6, a1⟩ := bl
   refine Zc (Zd (O Z Z (Zq Z a1 a6 (Zb (V (Zc (QK (Zx (decide_eq_true (by omega))) (Qp (V (Zc (Qm (Zc (Zd ?_)))))))))))))
   obtain ⟨ao, ch, ap⟩ := Zg ap
   refine O Z Z (Qu Jt Z a5 a1 (au.mono (Zt aa a4)) ch ?_)
   intro cw cQ bg
   refine O Z Z (Zw (E := (Qa .i64)) a3 A3 Z Z Z bg ?_)
   intro de ci
   obtain rfl := Qs.1 ci
   refine O Z Z (Zo (v := U ao) Z Z (Zb (V (Zc (QJ (M := fun f' w' => ∃ (aY : PHeap) , PHeap.le a7 aY ∧ St w0 aY (Res.box o 38 [U (a.States), U (a.Init), y, z, ai] :: H) w' ∧ f' 1 = Vp (some ⟨o, 0, none⟩) ∧ f' 48 = y ∧ f' 49 = U ((a.Costs.length : Int)) ∧ f' 50 = U ((aJ : Int)) ∧ f' 59 = Vb (((decide (ao < 0)) || decide (1048576 < ao)))) ?_ ?_)))))
   ·refine Zd (O Z Z (Zm (v := U ao) Z Z (O Z Z (Zq Z Z Z (O Z Z (Zm (v := Vb (decide (ao < 0))) Z Z ?_))))))
    by_cases am : (decide (ao < 0)) = true
    ·refine Q0 3 (by rw [am]; rfl) ?_
     refine Zb (V ?_)
     exact ⟨a7, (Zv _), a3, aO, a5, a6, a1, (Zx (QdV am)).symm⟩
    replace am := Zk am
    refine Qo Z (Zf Z (Zx am)) Z (Zm (v := U ao) Z Z (Qo Z (Zf Z (Zx am)) Z (Exec.gtr Z Z Z (O Z Z (Q5 (v := Vb (decide (1048576 < ao))) Z (Zx am) Z (Zb (V ?_)))))))
    exact ⟨a7, (Zv _), a3, aO, a5, a6, a1, (Zx (Qaj am)).symm⟩
   intro cJ dk bq
   obtain ⟨aZ, aK, aD, bV, bW, bX, bY, aP⟩ := bq
   refine (V ?_)
   rcases Qg ap with ⟨ax, ap⟩ | ⟨ax, ap⟩
   ·refine Qv aP ax (Zc (Zd (O Z Z (Zo (v := Vb false) Z Z (Zb (V (Q1 (QD (Qj (Qj (QD (Qj (Qj ?_)))))))))))))
    have c1 := Zu ap
    subst aA
    have bJ := bL _ (bN (by intro _ h; cases h))
    have c2 := Zu bJ
    subst r
    refine ⟨_, QX Z, ?_⟩
    have bv := aD.drop
    exact ⟨aZ, (Zt (Zt aa a4) aK), bv, Z⟩
   refine Qw aP ax ?_
   replace ax := Zk ax
   refine Qp (Qz (V (Zd (O Z Z (Exec.add Z bY Z (O Z Z (Zm (v := U (IntKind.i64.wrap ((aJ : Int) + 1))) Z Z (Zb (V ?_)))))))))
   have c3 := Zu ap
   subst aA
   refine ⟨_, Z, ?_⟩; exact ⟨aZ, (Zt a4 aK), aD, bV, bW, bX, (Eq.trans Z (QB bF (SliceRep.le (au.mono aa))))⟩
  intro cZ cK dl bm bO
  obtain ⟨co, bR, bw, bZ, ca, aQ, ct⟩ := bm
  refine Zc (Zd (O Z Z (Zq Z ct aQ (Zb (V (Zc (QA (Zx (decide_eq_false (by omega))) (QF (Ql (Ql (Q7 (V ?_))))))))))))
  refine ⟨_, .inl bO, ?_⟩; exact ⟨co, bR, bw, bZ, ca, aQ⟩
 rintro cL dm ⟨da, aH, br⟩
 have hm := aH.elim (bH _) (bD _)
 clear aH
 obtain ⟨a8, ar, aE, aR, cT, cU⟩ := br
 refine (V (Zc (Zc (Zd (O Z Z (Zp QaF Z aR Z (O Z Z (Zn (aE) A35 Z Z Z (O Z Z (Zr S35 Z Z (av.mono (Zt aa ar)) (O Z Z (Zm (v := U 0) Z Z (Zb (V ?_))))))))))))))
 obtain ⟨aB, bk, bM, bI, bE⟩ := QO hm
 refine QJ (M := fun f' w' => ∃ s', (aB = .next s' ∨ aB = .brk s') ∧ (fun (_ : Unit) => ∃ (ba : PHeap) , PHeap.le a8 ba ∧ St w0 ba (Res.box o 38 [U (a.States), U (a.Init), y, z, ai] :: H) w' ∧ f' 1 = Vp (some ⟨o, 0, none⟩) ∧ f' 62 = z ∧ f' 63 = U ((a.Edges.length : Int))) s') ?_ ?_
 ·refine Qm (J4 (fun k' s' f' w' => (fun (_ : Unit) => ∃ (bb : PHeap) , PHeap.le a8 bb ∧ St w0 bb (Res.box o 38 [U (a.States), U (a.Init), y, z, ai] :: H) w' ∧ f' 1 = Vp (some ⟨o, 0, none⟩) ∧ f' 62 = z ∧ f' 63 = U ((a.Edges.length : Int)) ∧ f' 64 = U (k' : Int)) s') bk ?_ ?_ ?_)
  ·exact ⟨a8, (Zv _), aE, aR, Z, Z, Z⟩
  ·intro aq db aC cM dn bG bn aj bP
   obtain ⟨an, az, aF, ab, ak, al, af⟩ := bn
   refine Zc (Zd (O Z Z (Zq Z af al (Zb (V (Zc (QK (Zx (decide_eq_true (by omega))) (Qp (V (Zc (Qm (Zc (Zd (O Z Z (Zm (v := U ((aq : Int))) Z af ?_)))))))))))))))
   obtain ⟨g, cj, aj⟩ := Zg aj
   refine O Z Z (Qu S35 Z ak af (av.mono (Zt (Zt aa ar) az)) cj ?_)
   intro cx cR bh
   refine O Z Z (Zw (E := encEdge) aF A85 Z Z Z bh ?_)
   intro df ck
   obtain rfl := JM.1 ck
   refine O Z Z (Exec.alloc (cs := [U 0, U 0, U 0]) aF Z85 Z Z ?_)
   intro cy dp bx
   refine O Z Z (Zo (v := U ((aq : Int))) Z Z (O Z Z (Qf (ds := [U (g.From), U (g.Label), U (g.To)]) (es := [U (g.From), U (g.Label), U (g.To)]) bx A85 Z Z Z Z (Zj Z (Zj Z (Zj Z Q6))) (Nat.le_of_ble_eq_true Z) Z ?_)))
   intro dq bz
   refine Zb (V (Zc ?_))
   obtain ⟨ag, b, aj⟩ := Zg aj
   refine QJ (M := fun f' w' => (fun (ag : Bool) => ∃ (bc : PHeap) , PHeap.le an bc ∧ St w0 bc (Res.box o 38 [U (a.States), U (a.Init), y, z, ai] :: H) w' ∧ f' 1 = Vp (some ⟨o, 0, none⟩) ∧ f' 62 = z ∧ f' 63 = U ((a.Edges.length : Int)) ∧ f' 64 = U ((aq : Int)) ∧ f' 118 = Vb ag) ag) ?_ ?_
   ·refine K3 (n0 := 50) (.q 0 (.q 1 (.q 2 (.q 3 (.q 4 (.q 5 (.q 6 (.q 7 (.q 8 (.q 9 (.q 10 (.q 11 (.q 12 (.q 13 (.q 14 (.q 15 (.q 16 (.q 17 (.q 18 (.q 19 (.q 20 (.q 21 (.q 22 (.q 23 (.q 24 (.q 25 (.q 26 (.q 27 (.q 28 (.q 29 (.q 30 (.q 31 (.q 32 (.q 33 (.q 34 (.q 35 (.q 36 (.q 37 (.q 38 (.q 39 (.q 40 (.q 41 (.q 42 (.q 43 (.q 44 (.q 45 (.e 46 [] (.q 47 (.q 48 (.q 49 .done)))))))))))))))))))))))))))))))))))))))))))))))))) K8 (by kernel_rfl) (by kernel_rfl) ?_
    have d := bz.drew
    refine Qh Z Z (Zp Qbn Z Z Z ⟨Z, ?_⟩)
    refine Qh Z Z (Zn (d) A3 Z Z Z ⟨Z, ?_⟩)
    refine Qh Z Z (Zq Z Z Z ⟨Z, ?_⟩)
    refine Qh Z Z (Zm (v := Vb (decide (g.From < 0))) Z Z ⟨Z, ?_⟩)
    rcases Qg b with ⟨l, b⟩ | ⟨l, b⟩
    ·refine Qq Z Z (Zf Z (Zx l)) Z (Qq Z Z (Zf Z (Zx l)) Z (Qq Z Z (Zf Z (Zx l)) Z (Qq Z Z (Zf Z (Zx l)) Z (Qq Z Z (Zf Z (Zx l)) Z (Qh Z Z (Zs (v := Vb true) Z (Zx l) Z ⟨Z, ?_⟩))))))
     refine Qh Z Z (Zm (v := Vb true) Z Z ⟨Z, ?_⟩)
     refine Qq Z Z (Zf Z Z) Z (Qq Z Z (Zf Z Z) Z (Qq Z Z (Zf Z Z) Z (Qh Z Z (Zs (v := Vb true) Z Z Z ⟨Z, ?_⟩))))
     refine Qh Z Z (Zm (v := Vb true) Z Z ⟨Z, ?_⟩)
     refine Qq Z Z (Zf Z Z) Z (Qq Z Z (Zf Z Z) Z (Qq Z Z (Zf Z Z) Z (Qq Z Z (Zf Z Z) Z (Qq Z Z (Zf Z Z) Z (Qh Z Z (Zs (v := Vb true) Z Z Z ⟨Z, ?_⟩))))))
     refine Qh Z Z (Zm (v := Vb true) Z Z ⟨Z, ?_⟩)
     refine Qq Z Z (Zf Z Z) Z (Qq Z Z (Zf Z Z) Z (Qq Z Z (Zf Z Z) Z (Qh Z Z (Zs (v := Vb true) Z Z Z ⟨Z, ?_⟩))))
     refine Qh Z Z (Zm (v := Vb true) Z Z ⟨Z, ?_⟩)
     refine Qq Z Z (Zf Z Z) Z (Qq Z Z (Zf Z Z) Z (Qq Z Z (Zf Z Z) Z (Qq Z Z (Zf Z Z) Z (Qq Z Z (Zf Z Z) Z (Qq Z Z (Zf Z Z) Z (Qh Z Z (Zs (v := Vb true) Z Z Z ⟨Z, ?_⟩)))))))
     refine Qh Z Z (Zm (v := Vb true) Z Z ⟨Z, ?_⟩)
     refine Qq Z Z (Zf Z Z) Z (Qq Z Z (Zf Z Z) Z (Qq Z Z (Zf Z Z) Z (QZ Z Z (Zh Z Z) (QZ Z Z (Zh Z Z) (QZ Z Z (Zh Z Z) (QZ Z Z (Zh Z Z) (QZ Z Z (Zh Z Z) (QZ Z Z (Zh Z Z) (QZ Z Z (Zh Z Z) (QgX Z Z (Zh Z Z) (QZ Z Z (Zh Z Z) (Qq Z Z (Zf Z Z) Z (Qh Z Z (Zs (v := Vb true) Z Z Z ⟨Z, ?_⟩))))))))))))))
     refine QC (Zb (V ?_))
     have c4 := Zu b
     subst ag
     have b0 := d.drop
     exact ⟨an, (Zv _), b0, ab, ak, al, af, Z⟩
    replace l := Zk l
    refine Q9 Z Z (Zf Z (Zx l)) (Zp Qbn Z Z Z ⟨Z, ?_⟩)
    refine Q9 Z Z (Zf Z (Zx l)) (Zn (d) A3 Z Z Z ⟨Z, ?_⟩)
    refine Q9 Z Z (Zf Z (Zx l)) (Zp JL Z ab Z ⟨Z, ?_⟩)
    refine Q9 Z Z (Zf Z (Zx l)) (Zn (d.f1) A3 Z Z Z ⟨Z, ?_⟩)
    refine Q9 Z Z (Zf Z (Zx l)) (Exec.geq Z Z Z ⟨Z, ?_⟩)
    refine Qh Z Z (Q5 (v := Vb (decide (a.States ≤ g.From))) Z (Zx l) Z ⟨Z, ?_⟩)
    refine Qh Z Z (Zm (v := Vb (decide (a.States ≤ g.From))) Z Z ⟨Z, ?_⟩)
    rcases Qg b with ⟨ad, b⟩ | ⟨ad, b⟩
    ·refine Qq Z Z (Zf Z (Zx ad)) Z (Qq Z Z (Zf Z (Zx ad)) Z (Qq Z Z (Zf Z (Zx ad)) Z (Qh Z Z (Zs (v := Vb true) Z (Zx ad) Z ⟨Z, ?_⟩))))
     refine Qh Z Z (Zm (v := Vb true) Z Z ⟨Z, ?_⟩)
     refine Qq Z Z (Zf Z Z) Z (Qq Z Z (Zf Z Z) Z (Qq Z Z (Zf Z Z) Z (Qq Z Z (Zf Z Z) Z (Qq Z Z (Zf Z Z) Z (Qh Z Z (Zs (v := Vb true) Z Z Z ⟨Z, ?_⟩))))))
     refine Qh Z Z (Zm (v := Vb true) Z Z ⟨Z, ?_⟩)
     refine Qq Z Z (Zf Z Z) Z (Qq Z Z (Zf Z Z) Z (Qq Z Z (Zf Z Z) Z (Qh Z Z (Zs (v := Vb true) Z Z Z ⟨Z, ?_⟩))))
     refine Qh Z Z (Zm (v := Vb true) Z Z ⟨Z, ?_⟩)
     refine Qq Z Z (Zf Z Z) Z (Qq Z Z (Zf Z Z) Z (Qq Z Z (Zf Z Z) Z (Qq Z Z (Zf Z Z) Z (Qq Z Z (Zf Z Z) Z (Qq Z Z (Zf Z Z) Z (Qh Z Z (Zs (v := Vb true) Z Z Z ⟨Z, ?_⟩)))))))
     refine Qh Z Z (Zm (v := Vb true) Z Z ⟨Z, ?_⟩)
     refine Qq Z Z (Zf Z Z) Z (Qq Z Z (Zf Z Z) Z (Qq Z Z (Zf Z Z) Z (QZ Z Z (Zh Z Z) (QZ Z Z (Zh Z Z) (QZ Z Z (Zh Z Z) (QZ Z Z (Zh Z Z) (QZ Z Z (Zh Z Z) (QZ Z Z (Zh Z Z) (QZ Z Z (Zh Z Z) (QgX Z Z (Zh Z Z) (QZ Z Z (Zh Z Z) (Qq Z Z (Zf Z Z) Z (Qh Z Z (Zs (v := Vb true) Z Z Z ⟨Z, ?_⟩))))))))))))))
     refine QC (Zb (V ?_))
     have c5 := Zu b
     subst ag
     have b1 := d.drop
     exact ⟨an, (Zv _), b1, ab, ak, al, af, Z⟩
    replace ad := Zk ad
    refine Q9 Z Z (Zf Z (Zx ad)) (Zp YZ Z Z Z ⟨Z, ?_⟩)
    refine Q9 Z Z (Zf Z (Zx ad)) (Zn (d) A3 Z Z Z ⟨Z, ?_⟩)
    refine Q9 Z Z (Zf Z (Zx ad)) (Zq Z Z Z ⟨Z, ?_⟩)
    refine Qh Z Z (Q5 (v := Vb (decide (g.To < 0))) Z (Zx ad) Z ⟨Z, ?_⟩)
    refine Qh Z Z (Zm (v := Vb (decide (g.To < 0))) Z Z ⟨Z, ?_⟩)
    rcases Qg b with ⟨m, b⟩ | ⟨m, b⟩
    ·refine Qq Z Z (Zf Z (Zx m)) Z (Qq Z Z (Zf Z (Zx m)) Z (Qq Z Z (Zf Z (Zx m)) Z (Qq Z Z (Zf Z (Zx m)) Z (Qq Z Z (Zf Z (Zx m)) Z (Qh Z Z (Zs (v := Vb true) Z (Zx m) Z ⟨Z, ?_⟩))))))
     refine Qh Z Z (Zm (v := Vb true) Z Z ⟨Z, ?_⟩)
     refine Qq Z Z (Zf Z Z) Z (Qq Z Z (Zf Z Z) Z (Qq Z Z (Zf Z Z) Z (Qh Z Z (Zs (v := Vb true) Z Z Z ⟨Z, ?_⟩))))
     refine Qh Z Z (Zm (v := Vb true) Z Z ⟨Z, ?_⟩)
     refine Qq Z Z (Zf Z Z) Z (Qq Z Z (Zf Z Z) Z (Qq Z Z (Zf Z Z) Z (Qq Z Z (Zf Z Z) Z (Qq Z Z (Zf Z Z) Z (Qq Z Z (Zf Z Z) Z (Qh Z Z (Zs (v := Vb true) Z Z Z ⟨Z, ?_⟩)))))))
     refine Qh Z Z (Zm (v := Vb true) Z Z ⟨Z, ?_⟩)
     refine Qq Z Z (Zf Z Z) Z (Qq Z Z (Zf Z Z) Z (Qq Z Z (Zf Z Z) Z (QZ Z Z (Zh Z Z) (QZ Z Z (Zh Z Z) (QZ Z Z (Zh Z Z) (QZ Z Z (Zh Z Z) (QZ Z Z (Zh Z Z) (QZ Z Z (Zh Z Z) (QZ Z Z (Zh Z Z) (QgX Z Z (Zh Z Z) (QZ Z Z (Zh Z Z) (Qq Z Z (Zf Z Z) Z (Qh Z Z (Zs (v := Vb true) Z Z Z ⟨Z, ?_⟩))))))))))))))
     refine QC (Zb (V ?_))
     have c6 := Zu b
     subst ag
     have b2 := d.drop
     exact ⟨an, (Zv _), b2, ab, ak, al, af, Z⟩
    replace m := Zk m
    refine Q9 Z Z (Zf Z (Zx m)) (Zp YZ Z Z Z ⟨Z, ?_⟩)
    refine Q9 Z Z (Zf Z (Zx m)) (Zn (d) A3 Z Z Z ⟨Z, ?_⟩)
    refine Q9 Z Z (Zf Z (Zx m)) (Zp JL Z ab Z ⟨Z, ?_⟩)
    refine Q9 Z Z (Zf Z (Zx m)) (Zn (d.f1) A3 Z Z Z ⟨Z, ?_⟩)
    refine Q9 Z Z (Zf Z (Zx m)) (Exec.geq Z Z Z ⟨Z, ?_⟩)
    refine Qh Z Z (Q5 (v := Vb (decide (a.States ≤ g.To))) Z (Zx m) Z ⟨Z, ?_⟩)
    refine Qh Z Z (Zm (v := Vb (decide (a.States ≤ g.To))) Z Z ⟨Z, ?_⟩)
    rcases Qg b with ⟨ae, b⟩ | ⟨ae, b⟩
    ·refine Qq Z Z (Zf Z (Zx ae)) Z (Qq Z Z (Zf Z (Zx ae)) Z (Qq Z Z (Zf Z (Zx ae)) Z (Qh Z Z (Zs (v := Vb true) Z (Zx ae) Z ⟨Z, ?_⟩))))
     refine Qh Z Z (Zm (v := Vb true) Z Z ⟨Z, ?_⟩)
     refine Qq Z Z (Zf Z Z) Z (Qq Z Z (Zf Z Z) Z (Qq Z Z (Zf Z Z) Z (Qq Z Z (Zf Z Z) Z (Qq Z Z (Zf Z Z) Z (Qq Z Z (Zf Z Z) Z (Qh Z Z (Zs (v := Vb true) Z Z Z ⟨Z, ?_⟩)))))))
     refine Qh Z Z (Zm (v := Vb true) Z Z ⟨Z, ?_⟩)
     refine Qq Z Z (Zf Z Z) Z (Qq Z Z (Zf Z Z) Z (Qq Z Z (Zf Z Z) Z (QZ Z Z (Zh Z Z) (QZ Z Z (Zh Z Z) (QZ Z Z (Zh Z Z) (QZ Z Z (Zh Z Z) (QZ Z Z (Zh Z Z) (QZ Z Z (Zh Z Z) (QZ Z Z (Zh Z Z) (QgX Z Z (Zh Z Z) (QZ Z Z (Zh Z Z) (Qq Z Z (Zf Z Z) Z (Qh Z Z (Zs (v := Vb true) Z Z Z ⟨Z, ?_⟩))))))))))))))
     refine QC (Zb (V ?_))
     have c7 := Zu b
     subst ag
     have b3 := d.drop
     exact ⟨an, (Zv _), b3, ab, ak, al, af, Z⟩
    replace ae := Zk ae
    refine Q9 Z Z (Zf Z (Zx ae)) (Zp Qan Z Z Z ⟨Z, ?_⟩)
    refine Q9 Z Z (Zf Z (Zx ae)) (Zn (d) A3 Z Z Z ⟨Z, ?_⟩)
    refine Q9 Z Z (Zf Z (Zx ae)) (Zq Z Z Z ⟨Z, ?_⟩)
    refine Qh Z Z (Q5 (v := Vb (decide (g.Label < 0))) Z (Zx ae) Z ⟨Z, ?_⟩)
    refine Qh Z Z (Zm (v := Vb (decide (g.Label < 0))) Z Z ⟨Z, ?_⟩)
    rcases Qg b with ⟨i, b⟩ | ⟨i, b⟩
    ·refine Qq Z Z (Zf Z (Zx i)) Z (Qq Z Z (Zf Z (Zx i)) Z (Qq Z Z (Zf Z (Zx i)) Z (Qq Z Z (Zf Z (Zx i)) Z (Qq Z Z (Zf Z (Zx i)) Z (Qq Z Z (Zf Z (Zx i)) Z (Qh Z Z (Zs (v := Vb true) Z (Zx i) Z ⟨Z, ?_⟩)))))))
     refine Qh Z Z (Zm (v := Vb true) Z Z ⟨Z, ?_⟩)
     refine Qq Z Z (Zf Z Z) Z (Qq Z Z (Zf Z Z) Z (Qq Z Z (Zf Z Z) Z (QZ Z Z (Zh Z Z) (QZ Z Z (Zh Z Z) (QZ Z Z (Zh Z Z) (QZ Z Z (Zh Z Z) (QZ Z Z (Zh Z Z) (QZ Z Z (Zh Z Z) (QZ Z Z (Zh Z Z) (QgX Z Z (Zh Z Z) (QZ Z Z (Zh Z Z) (Qq Z Z (Zf Z Z) Z (Qh Z Z (Zs (v := Vb true) Z Z Z ⟨Z, ?_⟩))))))))))))))
     refine QC (Zb (V ?_))
     have c8 := Zu b
     subst ag
     have b4 := d.drop
     exact ⟨an, (Zv _), b4, ab, ak, al, af, Z⟩
    replace i := Zk i
    refine Q9 Z Z (Zf Z (Zx i)) (Zp Qan Z Z Z ⟨Z, ?_⟩)
    refine Q9 Z Z (Zf Z (Zx i)) (Zn (d) A3 Z Z Z ⟨Z, ?_⟩)
    refine Q9 Z Z (Zf Z (Zx i)) (Zp QaQ Z ab Z ⟨Z, ?_⟩)
    refine Q9 Z Z (Zf Z (Zx i)) (Zn (d.f1) A22 Z Z Z ⟨Z, ?_⟩)
    refine Q9 Z Z (Zf Z (Zx i)) (Zr Jt Z Z (au.mono (Zt (Zt aa ar) az)) ⟨Z, ?_⟩)
    refine Q9 Z Z (Zf Z (Zx i)) (Exec.geq Z Z Z ⟨Z, ?_⟩)
    refine Qh Z Z (Q5 (v := Vb (decide ((a.Costs.length : Int) ≤ g.Label))) Z (Zx i) Z ⟨Z, ?_⟩)
    refine Qh Z Z (Zm (v := Vb (decide ((a.Costs.length : Int) ≤ g.Label))) Z Z ⟨Z, ?_⟩)
    rcases Qg b with ⟨n, b⟩ | ⟨n, b⟩
    ·refine Qq Z Z (Zf Z (Zx n)) Z (Qq Z Z (Zf Z (Zx n)) Z (Qq Z Z (Zf Z (Zx n)) Z (QZ Z Z (Zh Z Z) (QZ Z Z (Zh Z Z) (QZ Z Z (Zh Z Z) (QZ Z Z (Zh Z Z) (QZ Z Z (Zh Z Z) (QZ Z Z (Zh Z Z) (QZ Z Z (Zh Z Z) (QgX Z Z (Zh Z Z) (QZ Z Z (Zh Z Z) (Qq Z Z (Zf Z (Zx n)) Z (Qh Z Z (Zs (v := Vb true) Z (Zx n) Z ⟨Z, ?_⟩))))))))))))))
     refine QC (Zb (V ?_))
     have c9 := Zu b
     subst ag
     have b5 := d.drop
     exact ⟨an, (Zv _), b5, ab, ak, al, af, Z⟩
    replace n := Zk n
    refine Q9 Z Z (Zf Z (Zx n)) (Zm (v := U ((aq : Int))) Z Z ⟨Z, ?_⟩)
    refine Q9 Z Z (Zf Z (Zx n)) (Exec.gtr Z Z Z ⟨Z, ?_⟩)
    refine Q9 Z Z (Zf Z (Zx n)) (Zm (v := Vb (decide (0 < (aq : Int)))) Z Z ⟨Z, ?_⟩)
    rcases Qg b with ⟨c, b⟩ | ⟨c, b⟩
    ·refine Q9 Z Z (Zf Z (Zx c)) (Zp QaF Z ab Z ⟨Z, ?_⟩)
     refine Q9 Z Z (Zf Z (Zx c)) (Zn (d.f1) A35 Z Z Z ⟨Z, ?_⟩)
     refine Q9 Z Z (Zf Z (Zx c)) (Zm (v := U ((aq : Int))) Z Z ⟨Z, ?_⟩)
     refine Q9 Z Z (Zf Z (Zx c)) (Exec.sub Z Z Z ⟨Z, ?_⟩)
     obtain ⟨dw, cl, b⟩ := Zg b
     refine Q9 Z Z (Zf Z (Zx c)) (QP S35 Z Z Z (av.mono (Zt (Zt aa ar) az)) cl ?_)
     intro cz cS bi cA
     refine ⟨Z, ?_⟩
     refine Q9 Z Z (Zf Z (Zx c)) (Zw (E := encEdge) d A85 Z Z Z bi ?_)
     intro dg cm
     obtain rfl := JM.1 cm
     refine ⟨Z, ?_⟩
     refine Q9 Z Z (Zf Z (Zx c)) (Qn (ds := [U (g.From), U (g.Label), U (g.To)]) (d) A85 Z Z Z ⟨Z, ?_⟩)
     obtain ⟨be, cn, b⟩ := Zg b
     refine Qnd Z Z (Zf Z (Zx c)) (Exec.call Z Z Tryz.func88 Z N88 (Zi Z (Zi Z Qk)) ((Qbp cn d).mono ?_))
     rintro _ dr ⟨_, rfl, ⟨cp, bS, b6, rfl⟩⟩
     refine ⟨_, Z, ?_⟩
     refine ⟨QY, ?_⟩
     refine Q9 Z Z (Zf Z (Zx c)) (Exec.geq Z Z Z ⟨Z, ?_⟩)
     refine Q9 Z Z (Zf Z (Zx n)) (Zs (v := Vb (decide (0 ≤ be))) Z (Zx c) Z ⟨Z, ?_⟩)
     refine Qh Z Z (Q5 (v := Vb (decide (0 ≤ be))) Z (Zx n) Z ⟨Z, ?_⟩)
     refine QC (Zb (V ?_))
     have cB := Zu b
     subst ag
     have b7 := b6.drop
     exact ⟨cp, bS, b7, ab, ak, al, af, Z⟩
    replace c := Zk c
    refine Qq Z Z (Zf Z (Zx c)) Z (Qq Z Z (Zf Z (Zx c)) Z (Qq Z Z (Zf Z (Zx c)) Z (Qq Z Z (Zf Z (Zx c)) Z (Qq Z Z (Zf Z (Zx c)) Z (Qq Z Z (Zf Z (Zx c)) Z (Qq Z Z (Zf Z (Zx c)) Z (Qnc Z Z (Zf Z (Zx c)) Z (Qq Z Z (Zf Z (Zx c)) Z (Q9 Z Z (Zf Z (Zx n)) (Q5 (v := Vb false) Z (Zx c) Z ⟨Z, ?_⟩))))))))))
    refine Qh Z Z (Q5 (v := Vb false) Z (Zx n) Z ⟨Z, ?_⟩)
    refine QC (Zb (V ?_))
    have cC := Zu b
    subst ag
    have b8 := d.drop
    exact ⟨an, (Zv _), b8, ab, ak, al, af, Z⟩
   intro cN dt bs
   obtain ⟨bd, aL, aG, cb, cc, cd, ce, aS⟩ := bs
   refine (V ?_)
   rcases Qg aj with ⟨ay, aj⟩ | ⟨ay, aj⟩
   ·refine Qv aS ay (Zc (Zd (O Z Z (Zo (v := Vb false) Z Z (Zb (V (Q1 (QD (Qj (Qj (QD (Qj (Qj ?_)))))))))))))
    have cD := Zu aj
    subst aC
    have bK := bM _ (bP (by intro _ h; cases h))
    have cE := Zu bK
    subst r
    refine ⟨_, QX Z, ?_⟩
    have b9 := aG.drop
    exact ⟨bd, (Zt (Zt (Zt aa ar) az) aL), b9, Z⟩
   refine Qw aS ay ?_
   replace ay := Zk ay
   refine Qp (Qz (V (Zd (O Z Z (Exec.add Z ce Z (O Z Z (Zm (v := U (IntKind.i64.wrap ((aq : Int) + 1))) Z Z (Zb (V ?_)))))))))
   have cF := Zu aj
   subst aC
   refine ⟨_, Z, ?_⟩; exact ⟨bd, (Zt az aL), aG, cb, cc, cd, (Eq.trans Z (QB bG (SliceRep.le (av.mono (Zt aa ar)))))⟩
  intro dc cO du bo bQ
  obtain ⟨cq, bT, bA, cf, cg, aT, cu⟩ := bo
  refine Zc (Zd (O Z Z (Zq Z cu aT (Zb (V (Zc (QA (Zx (decide_eq_false (by omega))) (QF (Ql (Ql (Q7 (V ?_))))))))))))
  refine ⟨_, .inl bQ, ?_⟩; exact ⟨cq, bT, bA, cf, cg, aT⟩
 rintro cP dv ⟨dd, aI, bt⟩
 have hm := aI.elim (bI _) (bE _)
 clear aI
 obtain ⟨cr, bU, bB, cV, cW, cX⟩ := bt
 refine (V (Zc (Zd (O Z Z (Zo (v := Vb true) Z Z (Zb (V (Q1 ?_))))))))
 have cG := Zu hm
 subst r
 refine ⟨_, QX Z, ?_⟩
 have bC := bB.drop
 exact ⟨cr, (Zt (Zt aa ar) bU), bC, Z⟩
theorem Qka : Jb Tryz.prog 162 = some (9, 1, 16) := by kernel_rfl
theorem Z9 : JA Tryz.prog 9 = some (Value.string ⟨#[]⟩) := by kernel_rfl
theorem A4 : JI Tryz.prog 4 = some (false, 1) := by kernel_rfl
theorem Qo7 : (Tryz.f130.name == "runtime.NumGoroutine") = false := by kernel_rfl
theorem QbM {w0 w : World} {s : PHeap} {H : List Res} {b : Bool} {r : ByteArray} (hm : JS b = some r) (hS : St w0 s (H) w) :
  Calls Tryz.prog 130 #[Value.bool (b)] w fun e w' => ∃ v, e = .returned v ∧ ((fun (d : ByteArray) => ∃ (c : PHeap) , PHeap.le s c ∧ St w0 c (H) w' ∧ v = Value.string (d)) r) := by
 unfold JS at hm
 refine Qy Tryz.func130 Z Z (Zc (Zd (O Z Z (Zo (v := Value.string (⟨#[]⟩)) Z Z (Zb (V (Zc (Zc (Zd (O Z Z (Zm (v := Vb b) Z Z (Zb (V ?_)))))))))))))
 rcases Qg hm with ⟨a, hm⟩ | ⟨a, hm⟩
 ·refine Qv Z a (Zc (Zd (O Z Z (Zo (v := Value.string (⟨#[116, 114, 117, 101]⟩)) Z Z (Zb (V (Q1 (Qj ?_))))))))
  have f := Zu hm
  subst r
  refine ⟨_, QX Z, ?_⟩
  exact ⟨s, (Zv _), hS, Z⟩
 refine Qw Z a ?_
 replace a := Zk a
 refine Qp (V (Zc (Zd (O Z Z (Zo (v := Value.string (⟨#[102, 97, 108, 115, 101]⟩)) Z Z (Zb (V (Q1 ?_))))))))
 have g := Zu hm
 subst r
 refine ⟨_, QX Z, ?_⟩
 exact ⟨s, (Zv _), hS, Z⟩
theorem QoD : (Tryz.f112.name == "runtime.NumGoroutine") = false := by kernel_rfl
theorem QcE {w0 w : World} {s : PHeap} {H : List Res} {a : Bool} {r : ByteArray} (hm : Kr a = some r) (hS : St w0 s (H) w) :
  Calls Tryz.prog 112 #[Value.bool (a)] w fun e w' => ∃ v, e = .returned v ∧ ((fun (g : ByteArray) => ∃ (b : PHeap) , PHeap.le s b ∧ St w0 b (H) w' ∧ v = Value.string (g)) r) := by
 unfold Kr at hm
 refine Qy Tryz.func112 Z Z (Zc (Zd (O Z Z (Zo (v := Value.string (⟨#[]⟩)) Z Z (Zb (V (Zc (Zd (O Z Z (Zm (v := Vb a) Z Z (O Z Z (Exec.call Z Z Tryz.func130 Z Qo7 (Zi Z Qk) ((QbM (Y7 a) hS).mono ?_)))))))))))))
 rintro _ i ⟨_, rfl, ⟨f, d, c, rfl⟩⟩
 refine ⟨_, Z, ?_⟩
 refine O Z Z (Zo (v := Value.string ((JD a))) Z Z (Zb (V (Q1 ?_))))
 have h := Zu hm
 subst r
 refine ⟨_, QX Z, ?_⟩
 exact ⟨f, d, c, Z⟩
theorem QnF : (Tryz.f113.name == "runtime.NumGoroutine") = false := by kernel_rfl
theorem QaG {w0 w : World} {s : PHeap} {H : List Res} {j : (List ByteArray)} {g : Value} {r : (List Int) × Int} (hm : Kg j = some r) (hS : St w0 s (Res.arr encStr 9 g j :: H) w) :
  Calls Tryz.prog 113 #[g] w fun e w' => ∃ v, e = .returned v ∧ ((J2 fun (ba : (List Int)) (bb : Int) => ∃ (ai : PHeap) (al : Value), PHeap.le s ai ∧ St w0 ai (Res.arr encStr 9 g j :: Res.arr (Qa .i64) 3 al ba :: H) w' ∧ v = Value.tuple #[al, U bb]) r) := by
 unfold Kg at hm
 refine Qy Tryz.func113 Z Z (Zc (Zd (O Z Z (Zo (v := Vs none 0 0) Z Z (O Z Z (Zo (v := U 0) Z Z (Zb (V (Zc (Zd (O Z Z (QgJ (k := 9) (e := 3) hS Z ?_))))))))))))
 intro d bq y
 refine O Z Z (Zo (v := Value.map (some d)) Z Z (Zb (V (Zc (Zd (O Z Z (Zo (v := Vs none 0 0) Z Z (Zb (V (Zc (Zc (Zd (O Z Z (Zm (v := g) Z Z (O Z Z (QQ (y.f1) Qka Z Z (O Z Z (Zm (v := U 0) Z Z (Zb (V ?_))))))))))))))))))))
 obtain ⟨aX, an, hm⟩ := Zg hm
 refine Qm (J3 (fun k' s' f' w' => (J2 fun (q : (List Int)) (n : QbZ) => ∃ (aj : PHeap) (b : Value), PHeap.le s aj ∧ St w0 aj (Res.arr encStr 9 g j :: Res.smap Tryz.prog 9 3 d n :: Res.arr (Qa .i64) 3 b q :: H) w' ∧ f' 4 = Value.map (some d) ∧ f' 5 = b ∧ f' 11 = g ∧ f' 12 = U ((j.length : Int)) ∧ f' 13 = U (k' : Int)) s') an ?_ ?_ ?_)
 ·have ar := y.nilArr (Qa .i64) 3
  have au := ar.f1
  have av := au.f2
  exact ⟨s, (Vs none 0 0), (Zv _), av, Z, Z, Z, Z, Z⟩
 ·intro af aY aU bi br aD ao a
  obtain ⟨q, n⟩ := aY
  replace a := Jf a
  obtain ⟨ab, b, aE, m, p, ah, z, aa, x⟩ := ao
  refine Zc (Zd (O Z Z (Zq Z x aa (Zb (V (Zc (QK (Zx (decide_eq_true (by omega))) (Qp (V (Zc (Qm (Zc (Zd ?_)))))))))))))
  obtain ⟨ac, t, a⟩ := Zg a
  obtain ⟨bl, bd, ad⟩ := m.arr_at t
  refine O Z Z (Qc Qka Z (Eq.trans z ad) x (Qe t).1 (Qe t).2.1 (O Z Z (Qt (F := encStr) (m) ad A9 Z Z Z t (Sub.refl _) ?_)))
  intro bp aQ
  obtain rfl := QdM.1 aQ
  refine O Z Z (Zo (v := Value.string (ac)) Z Z (Zb (V (Zc (Zd (O Z Z (Zm (v := Value.map (some d)) Z p (O Z Z (Zm (v := Value.string (ac)) Z Z ?_)))))))))
  obtain ⟨l, aR, a⟩ := Zg a
  refine O Z Z (QhN (m.f1) ⟨Tryz.underlying181, Tryz.underlying9, Tryz.underlying3⟩ Z3 Z Z Z aR (O Z Z (Zm (v := Value.tuple #[U (l.1), Vb (l.2)]) Z Z (O Z Z (Exec.extract (v := U (l.1)) Z Z Z (O Z Z (Exec.extract (v := Vb (l.2)) Z Z Z (O Z Z (Zo (v := U (l.1)) Z Z (O Z Z (Zo (v := Vb (l.2)) Z Z (Zb (V (Zc (Zc (Zd (O Z Z (Zm (v := Vb (l.2)) Z Z (O Z Z (Exec.not Z Z (Zb (V ?_))))))))))))))))))))))
  obtain ⟨u, h, a⟩ := Zg a
  refine QJ (M := fun f' w' => (J2 fun (i : Int) (ag : QbZ) => ∃ (ak : PHeap) , PHeap.le ab ak ∧ St w0 ak (Res.arr encStr 9 g j :: Res.smap Tryz.prog 9 3 d ag :: Res.arr (Qa .i64) 3 b q :: H) w' ∧ f' 4 = Value.map (some d) ∧ f' 5 = b ∧ f' 8 = U i ∧ f' 11 = g ∧ f' 12 = U ((j.length : Int)) ∧ f' 13 = U ((af : Int))) u) ?_ ?_
  ·rcases Qg h with ⟨o, h⟩ | ⟨o, h⟩
   ·refine Qv Z o (Zc (Zd (O Z Z (Zm (v := Value.map (some d)) Z p (O Z Z (Qew (m.f1) ⟨Tryz.underlying181, Tryz.underlying9, Tryz.underlying3⟩ Z Z (O Z Z (Zo (v := U ((n.length : Int))) Z Z (Zb (V (Zd (O Z Z (Zm (v := Value.map (some d)) Z p (O Z Z (Zm (v := Value.string (ac)) Z Z (O Z Z (Zm (v := U ((n.length : Int))) Z Z ?_)))))))))))))))))
    obtain ⟨bn, aS, h⟩ := Zg h
    have aw := m.f1
    refine O Z Z (QhM aw ⟨Tryz.underlying181, Tryz.underlying9, Tryz.underlying3⟩ Z Z Z Z aS ?_)
    intro bs ax
    refine Zb (V ?_)
    have be := Zu h
    subst u
    have ay := ax.f2
    have az := ay.f1
    have a0 := az.f2
    exact ⟨ab, (Zv _), a0, p, ah, Z, z, aa, x⟩
   refine Qw Z o ?_
   replace o := Zk o
   refine Qp (V ?_)
   have bf := Zu h
   subst u
   have a1 := m.f2
   have a2 := a1.f2
   have a3 := a2.f2
   exact ⟨ab, (Zv _), a3, p, ah, Z, z, aa, x⟩
  intro bj bt aq
  obtain ⟨i, ag⟩ := u
  replace a := Jf a
  obtain ⟨aV, aF, a4, aH, aI, aJ, aK, aL, aM⟩ := aq
  refine (V (Zd (O Z Z (Zm (v := b) Z aI (O Z Z (Zm (v := U i) Z aJ (O Z Z (Exec.buildSlice (Te := 3) (cs := [U i]) a4 Z (Qb (c := [U i]) (Qi Z Z) Qx) (fun _ => by kernel_rfl) ?_))))))))
  intro bc bu a5
  obtain ⟨bm, aT, a⟩ := Zg a
  have a6 := a5.f3
  refine O Z Z (QR (E := (Qa .i64)) (ys := [i]) a6 Jt Z3 Z (by decide) Z Z Z Z ⟨[U i], [], Z, Z, Z⟩ Z aT ?_)
  intro am bv a7
  refine O Z Z (Zo (v := am) Z Z (Zb (Qz (V (Zd (O Z Z (Exec.add Z aM Z (O Z Z (Zm (v := U (IntKind.i64.wrap ((af : Int) + 1))) Z Z (Zb (V ?_)))))))))))
  have bg := Zu a
  subst aU
  have a8 := a7.f2
  have a9 := a8.f2
  exact ⟨aV, am, (Zt aE aF), a9, aH, Z, aK, aL, (Eq.trans Z (QB aD (y.f1).arr_le))⟩
 intro bk bw ap
 obtain ⟨q, n⟩ := aX
 replace hm := Jf hm
 obtain ⟨aW, b, aG, ae, aN, aO, bo, aP, aZ⟩ := ap
 refine Zc (Zd (O Z Z (Zq Z aZ aP (Zb (V (Zc (QA (Zx (decide_eq_false (by omega))) (QF (Ql (Ql (Q7 (V (Zc (Zd (O Z Z (Zm (v := b) Z aO (O Z Z (Zm (v := Value.map (some d)) Z aN (O Z Z (Qew (ae.f1) ⟨Tryz.underlying181, Tryz.underlying9, Tryz.underlying3⟩ Z Z (O Z Z (Zo (v := b) Z Z (O Z Z (Zo (v := U ((n.length : Int))) Z Z (Zb (V (Q1 ?_)))))))))))))))))))))))))))
 have bh := Zu hm
 subst r
 refine ⟨_, Qbu Z, ?_⟩
 have aA := (ae.f1).drop
 have aB := aA.f1
 have aC := aB.f1
 exact ⟨aW, b, aG, aC, (KX Z Z)⟩
theorem QjZ : Jb Tryz.prog 182 = some (183, 1, 24) := by kernel_rfl
theorem Qot : JA Tryz.prog 183 = some (Value.slice none 0 0) := by kernel_rfl
theorem Qml : JI Tryz.prog 183 = some (false, 1) := by kernel_rfl
theorem Qdx : Jb Tryz.prog 183 = some (184, 2, 16) := by kernel_rfl
theorem Qnj : JA Tryz.prog 184 = some (Value.agg #[U 0, U 0]) := by kernel_rfl
theorem Qdf {w0 w : World} {s : PHeap} {H : List Res} {a : Arr2_int} {b : Arr2_int} {r : Int} (hm : Yh a b = some r) (hS : St w0 s (H) w) :
  Calls Tryz.prog 132 #[Value.agg #[U (a.a0), U (a.a1)], Value.agg #[U (b.a0), U (b.a1)]] w fun e w' => ∃ v, e = .returned v ∧ ((fun (ac : Int) => ∃ (g : PHeap) , PHeap.le s g ∧ St w0 g (H) w' ∧ v = U ac) r) := by
 unfold Yh at hm
 refine Qy Tryz.func132 Z Z (Zc (Zd (O Z Z (Exec.box (cs := [U (a.a0), U (a.a1)]) hS Z Z Z ?_))))
 intro ae al h
 refine O Z Z (Exec.box (cs := [U (b.a0), U (b.a1)]) h Z Z Z ?_)
 intro af am i
 refine O Z Z (Zo (v := U 0) Z Z (Zb (V (Zc (K3 (n0 := 12) (.q 0 (.q 1 (.q 2 (.q 3 (.q 5 (.q 6 (.q 7 (.q 8 (.e 4 [5, 6, 7, 8] (.e 9 [] (.e 10 [] (.e 11 [] .done)))))))))))) K8 (by kernel_rfl) (by kernel_rfl) ?_)))))
 have d := i.drew
 refine Qh Z Z (JW Tryz.underlying184 A3 Z Z Z (by decide) Z ⟨Z, ?_⟩)
 refine Qh Z Z (Zn (d.f1) A3 Z Z Z ⟨Z, ?_⟩)
 refine Qh Z Z (JW Tryz.underlying184 A3 Z Z Z (by decide) Z ⟨Z, ?_⟩)
 refine Qh Z Z (Zn (d) A3 Z Z Z ⟨Z, ?_⟩)
 refine Qh Z Z (JW Tryz.underlying184 A3 Z Z Z (by decide) Z ⟨Z, ?_⟩)
 refine Qh Z Z (Zn (d.f1) A3 Z Z Z ⟨Z, ?_⟩)
 refine Qh Z Z (JW Tryz.underlying184 A3 Z Z Z (by decide) Z ⟨Z, ?_⟩)
 refine Qh Z Z (Zn (d) A3 Z Z Z ⟨Z, ?_⟩)
 refine JH Z Z (Exec.call Z Z Tryz.func119 Z Qib (Zi Z (Zi Z Qk)) ((J6 (Jr a.a0 b.a0) d).mono ?_))
 rintro _ an ⟨_, rfl, ⟨ai, t, f, rfl⟩⟩
 refine ⟨_, Z, ?_⟩
 refine ⟨(Qd (Q4 Z Z (JW Tryz.underlying184 A3 Z Z Z (by decide) Z ⟨Z, Z⟩)) (Qd (Q4 Z Z (Zn (f.f1) A3 Z Z Z ⟨Z, Z⟩)) (Qd (Q4 Z Z (JW Tryz.underlying184 A3 Z Z Z (by decide) Z ⟨Z, Z⟩)) (Qd (Q4 Z Z (Zn (f) A3 Z Z Z ⟨Z, Z⟩)) QY)))), ?_⟩
 refine JH Z Z (Exec.call Z Z Tryz.func119 Z Qib (Zi Z (Zi Z Qk)) ((J6 (Jr a.a1 b.a1) f).mono ?_))
 rintro _ ao ⟨_, rfl, ⟨aj, u, j, rfl⟩⟩
 refine ⟨_, Z, ?_⟩
 refine ⟨QY, ?_⟩
 refine JH Z Z (Exec.buildSlice (Te := 3) (cs := [U ((Qr a.a0 b.a0)), U ((Qr a.a1 b.a1))]) j Z (Qb (c := [U ((Qr a.a0 b.a0))]) (Qi Z Z) (Qb (c := [U ((Qr a.a1 b.a1))]) (Qi Z Z) Qx)) (fun _ => by kernel_rfl) ?_)
 intro ag ap k
 refine ⟨QY, ?_⟩
 have l := St.boxArr (E := (Qa .i64)) (xs := [(Qr a.a0 b.a0), (Qr a.a1 b.a1)]) k ⟨[U ((Qr a.a0 b.a0))], [U ((Qr a.a1 b.a1))], rfl, rfl, ⟨[U ((Qr a.a1 b.a1))], [], rfl, rfl, rfl⟩⟩ (by simp [maxLen])
 obtain ⟨ak, x, m, aa⟩ := l.freezeArr
 obtain ⟨ad, z, hm⟩ := Zg hm
 refine JH Z Z (Exec.call Z Z Tryz.func118 Z Qnp (Zi Z Qk) ((Qbk z m aa).mono ?_))
 rintro _ aq ⟨_, rfl, ⟨ab, y, n, rfl⟩⟩
 refine ⟨_, Z, ?_⟩
 refine ⟨QY, ?_⟩
 refine QC (O Z Z (Zo (v := U ad) Z Z (Zb (V (Q1 ?_)))))
 have ah := Zu hm
 subst r
 refine ⟨_, QX Z, ?_⟩
 have o := n.drop
 have p := o.drop
 exact ⟨ab, (Zt (Zt (Zt t u) x) y), p, Z⟩
theorem Qo6 : (Tryz.f131.name == "runtime.NumGoroutine") = false := by kernel_rfl
end Go.Pw
