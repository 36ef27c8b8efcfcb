/- -/
import Derived.Test.YtpjojkomdndamaaGreatDoorL27
import Derived.Test.YtpjojkomdndamaaGreatDoorMa6
import Derived.Test.YtpjojkomdndamaaGreatDoorMaX
set_option maxRecDepth 100000
set_option maxHeartbeats 4000000
set_option linter.unusedVariables false
namespace Go.Pw
open Go.Proofs
theorem QnI : Qcu Tryz.prog 85 3 = true := by kernel_rfl
theorem Qo3 : (Tryz.f138.name == "runtime.NumGoroutine") = false := by kernel_rfl
theorem Qfp {w0 w : World} {s : PHeap} {H : List Res} {ao : (List Edge)} {a : Value} {r : Nat × (List Edge)} (hm : QaP ao = some r) (hS : St w0 s (Res.arr encEdge 85 a ao :: H) w) :
  Calls Tryz.prog 138 #[a] w fun e w' => ∃ v, e = .returned v ∧ ((J2 fun (bC : Nat) (bq : (List Edge)) => ∃ (aQ : PHeap) (aW : Value), PHeap.le s aQ ∧ St w0 aQ (Res.arr encEdge 85 a bq :: H) w' ∧ v = aW ∧ SubOf 3 a aW 0 bC) r) := by
 unfold QaP at hm
 refine Qy Tryz.func138 Z Z (Zc (Zd (O Z Z (Zo (v := Vs none 0 0) Z Z (Zb (V (Zc (Zc (Zd (O Z Z (Zm (v := a) Z Z (O Z Z (QQ (hS) S35 Z Z (O Z Z (Zq Z Z Z (Zb (V ?_)))))))))))))))))
 rcases Qg hm with ⟨t, hm⟩ | ⟨t, hm⟩
 ·refine Qv Z t (Zc (Zd (O Z Z (Zm (v := a) Z Z (O Z Z (Zo (v := a) Z Z (Zb (V (Q1 (Qj ?_))))))))))
  have bJ := Zu hm
  subst r
  refine ⟨_, QX Z, ?_⟩
  exact ⟨s, a, (Zv _), hS, Z, (Or.inl ⟨Z, Z, hS.arr_shape⟩)⟩
 refine Qw Z t ?_
 replace t := Zk t
 refine Qp (V (Zc (Zc (Zd (O Z Z (Zo (v := U 1) Z Z (Zb (V ?_))))))))
 obtain ⟨a0, ba, bo, bl, bj⟩ := QO hm
 refine QJ (M := fun f' w' => ∃ s', (a0 = .next s' ∨ a0 = .brk s') ∧ (fun (aG : Int) => ∃ (aR : PHeap) , PHeap.le s aR ∧ St w0 aR (Res.arr encEdge 85 a ao :: H) w' ∧ f' 0 = a ∧ f' 3 = U aG) s') ?_ ?_
 ·refine Qm (Yy (fun s' f' w' => (fun (j : Int) => ∃ (aS : PHeap) , PHeap.le s aS ∧ St w0 aS (Res.arr encEdge 85 a ao :: H) w' ∧ f' 0 = a ∧ f' 3 = U j) s') ba ?_ ?_)
  ·exact ⟨s, (Zv _), hS, Z, Z⟩
  intro j aq bT cs bc b aF
  obtain ⟨ac, au, ar, m, n⟩ := bc
  refine Zc (Zc (Zd (O Z Z (Zm (v := U j) Z n (O Z Z (Zm (v := a) Z m (O Z Z (QQ (ar) S35 Z Z (O Z Z (Zq Z Z Z (Zb (V ?_))))))))))))
  rcases Qg b with ⟨u, b⟩ | ⟨u, b⟩
  ·refine Qv Z u (Qp (V (Zc (Qm (Zc (K3 (n0 := 10) (.q 0 (.q 1 (.q 2 (.q 3 (.q 4 (.q 5 (.q 6 (.q 7 (.q 8 (.q 9 .done)))))))))) K8 (by kernel_rfl) (by kernel_rfl) ?_))))))
   have l := ar.drew
   refine Qh Z Z (Zm (v := a) Z m ⟨Z, ?_⟩)
   refine Qh Z Z (Zm (v := U j) Z n ⟨Z, ?_⟩)
   obtain ⟨aw, ah, b⟩ := Zg b
   obtain ⟨bY, bD, a3⟩ := l.arr_at ah
   refine Qh Z Z (Qc S35 Z a3 Z (Qe ah).1 (Qe ah).2.1 ⟨Z, ?_⟩)
   refine Qh Z Z (Qt (F := encEdge) (l) a3 A85 Z Z Z ah (Sub.refl _) ?_)
   intro cm b0
   obtain rfl := JM.1 b0
   refine ⟨Z, ?_⟩
   refine Qh Z Z (Zm (v := a) Z m ⟨Z, ?_⟩)
   refine Qh Z Z (Zm (v := U j) Z n ⟨Z, ?_⟩)
   refine Qh Z Z (Exec.sub Z Z Z ⟨Z, ?_⟩)
   obtain ⟨ax, ai, b⟩ := Zg b
   obtain ⟨bZ, bE, a4⟩ := l.arr_at ai
   refine Qh Z Z (Qc S35 Z a4 Z (Qe ai).1 (Qe ai).2.1 ⟨Z, ?_⟩)
   refine Qh Z Z (Qt (F := encEdge) (l) a4 A85 Z Z Z ai (Sub.refl _) ?_)
   intro cn b1
   obtain rfl := JM.1 b1
   refine ⟨Z, ?_⟩
   refine Qh Z Z (QgN (xs := [aw.From, aw.Label, aw.To]) (ys := [ax.From, ax.Label, ax.To]) QnI Z Z Z Z Z Z Z ⟨Z, ?_⟩)
   refine QC (Zb (V ?_))
   rcases Qg b with ⟨x, b⟩ | ⟨x, b⟩
   ·refine Qv Z x (Zc (Zd (O Z Z (Zm (v := a) Z m (O Z Z (Zm (v := U j) Z n ?_))))))
    obtain ⟨cg, aj, b⟩ := Zg b
    refine O Z Z (KU (l) S35 Z Z Z aj ?_)
    intro k ad
    refine O Z Z (Zo (v := k) Z Z (Zb (V (Zc (Zc (Zd (O Z Z (Zo (v := U 1) Z Z (Zb (V ?_))))))))))
    obtain ⟨a1, bb, ce, bm, bk⟩ := QO b
    refine QJ (M := fun f' w' => ∃ s', (a1 = .next s' ∨ a1 = .brk s') ∧ (un3 fun (ae : Int) (aH : Int) (aJ : (List Edge)) => ∃ (aT : PHeap) , PHeap.le ac aT ∧ St w0 aT (Res.arr encEdge 85 a aJ :: H) w' ∧ f' 0 = a ∧ f' 3 = U ae ∧ f' 4 = k ∧ f' 5 = U aH) s') ?_ ?_
    ·refine Qm (Yy (fun s' f' w' => (un3 fun (ab : Int) (i : Int) (aK : (List Edge)) => ∃ (aU : PHeap) , PHeap.le ac aU ∧ St w0 aU (Res.arr encEdge 85 a aK :: H) w' ∧ f' 0 = a ∧ f' 3 = U ab ∧ f' 4 = k ∧ f' 5 = U i) s') bb ?_ ?_)
     ·exact ⟨ac, (Zv _), l, m, n, Z, Z⟩
     intro bA a2 bU ct bd c bp
     obtain ⟨ab, i, aK⟩ := bA
     replace c := Qbh c
     obtain ⟨an, aL, a9, af, ag, o, p⟩ := bd
     refine Zc (Zc (Zd (O Z Z (Zm (v := U i) Z p (O Z Z (Zm (v := k) Z o (O Z Z (Qay S35 ad Z Z (O Z Z (Zq Z Z Z (Zb (V ?_))))))))))))
     rcases Qg c with ⟨z, c⟩ | ⟨z, c⟩
     ·refine Qv Z z (Qp (V (Zc (Qm (Zc (K3 (n0 := 10) (.q 0 (.q 1 (.q 2 (.q 3 (.q 4 (.q 5 (.q 6 (.q 7 (.q 8 (.q 9 .done)))))))))) K8 (by kernel_rfl) (by kernel_rfl) ?_))))))
      have g := a9.drew
      refine Qh Z Z (Zm (v := k) Z o ⟨Z, ?_⟩)
      refine Qh Z Z (Zm (v := U i) Z p ⟨Z, ?_⟩)
      obtain ⟨ay, ak, c⟩ := Zg c
      obtain ⟨ca, bF, a5⟩ := g.arr_at (QU ak).2.2
      refine Qh Z Z (JR S35 (KI aj).1 ad a5 Z Z Z (QU ak).1 (QU ak).2.1 ⟨Z, ?_⟩)
      refine Qh Z Z (Qt (F := encEdge) (g) a5 A85 Z Z Z (QU ak).2.2 (Sub.refl _) ?_)
      intro co b2
      obtain rfl := JM.1 b2
      refine ⟨Z, ?_⟩
      refine Qh Z Z (Zm (v := k) Z o ⟨Z, ?_⟩)
      refine Qh Z Z (Zm (v := U i) Z p ⟨Z, ?_⟩)
      refine Qh Z Z (Exec.sub Z Z Z ⟨Z, ?_⟩)
      obtain ⟨az, al, c⟩ := Zg c
      obtain ⟨cb, bG, a6⟩ := g.arr_at (QU al).2.2
      refine Qh Z Z (JR S35 (KI aj).1 ad a6 Z Z Z (QU al).1 (QU al).2.1 ⟨Z, ?_⟩)
      refine Qh Z Z (Qt (F := encEdge) (g) a6 A85 Z Z Z (QU al).2.2 (Sub.refl _) ?_)
      intro cp b3
      obtain rfl := JM.1 b3
      refine ⟨Z, ?_⟩
      refine Qh Z Z (QgM (xs := [ay.From, ay.Label, ay.To]) (ys := [az.From, az.Label, az.To]) QnI Z Z Z Z Z Z Z ⟨Z, ?_⟩)
      refine QC (Zb (V ?_))
      obtain ⟨ap, d, c⟩ := Zg c
      refine QJ (M := fun f' w' => (J2 fun (aI : Int) (aM : (List Edge)) => ∃ (aV : PHeap) , PHeap.le an aV ∧ St w0 aV (Res.arr encEdge 85 a aM :: H) w' ∧ f' 0 = a ∧ f' 3 = U aI ∧ f' 4 = k ∧ f' 5 = U i) ap) ?_ ?_
      ·rcases Qg d with ⟨aa, d⟩ | ⟨aa, d⟩
       ·refine Qv Z aa (Zc (Zd (O Z Z (Zm (v := a) Z af (O Z Z (Zm (v := U ab) Z ag (O Z Z (Zm (v := k) Z o (O Z Z (Zm (v := U i) Z p ?_))))))))))
        obtain ⟨cz, am, d⟩ := Zg d
        obtain ⟨cc, bH, a7⟩ := g.arr_at (QU am).2.2
        refine O Z Z (JR S35 (KI aj).1 ad a7 Z Z Z (QU am).1 (QU am).2.1 (O Z Z (Qt (F := encEdge) (g) a7 A85 Z Z Z (QU am).2.2 (Sub.refl _) ?_)))
        intro cq b4
        obtain rfl := JM.1 b4
        obtain ⟨c0, av, d⟩ := Zg d
        obtain ⟨cd, bI, a8⟩ := g.arr_at av
        refine O Z Z (Qc S35 Z a8 Z (Qe av).1 (Qe av).2.1 ?_)
        obtain ⟨cf, b5, d⟩ := Zg d
        refine O Z Z (QN g a8 A85 Z Z Z Z (JM.2 Z) b5 ?_)
        intro cu bh
        refine Zb (V (Zd (O Z Z (Zm (v := U ab) Z ag (O Z Z (Exec.add Z Z Z (O Z Z (Zo (v := U (IntKind.i64.wrap (ab + 1))) Z Z (Zb (V ?_))))))))))
        have bK := Zu d
        subst ap
        exact ⟨an, (Zv _), bh, af, Z, o, p⟩
       refine Qw Z aa ?_
       replace aa := Zk aa
       refine Qp (V ?_)
       have bL := Zu d
       subst ap
       exact ⟨an, (Zv _), g, af, ag, o, p⟩
      intro bV cv be
      obtain ⟨aI, aM⟩ := ap
      replace c := Jf c
      obtain ⟨b7, br, bi, bu, bv, bw, bx⟩ := be
      refine (Qz (V (Zd (O Z Z (Zm (v := U i) Z bx (O Z Z (Exec.add Z Z Z (O Z Z (Zo (v := U (IntKind.i64.wrap (i + 1))) Z Z (Zb (V ?_)))))))))))
      have bM := Zu c
      subst a2
      refine ⟨_, Z, ?_⟩; exact ⟨b7, (Zt aL br), bi, bu, bv, bw, Z⟩
     refine Qw Z z ?_
     replace z := Zk z
     refine QF (Ql (Ql (Q7 (V ?_))))
     have bN := Zu c
     subst a2
     refine ⟨_, .inr (bp (by intro _ h; cases h)), ?_⟩; exact ⟨an, aL, a9, af, ag, o, p⟩
    rintro bW cw ⟨bB, aD, bf⟩
    have b := aD.elim (bm _) (bk _)
    clear aD
    obtain ⟨ae, aH, aJ⟩ := bB
    replace b := Qbh b
    obtain ⟨b8, bs, aA, aN, aO, cj, ck⟩ := bf
    refine (V (Zc (Zd (O Z Z (Zm (v := a) Z aN (O Z Z (Zm (v := U ae) Z aO ?_)))))))
    obtain ⟨ch, aP, b⟩ := Zg b
    refine O Z Z (KU (aA) S35 Z Z Z aP ?_)
    intro cr aY
    refine O Z Z (Qa2 (E := encEdge) (y := (⟨0, 0, 0⟩ : Edge)) aA aY (KI aP).2.2.2.2.2 S35 Z85 ⟨[U 0], [U 0, U 0], Z, Z, ⟨[U 0], [U 0], Z, Z, Z⟩⟩ Z Z ?_)
    intro cx aB
    refine Zb (V (Zc (Zd (O Z Z (Zm (v := a) Z aN (O Z Z (Zm (v := U ae) Z aO ?_)))))))
    obtain ⟨ci, b6, b⟩ := Zg b
    refine O Z Z (QbV (aB) S35 Z Z Z b6 ?_)
    intro aX aZ
    refine O Z Z (Zo (v := aX) Z Z (Zb (V (Q1 (QD (Qj (Qj (QD (Qj (Qj ?_))))))))))
    have bO := Zu b
    subst aq
    have bn := bo _ (aF (by intro _ h; cases h))
    have bP := Zu bn
    subst r
    refine ⟨_, QX Z, ?_⟩
    exact ⟨b8, aX, (Zt au bs), aB, Z, aZ⟩
   refine Qw Z x ?_
   replace x := Zk x
   refine Qp (Qz (V (Zd (O Z Z (Zm (v := U j) Z n (O Z Z (Exec.add Z Z Z (O Z Z (Zo (v := U (IntKind.i64.wrap (j + 1))) Z Z (Zb (V ?_)))))))))))
   have bQ := Zu b
   subst aq
   refine ⟨_, Z, ?_⟩; exact ⟨ac, au, l, m, Z⟩
  refine Qw Z u ?_
  replace u := Zk u
  refine QF (Ql (Ql (Q7 (V ?_))))
  have bR := Zu b
  subst aq
  refine ⟨_, .inr (aF (by intro _ h; cases h)), ?_⟩; exact ⟨ac, au, ar, m, n⟩
 rintro bX cy ⟨aG, aE, bg⟩
 have hm := aE.elim (bl _) (bj _)
 clear aE
 obtain ⟨b9, bt, aC, bz, cl⟩ := bg
 refine (V (Zc (Zd (O Z Z (Zm (v := a) Z bz (O Z Z (Zo (v := a) Z Z (Zb (V (Q1 ?_))))))))))
 have bS := Zu hm
 subst r
 refine ⟨_, QX Z, ?_⟩
 exact ⟨b9, a, bt, aC, Z, (Or.inl ⟨Z, Z, aC.arr_shape⟩)⟩
theorem QoA : (Tryz.f116.name == "runtime.NumGoroutine") = false := by kernel_rfl
theorem QdP {w0 w : World} {s : PHeap} {H : List Res} {b : (List Edge)} {a : Value} {r : (List Edge)} (hm : Ya b = some r) (hS : St w0 s (Res.arr encEdge 85 a b :: H) w) :
  Calls Tryz.prog 116 #[a] w fun e w' => ∃ v, e = .returned v ∧ ((fun (j : (List Edge)) => ∃ (c : PHeap) (d : Value), PHeap.le s c ∧ St w0 c (Res.arr encEdge 85 d j :: H) w' ∧ v = d) r) := by
 unfold Ya at hm
 refine Qy Tryz.func116 Z Z (Zc (Zd (O Z Z (Zo (v := Vs none 0 0) Z Z (Zb (V (Zc (Zd (O Z Z (Zm (v := a) Z Z ?_))))))))))
 obtain ⟨x, m, hm⟩ := Zg hm
 refine O Z Z (Exec.call Z Z Tryz.func87 Z N87 (Zi Z (Zi Z Qk)) ((QgA m hS).mono ?_))
 rintro _ ab ⟨_, rfl, ⟨z, k, g, rfl⟩⟩
 refine ⟨_, Z, ?_⟩
 refine Zb (V (Zc (Zd (O Z Z (Zm (v := a) Z Z ?_)))))
 obtain ⟨t, n, hm⟩ := Zg hm
 obtain ⟨ad, y⟩ := t
 replace hm := Jf hm
 refine O Z Z (Exec.call Z Z Tryz.func138 Z Qo3 (Zi Z Qk) ((Qfp n g).mono ?_))
 rintro _ ac ⟨f, rfl, ⟨q, _, l, h, rfl, p⟩⟩
 refine ⟨_, Z, ?_⟩
 obtain ⟨aa, o, hm⟩ := Zg hm
 have i := h.arr_head p (by simpa using QT o)
 refine O Z Z (Zo (v := f) Z Z (Zb (V (Q1 ?_))))
 have u := Zu hm
 subst r
 refine ⟨_, QX Z, ?_⟩
 exact ⟨q, f, (Zt k l), i, Z⟩
theorem N85 : (Tryz.f85.name == "runtime.NumGoroutine") = false := by kernel_rfl
theorem QcM {w0 w : World} {s : PHeap} {H : List Res} {m : System} {aj : (List Int)} {am : Value} {ah : Value} {ad : Value} {g : Value} {r : (Option Int) × System} (hm : K2 m aj = some r) (hS : St w0 s (Res.arr (Qa .i64) 3 g aj :: H) w) (a0 : SliceRep (Qa .i64) s am m.Costs) (aR : SliceRep encEdge s ah m.Edges) (aS : SliceRep encBool s ad m.Goals) :
  Calls Tryz.prog 85 #[Value.agg #[U (m.States), U (m.Init), am, ah, ad], g] w fun e w' => ∃ v, e = .returned v ∧ ((J2 fun (fp : (Option Int)) (aO : System) => ∃ (aG : PHeap) (cg : Value) (ch : Value) (ci : Value), PHeap.le s aG ∧ St w0 aG (Res.arr (Qa .i64) 3 g aj :: H) w' ∧ v = Value.tuple #[Value.agg #[U (aO.States), U (aO.Init), cg, ch, ci], QG 50 (fp)] ∧ SliceRep (Qa .i64) aG cg aO.Costs ∧ SliceRep encEdge aG ch aO.Edges ∧ SliceRep encBool aG ci aO.Goals) r) := by
 unfold K2 at hm
 refine Qy Tryz.func85 Z Z (Zc (Zd (O Z Z (Exec.box (cs := [U (m.States), U (m.Init), am, ah, ad]) hS Z Z Z ?_))))
 intro ai gs cz
 refine O Z Z (Exec.alloc (cs := [U 0, U 0, Vs none 0 0, Vs none 0 0, Vs none 0 0]) cz Z38 Z Z ?_)
 intro ab gu b7
 refine O Z Z (Zo (v := QG 50 (none)) Z Z (Zb (V (Zc (Zd (O Z Z (Zm (v := g) Z Z (O Z Z (Zp JL Z Z Z (O Z Z (Zn (b7.f1) A3 Z Z Z ?_)))))))))))
 obtain ⟨fl, eI, hm⟩ := Zg hm
 obtain ⟨a, aP⟩ := fl
 replace hm := Jf hm
 have c0 := b7.f2
 refine O Z Z (Exec.call Z Z Tryz.func115 Z QoB (Zi Z (Zi Z Qk)) ((Qdg eI c0).mono ?_))
 rintro _ gv ⟨_, rfl, ⟨fb, n, b8, rfl⟩⟩
 refine ⟨_, Z, ?_⟩
 refine O Z Z (Zm (v := Value.tuple #[U a, Vb aP]) Z Z (O Z Z (Exec.extract (v := U a) Z Z Z (O Z Z (Exec.extract (v := Vb aP) Z Z Z (O Z Z (Zo (v := U a) Z Z (O Z Z (Zo (v := Vb aP) Z Z (Zb (V (Zc (Zc ?_)))))))))))))
 obtain ⟨aQ, av, hm⟩ := Zg hm
 refine QJ (M := fun f' w' => (fun (aQ : Bool) => ∃ (bW : PHeap) , PHeap.le fb bW ∧ St w0 bW (Res.arr (Qa .i64) 3 g aj :: Res.box ai 38 [U (m.States), U (m.Init), am, ah, ad] :: Res.box ab 38 [U 0, U 0, Vs none 0 0, Vs none 0 0, Vs none 0 0] :: H) w' ∧ f' 1 = g ∧ f' 2 = Vp (some ⟨ai, 0, none⟩) ∧ f' 4 = Vp (some ⟨ab, 0, none⟩) ∧ f' 6 = U a ∧ f' 26 = Vb aQ) aQ) ?_ ?_
 ·refine Zd (O Z Z (Qn (ds := [U (m.States), U (m.Init), am, ah, ad]) (b8.f2) KH Z Z Z ?_))
  obtain ⟨fq, eJ, av⟩ := Zg av
  refine O Z Z (Exec.call Z Z Tryz.func60 Z N60 (Zi Z Qk) ((KM eJ b8 (a0.mono n) (aR.mono n) (aS.mono n)).mono ?_))
  rintro _ gw ⟨_, rfl, ⟨bX, bK, b9, rfl⟩⟩
  refine ⟨_, Z, ?_⟩
  refine O Z Z (Exec.not Z Z (O Z Z (Zm (v := Vb (!fq)) Z Z ?_)))
  rcases Qg av with ⟨ar, av⟩ | ⟨ar, av⟩
  ·refine Q0 3 (by rw [ar]; rfl) ?_
   refine Zb (V ?_)
   have f9 := Zu av
   subst aQ
   have c1 := b9.f1
   have c2 := c1.f2
   have c3 := c2.f2
   exact ⟨bX, bK, c3, Z, Z, Z, Z, Z⟩
  replace ar := Zk ar
  refine Qo Z (Zf Z (Zx ar)) Z (Zm (v := Vb aP) Z Z (Qo Z (Zf Z (Zx ar)) Z (Exec.not Z Z (O Z Z (Q5 (v := Vb (!aP)) Z (Zx ar) Z (Zb (V ?_)))))))
  have fA := Zu av
  subst aQ
  have c4 := b9.f1
  have c5 := c4.f2
  have c6 := c5.f2
  exact ⟨bX, bK, c6, Z, Z, Z, Z, Z⟩
 intro fH gx cw
 obtain ⟨bY, x, bA, j, i, ak, l, bP⟩ := cw
 refine (V ?_)
 rcases Qg hm with ⟨aB, hm⟩ | ⟨aB, hm⟩
 ·refine Qv bP aB (Zc (Zd (O Z Z (Exec.build Z Qx (v := Value.agg #[U 0, U 0, Vs none 0 0, Vs none 0 0, Vs none 0 0]) (fun _ => by kernel_rfl) (O Z Z (Exec.makeInterface C50 Z Z ?_))))))
  have c7 := bA.f2
  refine O Z Z (Qf (ds := [U 0, U 0, Vs none 0 0, Vs none 0 0, Vs none 0 0]) (es := [U 0, U 0, Vs none 0 0, Vs none 0 0, Vs none 0 0]) c7 KH Z ak Z Z (Zj Z (Zj Z (Zj Z (Zj Z (Zj Z Q6))))) (Nat.le_of_ble_eq_true Z) Z ?_)
  intro gy bB
  refine O Z Z (Zo (v := QG 50 (some 2)) Z Z (Zb (V (Q1 (Qj ?_)))))
  have fB := Zu hm
  subst r
  refine ⟨_, Qak Z ⟨_, _, ak, JY (bB) KH⟩ Z, ?_⟩
  have c8 := bB.drop
  have c9 := (c8.f1).drop
  exact ⟨bY, (Vs none 0 0), (Vs none 0 0), (Vs none 0 0), (Zt n x), c9, (KX Z Z), (SliceRep.nil _ _), (SliceRep.nil _ _), (SliceRep.nil _ _)⟩
 refine Qw bP aB ?_
 replace aB := Zk aB
 refine Qp (V (Zc ?_))
 obtain ⟨d, b, hm⟩ := Zg hm
 obtain ⟨bf, aE, hm⟩ := Zg hm
 obtain ⟨er, aF, hm⟩ := Zg hm
 refine QJ (M := fun f' w' => ∃ (bZ : PHeap) (ae : Nat) (o : Value) (p : Value), PHeap.le bY bZ ∧ St w0 bZ (Res.arr (Qa .i64) 3 g aj :: Res.box ai 38 [U (m.States), U (m.Init), am, ah, ad] :: Res.box ab 38 [U 0, U 0, Vs none 0 0, Vs none 0 0, Vs none 0 0] :: Res.box ae 38 [U a, U d, o, Vs none 0 0, p] :: Res.arr (Qa .i64) 3 o bf :: Res.arr encBool 4 p er :: H) w' ∧ f' 1 = g ∧ f' 2 = Vp (some ⟨ai, 0, none⟩) ∧ f' 4 = Vp (some ⟨ab, 0, none⟩) ∧ f' 8 = Vp (some ⟨ae, 0, none⟩)) ?_ ?_
 ·refine K3 (n0 := 13) (.q 0 (.q 1 (.q 2 (.q 3 (.q 4 (.q 5 (.q 6 (.q 7 (.q 9 (.alt (.e 8 [0, 1, 2, 3, 4, 5, 9] (.alt (.e 10 [0, 1, 2, 3, 4, 5] (.q 11 (.e 12 [0, 1, 2, 3, 4, 5, 11] .done))) (.e 12 [0, 1, 2, 3, 4, 5, 9] (.e 10 [0, 1, 2, 3, 4, 5] (.q 11 .done))))) (.alt (.e 10 [0, 1, 2, 3, 4, 5, 6, 7] (.alt (.e 8 [0, 1, 2, 3, 4, 5] (.q 11 (.e 12 [0, 1, 2, 3, 4, 5, 11] .done))) (.e 12 [0, 1, 2, 3, 4, 5, 6, 7] (.e 8 [0, 1, 2, 3, 4, 5] (.q 11 .done))))) (.e 12 [0, 1, 2, 3, 4, 5, 6, 7, 9] (.alt (.e 8 [0, 1, 2, 3, 4, 5, 9] (.e 10 [0, 1, 2, 3, 4, 5] (.q 11 .done))) (.e 10 [0, 1, 2, 3, 4, 5, 6, 7] (.e 8 [0, 1, 2, 3, 4, 5] (.q 11 .done)))))))))))))))) K8 (by kernel_rfl) (by kernel_rfl) ?_
  have ao := bA.drew
  refine Qh Z Z (Zm (v := U a) Z l ⟨Z, ?_⟩)
  refine Qh Z Z (Zm (v := g) Z j ⟨Z, ?_⟩)
  refine Qh Z Z (Zp KW Z i Z ⟨Z, ?_⟩)
  refine Qh Z Z (Zn (ao.f1) A3 Z Z Z ⟨Z, ?_⟩)
  obtain ⟨fO, fv, h⟩ := ao.arr_at b
  refine Qh Z Z (Qc Jt Z h Z (Qe b).1 (Qe b).2.1 ⟨Z, ?_⟩)
  refine Qh Z Z (Qt (F := (Qa .i64)) (ao) h A3 Z Z Z b (Sub.refl _) ?_)
  intro gk eK
  obtain rfl := Qs.1 eK
  refine ⟨Z, ?_⟩
  refine Qh Z Z (Zp QaQ Z i Z ⟨Z, ?_⟩)
  refine Qh Z Z (Zn (ao.f1) A22 Z Z Z ⟨Z, ?_⟩)
  refine Qh Z Z (Zm (v := U a) Z l ⟨Z, ?_⟩)
  refine QeC ?_ ?_
  ·refine JH Z Z (Exec.call Z Z Tryz.func36 Z N36 (Zi Z Qk) ((Jc aE ao (a0.mono (Zt n x))).mono ?_))
   rintro _ gz ⟨z, rfl, ⟨ca, _, bL, aT, rfl⟩⟩
   refine ⟨_, Z, ?_⟩
   refine ⟨(Qd (Q4 Z Z (Zm (v := U a) Z l ⟨Z, Z⟩)) (Qd (Q4 Z Z (Zm (v := g) Z j ⟨Z, Z⟩)) (Qd (Q4 Z Z (Zp KW Z i Z ⟨Z, Z⟩)) (Qd (Q4 Z Z (Zn (aT.f2) A3 Z Z Z ⟨Z, Z⟩)) (Qd (Q4 Z Z (Qc Jt Z h Z (Qe b).1 (Qe b).2.1 ⟨Z, Z⟩)) (Qd (Q4 Z Z (Qt (F := (Qa .i64)) (aT.f1) h A3 Z Z Z b (Sub.refl _) (fun _ q => ⟨Z, Qs.1 q⟩))) (Qd (Q4 Z Z (Zm (v := U a) Z l ⟨Z, Z⟩)) QY))))))), ?_⟩
   refine QeC ?_ ?_
   ·refine JH Z Z (JX (E := encBool) aT S36 Z4 Z Z Z Z aF ?_)
    intro ax g0 a3
    refine ⟨(Qd (Q4 Z Z (Zm (v := U a) Z l ⟨Z, Z⟩)) (Qd (Q4 Z Z (Zm (v := g) Z j ⟨Z, Z⟩)) (Qd (Q4 Z Z (Zp KW Z i Z ⟨Z, Z⟩)) (Qd (Q4 Z Z (Zn (a3.f3) A3 Z Z Z ⟨Z, Z⟩)) (Qd (Q4 Z Z (Qc Jt Z h Z (Qe b).1 (Qe b).2.1 ⟨Z, Z⟩)) (Qd (Q4 Z Z (Qt (F := (Qa .i64)) (a3.f2) h A3 Z Z Z b (Sub.refl _) (fun _ q => ⟨Z, Qs.1 q⟩))) QY)))))), ?_⟩
    refine Qh Z Z (Exec.build Z (Qb (c := [U a]) (Qi Z Z) (Qb (c := [U d]) (Qi Z Z) (Qb (c := [z]) (Qi Z (QV (a3.f1).arr_one)) (Qb (c := [ax]) (Qi Z (QV a3.arr_one)) Qx)))) (v := Value.agg #[U a, U d, z, Vs none 0 0, ax]) (fun _ => by kernel_rfl) ⟨Z, ?_⟩)
    refine JH Z Z (Exec.alloc (cs := [U 0, U 0, Vs none 0 0, Vs none 0 0, Vs none 0 0]) a3 Z38 Z Z ?_)
    intro cl g1 ap
    refine ⟨(Qd (Q4 Z Z (Zm (v := U a) Z l ⟨Z, Z⟩)) (Qd (Q4 Z Z (Zm (v := g) Z j ⟨Z, Z⟩)) (Qd (Q4 Z Z (Zp KW Z i Z ⟨Z, Z⟩)) (Qd (Q4 Z Z (Zn (ap.f4) A3 Z Z Z ⟨Z, Z⟩)) (Qd (Q4 Z Z (Qc Jt Z h Z (Qe b).1 (Qe b).2.1 ⟨Z, Z⟩)) (Qd (Q4 Z Z (Qt (F := (Qa .i64)) (ap.f3) h A3 Z Z Z b (Sub.refl _) (fun _ q => ⟨Z, Qs.1 q⟩))) (Qd (Q4 Z Z (Exec.build Z (Qb (c := [U a]) (Qi Z Z) (Qb (c := [U d]) (Qi Z Z) (Qb (c := [z]) (Qi Z (QV (ap.f2).arr_one)) (Qb (c := [ax]) (Qi Z (QV (ap.f1).arr_one)) Qx)))) (v := Value.agg #[U a, U d, z, Vs none 0 0, ax]) (fun _ => by kernel_rfl) ⟨Z, Z⟩)) QY))))))), ?_⟩
    refine QC (O Z Z (Qf (ds := [U a, U d, z, Vs none 0 0, ax]) (es := [U a, U d, z, Vs none 0 0, ax]) ap KH Z Z Z Z (Zj Z (Zj Z (Zj (ap.f2).arr_one (Zj Z (Zj (ap.f1).arr_one Q6))))) (Nat.le_of_ble_eq_true Z) Z ?_))
    intro g2 cA
    refine Zb (V ?_)
    have cB := cA.f1
    have cC := cB.f2
    have cD := cC.f2
    have cE := cD.f5
    have cF := cE.f5
    have cG := cF.f5
    exact ⟨ca, cl, z, ax, bL, cG, j, i, ak, Z⟩
   refine JH Z Z (Exec.alloc (cs := [U 0, U 0, Vs none 0 0, Vs none 0 0, Vs none 0 0]) aT Z38 Z Z ?_)
   intro cm g3 bg
   refine ⟨(Qd (Q4 Z Z (Zm (v := U a) Z l ⟨Z, Z⟩)) (Qd (Q4 Z Z (Zm (v := g) Z j ⟨Z, Z⟩)) (Qd (Q4 Z Z (Zp KW Z i Z ⟨Z, Z⟩)) (Qd (Q4 Z Z (Zn (bg.f3) A3 Z Z Z ⟨Z, Z⟩)) (Qd (Q4 Z Z (Qc Jt Z h Z (Qe b).1 (Qe b).2.1 ⟨Z, Z⟩)) (Qd (Q4 Z Z (Qt (F := (Qa .i64)) (bg.f2) h A3 Z Z Z b (Sub.refl _) (fun _ q => ⟨Z, Qs.1 q⟩))) (Qd (Q4 Z Z (Zm (v := U a) Z l ⟨Z, Z⟩)) QY))))))), ?_⟩
   refine JH Z Z (JX (E := encBool) bg S36 Z4 Z Z Z Z aF ?_)
   intro aH g4 a4
   refine ⟨(Qd (Q4 Z Z (Zm (v := U a) Z l ⟨Z, Z⟩)) (Qd (Q4 Z Z (Zm (v := g) Z j ⟨Z, Z⟩)) (Qd (Q4 Z Z (Zp KW Z i Z ⟨Z, Z⟩)) (Qd (Q4 Z Z (Zn (a4.f4) A3 Z Z Z ⟨Z, Z⟩)) (Qd (Q4 Z Z (Qc Jt Z h Z (Qe b).1 (Qe b).2.1 ⟨Z, Z⟩)) (Qd (Q4 Z Z (Qt (F := (Qa .i64)) (a4.f3) h A3 Z Z Z b (Sub.refl _) (fun _ q => ⟨Z, Qs.1 q⟩))) QY)))))), ?_⟩
   refine Qh Z Z (Exec.build Z (Qb (c := [U a]) (Qi Z Z) (Qb (c := [U d]) (Qi Z Z) (Qb (c := [z]) (Qi Z (QV (a4.f2).arr_one)) (Qb (c := [aH]) (Qi Z (QV a4.arr_one)) Qx)))) (v := Value.agg #[U a, U d, z, Vs none 0 0, aH]) (fun _ => by kernel_rfl) ⟨Z, ?_⟩)
   refine QC ?_
   have bh := a4.f1
   refine O Z Z (Qf (ds := [U a, U d, z, Vs none 0 0, aH]) (es := [U a, U d, z, Vs none 0 0, aH]) bh KH Z Z Z Z (Zj Z (Zj Z (Zj (bh.f2).arr_one (Zj Z (Zj (bh.f1).arr_one Q6))))) (Nat.le_of_ble_eq_true Z) Z ?_)
   intro g5 cH
   refine Zb (V ?_)
   have cI := cH.f1
   have cJ := cI.f2
   have cK := cJ.f2
   have cL := cK.f5
   have cM := cL.f5
   have cN := cM.f5
   exact ⟨ca, cm, z, aH, bL, cN, j, i, ak, Z⟩
  refine QeC ?_ ?_
  ·refine JH Z Z (JX (E := encBool) ao S36 Z4 Z Z Z Z aF ?_)
   intro aa g6 a5
   refine ⟨(Qd (Q4 Z Z (Zm (v := U a) Z l ⟨Z, Z⟩)) (Qd (Q4 Z Z (Zm (v := g) Z j ⟨Z, Z⟩)) (Qd (Q4 Z Z (Zp KW Z i Z ⟨Z, Z⟩)) (Qd (Q4 Z Z (Zn (a5.f2) A3 Z Z Z ⟨Z, Z⟩)) (Qd (Q4 Z Z (Qc Jt Z h Z (Qe b).1 (Qe b).2.1 ⟨Z, Z⟩)) (Qd (Q4 Z Z (Qt (F := (Qa .i64)) (a5.f1) h A3 Z Z Z b (Sub.refl _) (fun _ q => ⟨Z, Qs.1 q⟩))) (Qd (Q4 Z Z (Zp QaQ Z i Z ⟨Z, Z⟩)) (Qd (Q4 Z Z (Zn (a5.f2) A22 Z Z Z ⟨Z, Z⟩)) QY)))))))), ?_⟩
   refine QeC ?_ ?_
   ·refine JH Z Z (Exec.call Z Z Tryz.func36 Z N36 (Zi Z Qk) ((Jc aE a5 (a0.mono (Zt n x))).mono ?_))
    rintro _ g7 ⟨ay, rfl, ⟨fc, _, et, a6, rfl⟩⟩
    refine ⟨_, Z, ?_⟩
    refine ⟨(Qd (Q4 Z Z (Zm (v := U a) Z l ⟨Z, Z⟩)) (Qd (Q4 Z Z (Zm (v := g) Z j ⟨Z, Z⟩)) (Qd (Q4 Z Z (Zp KW Z i Z ⟨Z, Z⟩)) (Qd (Q4 Z Z (Zn (a6.f3) A3 Z Z Z ⟨Z, Z⟩)) (Qd (Q4 Z Z (Qc Jt Z h Z (Qe b).1 (Qe b).2.1 ⟨Z, Z⟩)) (Qd (Q4 Z Z (Qt (F := (Qa .i64)) (a6.f2) h A3 Z Z Z b (Sub.refl _) (fun _ q => ⟨Z, Qs.1 q⟩))) QY)))))), ?_⟩
    refine Qh Z Z (Exec.build Z (Qb (c := [U a]) (Qi Z Z) (Qb (c := [U d]) (Qi Z Z) (Qb (c := [ay]) (Qi Z (QV a6.arr_one)) (Qb (c := [aa]) (Qi Z (QV (a6.f1).arr_one)) Qx)))) (v := Value.agg #[U a, U d, ay, Vs none 0 0, aa]) (fun _ => by kernel_rfl) ⟨Z, ?_⟩)
    refine JH Z Z (Exec.alloc (cs := [U 0, U 0, Vs none 0 0, Vs none 0 0, Vs none 0 0]) a6 Z38 Z Z ?_)
    intro cn g8 aq
    refine ⟨(Qd (Q4 Z Z (Zm (v := U a) Z l ⟨Z, Z⟩)) (Qd (Q4 Z Z (Zm (v := g) Z j ⟨Z, Z⟩)) (Qd (Q4 Z Z (Zp KW Z i Z ⟨Z, Z⟩)) (Qd (Q4 Z Z (Zn (aq.f4) A3 Z Z Z ⟨Z, Z⟩)) (Qd (Q4 Z Z (Qc Jt Z h Z (Qe b).1 (Qe b).2.1 ⟨Z, Z⟩)) (Qd (Q4 Z Z (Qt (F := (Qa .i64)) (aq.f3) h A3 Z Z Z b (Sub.refl _) (fun _ q => ⟨Z, Qs.1 q⟩))) (Qd (Q4 Z Z (Exec.build Z (Qb (c := [U a]) (Qi Z Z) (Qb (c := [U d]) (Qi Z Z) (Qb (c := [ay]) (Qi Z (QV (aq.f1).arr_one)) (Qb (c := [aa]) (Qi Z (QV (aq.f2).arr_one)) Qx)))) (v := Value.agg #[U a, U d, ay, Vs none 0 0, aa]) (fun _ => by kernel_rfl) ⟨Z, Z⟩)) QY))))))), ?_⟩
    refine QC (O Z Z (Qf (ds := [U a, U d, ay, Vs none 0 0, aa]) (es := [U a, U d, ay, Vs none 0 0, aa]) aq KH Z Z Z Z (Zj Z (Zj Z (Zj (aq.f1).arr_one (Zj Z (Zj (aq.f2).arr_one Q6))))) (Nat.le_of_ble_eq_true Z) Z ?_))
    intro g9 cO
    refine Zb (V ?_)
    have cP := cO.f2
    have cQ := cP.f2
    have cR := cQ.f2
    have cS := cR.f5
    have cT := cS.f5
    have cU := cT.f5
    exact ⟨fc, cn, ay, aa, et, cU, j, i, ak, Z⟩
   refine JH Z Z (Exec.alloc (cs := [U 0, U 0, Vs none 0 0, Vs none 0 0, Vs none 0 0]) a5 Z38 Z Z ?_)
   intro co gA aU
   refine ⟨(Qd (Q4 Z Z (Zm (v := U a) Z l ⟨Z, Z⟩)) (Qd (Q4 Z Z (Zm (v := g) Z j ⟨Z, Z⟩)) (Qd (Q4 Z Z (Zp KW Z i Z ⟨Z, Z⟩)) (Qd (Q4 Z Z (Zn (aU.f3) A3 Z Z Z ⟨Z, Z⟩)) (Qd (Q4 Z Z (Qc Jt Z h Z (Qe b).1 (Qe b).2.1 ⟨Z, Z⟩)) (Qd (Q4 Z Z (Qt (F := (Qa .i64)) (aU.f2) h A3 Z Z Z b (Sub.refl _) (fun _ q => ⟨Z, Qs.1 q⟩))) (Qd (Q4 Z Z (Zp QaQ Z i Z ⟨Z, Z⟩)) (Qd (Q4 Z Z (Zn (aU.f3) A22 Z Z Z ⟨Z, Z⟩)) QY)))))))), ?_⟩
   refine JH Z Z (Exec.call Z Z Tryz.func36 Z N36 (Zi Z Qk) ((Jc aE aU (a0.mono (Zt n x))).mono ?_))
   rintro _ gB ⟨aI, rfl, ⟨fd, _, eu, a7, rfl⟩⟩
   refine ⟨_, Z, ?_⟩
   refine ⟨(Qd (Q4 Z Z (Zm (v := U a) Z l ⟨Z, Z⟩)) (Qd (Q4 Z Z (Zm (v := g) Z j ⟨Z, Z⟩)) (Qd (Q4 Z Z (Zp KW Z i Z ⟨Z, Z⟩)) (Qd (Q4 Z Z (Zn (a7.f4) A3 Z Z Z ⟨Z, Z⟩)) (Qd (Q4 Z Z (Qc Jt Z h Z (Qe b).1 (Qe b).2.1 ⟨Z, Z⟩)) (Qd (Q4 Z Z (Qt (F := (Qa .i64)) (a7.f3) h A3 Z Z Z b (Sub.refl _) (fun _ q => ⟨Z, Qs.1 q⟩))) QY)))))), ?_⟩
   refine Qh Z Z (Exec.build Z (Qb (c := [U a]) (Qi Z Z) (Qb (c := [U d]) (Qi Z Z) (Qb (c := [aI]) (Qi Z (QV a7.arr_one)) (Qb (c := [aa]) (Qi Z (QV (a7.f2).arr_one)) Qx)))) (v := Value.agg #[U a, U d, aI, Vs none 0 0, aa]) (fun _ => by kernel_rfl) ⟨Z, ?_⟩)
   refine QC ?_
   have bi := a7.f1
   refine O Z Z (Qf (ds := [U a, U d, aI, Vs none 0 0, aa]) (es := [U a, U d, aI, Vs none 0 0, aa]) bi KH Z Z Z Z (Zj Z (Zj Z (Zj (bi.f1).arr_one (Zj Z (Zj (bi.f2).arr_one Q6))))) (Nat.le_of_ble_eq_true Z) Z ?_)
   intro gC cV
   refine Zb (V ?_)
   have cW := cV.f2
   have cX := cW.f2
   have cY := cX.f2
   have cZ := cY.f5
   have da := cZ.f5
   have db := da.f5
   exact ⟨fd, co, aI, aa, eu, db, j, i, ak, Z⟩
  refine JH Z Z (Exec.alloc (cs := [U 0, U 0, Vs none 0 0, Vs none 0 0, Vs none 0 0]) ao Z38 Z Z ?_)
  intro bz gD a8
  refine ⟨(Qd (Q4 Z Z (Zm (v := U a) Z l ⟨Z, Z⟩)) (Qd (Q4 Z Z (Zm (v := g) Z j ⟨Z, Z⟩)) (Qd (Q4 Z Z (Zp KW Z i Z ⟨Z, Z⟩)) (Qd (Q4 Z Z (Zn (a8.f2) A3 Z Z Z ⟨Z, Z⟩)) (Qd (Q4 Z Z (Qc Jt Z h Z (Qe b).1 (Qe b).2.1 ⟨Z, Z⟩)) (Qd (Q4 Z Z (Qt (F := (Qa .i64)) (a8.f1) h A3 Z Z Z b (Sub.refl _) (fun _ q => ⟨Z, Qs.1 q⟩))) (Qd (Q4 Z Z (Zp QaQ Z i Z ⟨Z, Z⟩)) (Qd (Q4 Z Z (Zn (a8.f2) A22 Z Z Z ⟨Z, Z⟩)) (Qd (Q4 Z Z (Zm (v := U a) Z l ⟨Z, Z⟩)) QY))))))))), ?_⟩
  refine QeC ?_ ?_
  ·refine JH Z Z (Exec.call Z Z Tryz.func36 Z N36 (Zi Z Qk) ((Jc aE a8 (a0.mono (Zt n x))).mono ?_))
   rintro _ gE ⟨aJ, rfl, ⟨fe, _, ev, bj, rfl⟩⟩
   refine ⟨_, Z, ?_⟩
   refine ⟨(Qd (Q4 Z Z (Zm (v := U a) Z l ⟨Z, Z⟩)) (Qd (Q4 Z Z (Zm (v := g) Z j ⟨Z, Z⟩)) (Qd (Q4 Z Z (Zp KW Z i Z ⟨Z, Z⟩)) (Qd (Q4 Z Z (Zn (bj.f3) A3 Z Z Z ⟨Z, Z⟩)) (Qd (Q4 Z Z (Qc Jt Z h Z (Qe b).1 (Qe b).2.1 ⟨Z, Z⟩)) (Qd (Q4 Z Z (Qt (F := (Qa .i64)) (bj.f2) h A3 Z Z Z b (Sub.refl _) (fun _ q => ⟨Z, Qs.1 q⟩))) (Qd (Q4 Z Z (Zm (v := U a) Z l ⟨Z, Z⟩)) QY))))))), ?_⟩
   refine JH Z Z (JX (E := encBool) bj S36 Z4 Z Z Z Z aF ?_)
   intro aK gF a9
   refine ⟨(Qd (Q4 Z Z (Zm (v := U a) Z l ⟨Z, Z⟩)) (Qd (Q4 Z Z (Zm (v := g) Z j ⟨Z, Z⟩)) (Qd (Q4 Z Z (Zp KW Z i Z ⟨Z, Z⟩)) (Qd (Q4 Z Z (Zn (a9.f4) A3 Z Z Z ⟨Z, Z⟩)) (Qd (Q4 Z Z (Qc Jt Z h Z (Qe b).1 (Qe b).2.1 ⟨Z, Z⟩)) (Qd (Q4 Z Z (Qt (F := (Qa .i64)) (a9.f3) h A3 Z Z Z b (Sub.refl _) (fun _ q => ⟨Z, Qs.1 q⟩))) QY)))))), ?_⟩
   refine Qh Z Z (Exec.build Z (Qb (c := [U a]) (Qi Z Z) (Qb (c := [U d]) (Qi Z Z) (Qb (c := [aJ]) (Qi Z (QV (a9.f1).arr_one)) (Qb (c := [aK]) (Qi Z (QV a9.arr_one)) Qx)))) (v := Value.agg #[U a, U d, aJ, Vs none 0 0, aK]) (fun _ => by kernel_rfl) ⟨Z, ?_⟩)
   refine QC ?_
   have bk := a9.f2
   refine O Z Z (Qf (ds := [U a, U d, aJ, Vs none 0 0, aK]) (es := [U a, U d, aJ, Vs none 0 0, aK]) bk KH Z Z Z Z (Zj Z (Zj Z (Zj (bk.f2).arr_one (Zj Z (Zj (bk.f1).arr_one Q6))))) (Nat.le_of_ble_eq_true Z) Z ?_)
   intro gG dc
   refine Zb (V ?_)
   have dd := dc.f1
   have de := dd.f2
   have df := de.f2
   have dg := df.f5
   have dh := dg.f5
   have di := dh.f5
   exact ⟨fe, bz, aJ, aK, ev, di, j, i, ak, Z⟩
  refine JH Z Z (JX (E := encBool) a8 S36 Z4 Z Z Z Z aF ?_)
  intro aL gH aV
  refine ⟨(Qd (Q4 Z Z (Zm (v := U a) Z l ⟨Z, Z⟩)) (Qd (Q4 Z Z (Zm (v := g) Z j ⟨Z, Z⟩)) (Qd (Q4 Z Z (Zp KW Z i Z ⟨Z, Z⟩)) (Qd (Q4 Z Z (Zn (aV.f3) A3 Z Z Z ⟨Z, Z⟩)) (Qd (Q4 Z Z (Qc Jt Z h Z (Qe b).1 (Qe b).2.1 ⟨Z, Z⟩)) (Qd (Q4 Z Z (Qt (F := (Qa .i64)) (aV.f2) h A3 Z Z Z b (Sub.refl _) (fun _ q => ⟨Z, Qs.1 q⟩))) (Qd (Q4 Z Z (Zp QaQ Z i Z ⟨Z, Z⟩)) (Qd (Q4 Z Z (Zn (aV.f3) A22 Z Z Z ⟨Z, Z⟩)) QY)))))))), ?_⟩
  refine JH Z Z (Exec.call Z Z Tryz.func36 Z N36 (Zi Z Qk) ((Jc aE aV (a0.mono (Zt n x))).mono ?_))
  rintro _ gI ⟨aM, rfl, ⟨ff, _, ew, aA, rfl⟩⟩
  refine ⟨_, Z, ?_⟩
  refine ⟨(Qd (Q4 Z Z (Zm (v := U a) Z l ⟨Z, Z⟩)) (Qd (Q4 Z Z (Zm (v := g) Z j ⟨Z, Z⟩)) (Qd (Q4 Z Z (Zp KW Z i Z ⟨Z, Z⟩)) (Qd (Q4 Z Z (Zn (aA.f4) A3 Z Z Z ⟨Z, Z⟩)) (Qd (Q4 Z Z (Qc Jt Z h Z (Qe b).1 (Qe b).2.1 ⟨Z, Z⟩)) (Qd (Q4 Z Z (Qt (F := (Qa .i64)) (aA.f3) h A3 Z Z Z b (Sub.refl _) (fun _ q => ⟨Z, Qs.1 q⟩))) QY)))))), ?_⟩
  refine Qh Z Z (Exec.build Z (Qb (c := [U a]) (Qi Z Z) (Qb (c := [U d]) (Qi Z Z) (Qb (c := [aM]) (Qi Z (QV aA.arr_one)) (Qb (c := [aL]) (Qi Z (QV (aA.f1).arr_one)) Qx)))) (v := Value.agg #[U a, U d, aM, Vs none 0 0, aL]) (fun _ => by kernel_rfl) ⟨Z, ?_⟩)
  refine QC ?_
  have bl := aA.f2
  refine O Z Z (Qf (ds := [U a, U d, aM, Vs none 0 0, aL]) (es := [U a, U d, aM, Vs none 0 0, aL]) bl KH Z Z Z Z (Zj Z (Zj Z (Zj (bl.f1).arr_one (Zj Z (Zj (bl.f2).arr_one Q6))))) (Nat.le_of_ble_eq_true Z) Z ?_)
  intro gJ dj
  refine Zb (V ?_)
  have dk := dj.f2
  have dl := dk.f2
  have dm := dl.f2
  have dn := dm.f5
  have dp := dn.f5
  have dq := dp.f5
  exact ⟨ff, bz, aM, aL, ew, dq, j, i, ak, Z⟩
 intro fI gK cx
 obtain ⟨cb, ae, o, p, aw, bC, e1, bQ, e2, e3⟩ := cx
 refine (V (Zc (Zc (Zd (O Z Z (Zp Qbo Z bQ Z (O Z Z (Zn (bC.f1) A36 Z Z Z (O Z Z (Zr S36 Z Z (aS.mono (Zt (Zt n x) aw)) (O Z Z (Zm (v := U 0) Z Z (Zb (V ?_))))))))))))))
 obtain ⟨aX, cp, hm⟩ := Zg hm
 refine Qm (J3 (fun k' s' f' w' => (fun (aX : (List Bool)) => ∃ (cc : PHeap) , PHeap.le cb cc ∧ St w0 cc (Res.arr (Qa .i64) 3 g aj :: Res.box ai 38 [U (m.States), U (m.Init), am, ah, ad] :: Res.box ab 38 [U 0, U 0, Vs none 0 0, Vs none 0 0, Vs none 0 0] :: Res.box ae 38 [U a, U d, o, Vs none 0 0, p] :: Res.arr (Qa .i64) 3 o bf :: Res.arr encBool 4 p aX :: H) w' ∧ f' 1 = g ∧ f' 2 = Vp (some ⟨ai, 0, none⟩) ∧ f' 4 = Vp (some ⟨ab, 0, none⟩) ∧ f' 8 = Vp (some ⟨ae, 0, none⟩) ∧ f' 42 = ad ∧ f' 43 = U ((m.Goals.length : Int)) ∧ f' 44 = U (k' : Int)) s') cp ?_ ?_ ?_)
 ·have dr := bC.f5
  have dt := dr.f5
  have du := dt.f5
  have dv := du.f5
  have dw := dv.f5
  have dx := dw.f5
  exact ⟨cb, (Zv _), dx, e1, bQ, e2, e3, Z, Z, Z⟩
 ·intro a1 aX fg fJ gL en cr aC
  obtain ⟨bt, bM, bD, aZ, bR, bS, ba, bp, bq, aN⟩ := cr
  refine Zc (Zd (O Z Z (Zq Z aN bq (Zb (V (Zc (QK (Zx (decide_eq_true (by omega))) (Qp (V (Zc (Qm (Zc (Zd (O Z Z (Zm (v := U ((a1 : Int))) Z aN ?_)))))))))))))))
  obtain ⟨bv, eL, aC⟩ := Zg aC
  refine O Z Z (Qu S36 Z bp aN (aS.mono (Zt (Zt (Zt n x) aw) bM)) eL ?_)
  intro fr ga cj
  refine O Z Z (Zw (E := encBool) bD A4 Z Z Z cj ?_)
  intro gl eM
  obtain rfl := Ju.1 eM
  refine O Z Z (Zo (v := U ((a1 : Int))) Z Z (O Z Z (Zo (v := Vb bv) Z Z (Zb (V ?_)))))
  obtain ⟨aD, u, aC⟩ := Zg aC
  refine QJ (M := fun f' w' => (fun (aD : (List Bool)) => ∃ (cd : PHeap) , PHeap.le bt cd ∧ St w0 cd (Res.arr (Qa .i64) 3 g aj :: Res.box ai 38 [U (m.States), U (m.Init), am, ah, ad] :: Res.box ab 38 [U 0, U 0, Vs none 0 0, Vs none 0 0, Vs none 0 0] :: Res.box ae 38 [U a, U d, o, Vs none 0 0, p] :: Res.arr (Qa .i64) 3 o bf :: Res.arr encBool 4 p aD :: H) w' ∧ f' 1 = g ∧ f' 2 = Vp (some ⟨ai, 0, none⟩) ∧ f' 4 = Vp (some ⟨ab, 0, none⟩) ∧ f' 8 = Vp (some ⟨ae, 0, none⟩) ∧ f' 42 = ad ∧ f' 43 = U ((m.Goals.length : Int)) ∧ f' 44 = U ((a1 : Int))) aD) ?_ ?_
  ·refine K3 (n0 := 17) (.q 0 (.q 1 (.q 2 (.q 3 (.q 4 (.q 5 (.q 6 (.q 7 (.q 8 (.q 9 (.q 10 (.q 11 (.q 12 (.q 13 (.q 14 (.q 15 (.q 16 .done))))))))))))))))) K8 (by kernel_rfl) (by kernel_rfl) ?_
   have y := bD.drew
   refine Qh Z Z (Zp Qbo Z ba Z ⟨Z, ?_⟩)
   refine Qh Z Z (Zn (y.f3) A36 Z Z Z ⟨Z, ?_⟩)
   refine Qh Z Z (Zm (v := g) Z aZ ⟨Z, ?_⟩)
   refine Qh Z Z (Zm (v := U ((a1 : Int))) Z Z ⟨Z, ?_⟩)
   obtain ⟨ha, al, u⟩ := Zg u
   obtain ⟨fP, fw, b0⟩ := y.arr_at al
   refine Qh Z Z (Qc Jt Z b0 Z (Qe al).1 (Qe al).2.1 ⟨Z, ?_⟩)
   refine Qh Z Z (Qt (F := (Qa .i64)) (y) b0 A3 Z Z Z al (Sub.refl _) ?_)
   intro gm eN
   obtain rfl := Qs.1 eN
   refine ⟨Z, ?_⟩
   refine Qh Z Z (Zp Qbo Z ba Z ⟨Z, ?_⟩)
   refine Qh Z Z (Zn (y.f3) A36 Z Z Z ⟨Z, ?_⟩)
   refine Qh Z Z (Zm (v := g) Z aZ ⟨Z, ?_⟩)
   refine Qh Z Z (Zm (v := U ((a1 : Int))) Z Z ⟨Z, ?_⟩)
   obtain ⟨fQ, fx, b1⟩ := y.arr_at al
   refine Qh Z Z (Qc Jt Z b1 Z (Qe al).1 (Qe al).2.1 ⟨Z, ?_⟩)
   refine Qh Z Z (Qt (F := (Qa .i64)) (y) b1 A3 Z Z Z al (Sub.refl _) ?_)
   intro gn eO
   obtain rfl := Qs.1 eO
   refine ⟨Z, ?_⟩
   obtain ⟨fm, ac, u⟩ := Zg u
   obtain ⟨fR, fy, b2⟩ := (y.f5).arr_at ac
   refine Qh Z Z (Qc S36 Z b2 Z (Qe ac).1 (Qe ac).2.1 ⟨Z, ?_⟩)
   refine Qh Z Z (Qt (F := encBool) (y.f5) b2 A4 Z Z Z ac (Sub.refl _) ?_)
   intro go eP
   obtain rfl := Ju.1 eP
   refine ⟨Z, ?_⟩
   refine Qh Z Z (Zm (v := Vb fm) Z Z ⟨Z, ?_⟩)
   rcases Qg u with ⟨au, u⟩ | ⟨au, u⟩
   ·refine Qq Z Z (Zf Z (Zx au)) Z (Qh Z Z (Zs (v := Vb true) Z (Zx au) Z ⟨Z, ?_⟩))
    refine QC ?_
    obtain ⟨fS, fz, b3⟩ := (y.f5).arr_at ac
    refine O Z Z (Qc S36 Z b3 Z (Qe ac).1 (Qe ac).2.1 ?_)
    obtain ⟨fW, eQ, u⟩ := Zg u
    have dy := y.f5
    refine O Z Z (QN dy b3 A4 Z Z Z Z (Ju.2 Z) eQ ?_)
    intro gM dz
    refine Zb (V ?_)
    have fC := Zu u
    subst aD
    have d0 := dz.f5
    have d1 := d0.f5
    have d2 := d1.f5
    have d3 := d2.f5
    have d4 := d3.f5
    exact ⟨bt, (Zv _), d4, aZ, bR, bS, ba, bp, bq, aN⟩
   replace au := Zk au
   refine Q9 Z Z (Zf Z (Zx au)) (Zm (v := Vb bv) Z Z ⟨Z, ?_⟩)
   refine Qh Z Z (Q5 (v := Vb bv) Z (Zx au) Z ⟨Z, ?_⟩)
   refine QC ?_
   obtain ⟨fT, f0, b4⟩ := (y.f5).arr_at ac
   refine O Z Z (Qc S36 Z b4 Z (Qe ac).1 (Qe ac).2.1 ?_)
   obtain ⟨fX, eR, u⟩ := Zg u
   have d5 := y.f5
   refine O Z Z (QN d5 b4 A4 Z Z Z Z (Ju.2 Z) eR ?_)
   intro gN d6
   refine Zb (V ?_)
   have fD := Zu u
   subst aD
   have d7 := d6.f5
   have d8 := d7.f5
   have d9 := d8.f5
   have dA := d9.f5
   have dB := dA.f5
   exact ⟨bt, (Zv _), dB, aZ, bR, bS, ba, bp, bq, aN⟩
  intro fK gO cy
  obtain ⟨fh, ex, dC, e4, e5, e6, e7, e8, e9, eA⟩ := cy
  refine (Qz (V (Zd (O Z Z (Exec.add Z eA Z (O Z Z (Zm (v := U (IntKind.i64.wrap ((a1 : Int) + 1))) Z Z (Zb (V ?_)))))))))
  have fE := Zu aC
  subst fg
  have dD := dC.f5
  have dE := dD.f5
  have dF := dE.f5
  have dG := dF.f5
  have dH := dG.f5
  have dI := dH.f5
  exact ⟨fh, (Zt bM ex), dI, e4, e5, e6, e7, e8, e9, (Eq.trans Z (QB en (SliceRep.le (aS.mono (Zt (Zt n x) aw)))))⟩
 intro fL gP ct
 obtain ⟨ce, aY, bE, eB, eC, eD, eE, gc, eF, fn⟩ := ct
 refine Zc (Zd (O Z Z (Zq Z fn eF (Zb (V (Zc (QA (Zx (decide_eq_false (by omega))) (QF (Ql (Ql (Q7 (V (Zc (Zc (Zd (O Z Z (Zp QaF Z eC Z (O Z Z (Zn (bE.f1) A35 Z Z Z (O Z Z (Zr S35 Z Z (aR.mono (Zt (Zt (Zt n x) aw) aY)) (O Z Z (Zm (v := U 0) Z Z (Zb (V ?_)))))))))))))))))))))))))
 obtain ⟨bx, cq, hm⟩ := Zg hm
 refine Qm (J3 (fun k' s' f' w' => (fun (bx : (List Edge)) => ∃ (cf : PHeap) (be : Value), PHeap.le ce cf ∧ St w0 cf (Res.arr (Qa .i64) 3 g aj :: Res.box ab 38 [U 0, U 0, Vs none 0 0, Vs none 0 0, Vs none 0 0] :: Res.box ae 38 [U a, U d, o, be, p] :: Res.arr (Qa .i64) 3 o bf :: Res.arr encEdge 85 be bx :: Res.arr encBool 4 p aX :: H) w' ∧ f' 1 = g ∧ f' 4 = Vp (some ⟨ab, 0, none⟩) ∧ f' 8 = Vp (some ⟨ae, 0, none⟩) ∧ f' 69 = ah ∧ f' 70 = U ((m.Edges.length : Int)) ∧ f' 71 = U (k' : Int)) s') cq ?_ ?_ ?_)
 ·have dJ := bE.nilArr encEdge 85
  have dK := (dJ.f2).drop
  have dL := dK.f5
  have dM := dL.f1
  have dN := dM.f5
  have dO := dN.f5
  have dP := dO.f5
  have dQ := dP.f5
  exact ⟨ce, (Vs none 0 0), (Zv _), dQ, eB, eD, eE, Z, Z, Z⟩
 ·intro ep bx fi fM gQ eo cu ag
  obtain ⟨fj, be, bN, bF, br, eG, bb, bT, bU, bw⟩ := cu
  refine Zc (Zd (O Z Z (Zq Z bw bU (Zb (V (Zc (QK (Zx (decide_eq_true (by omega))) (Qp (V (Zc (Qm (Zc (Zd ?_)))))))))))))
  obtain ⟨t, eS, ag⟩ := Zg ag
  refine O Z Z (Qu S35 Z bT bw (aR.mono (Zt (Zt (Zt (Zt n x) aw) aY) bN)) eS ?_)
  intro fs gb ck
  refine O Z Z (Zw (E := encEdge) bF A85 Z Z Z ck ?_)
  intro gp eT
  obtain rfl := JM.1 eT
  refine O Z Z (Exec.alloc (cs := [U 0, U 0, U 0]) bF Z85 Z Z ?_)
  intro ft gR dR
  refine O Z Z (Qf (ds := [U (t.From), U (t.Label), U (t.To)]) (es := [U (t.From), U (t.Label), U (t.To)]) dR A85 Z Z Z Z (Zj Z (Zj Z (Zj Z Q6))) (Nat.le_of_ble_eq_true Z) Z ?_)
  intro gS dS
  refine Zb (V (K3 (n0 := 17) (.q 0 (.q 1 (.q 2 (.q 3 (.q 4 (.q 5 (.q 6 (.q 7 (.q 8 (.q 9 (.q 10 (.q 11 (.q 12 (.q 13 (.q 14 (.e 15 [0, 1] (.e 16 [] .done))))))))))))))))) K8 (by kernel_rfl) (by kernel_rfl) ?_))
  have af := dS.drew
  refine Qh Z Z (Zp QaF Z bb Z ⟨Z, ?_⟩)
  refine Qh Z Z (Zn (af.f3) A35 Z Z Z ⟨Z, ?_⟩)
  refine Qh Z Z (Zm (v := g) Z br ⟨Z, ?_⟩)
  refine Qh Z Z (Zp Qbn Z Z Z ⟨Z, ?_⟩)
  refine Qh Z Z (Zn (af) A3 Z Z Z ⟨Z, ?_⟩)
  obtain ⟨az, bc, ag⟩ := Zg ag
  obtain ⟨fU, f7, b5⟩ := (af.f1).arr_at bc
  refine Qh Z Z (Qc Jt Z b5 Z (Qe bc).1 (Qe bc).2.1 ⟨Z, ?_⟩)
  refine Qh Z Z (Qt (F := (Qa .i64)) (af.f1) b5 A3 Z Z Z bc (Sub.refl _) ?_)
  intro gq eU
  obtain rfl := Qs.1 eU
  refine ⟨Z, ?_⟩
  refine Qh Z Z (Zp Qan Z Z Z ⟨Z, ?_⟩)
  refine Qh Z Z (Zn (af) A3 Z Z Z ⟨Z, ?_⟩)
  refine Qh Z Z (Zm (v := g) Z br ⟨Z, ?_⟩)
  refine Qh Z Z (Zp YZ Z Z Z ⟨Z, ?_⟩)
  refine Qh Z Z (Zn (af) A3 Z Z Z ⟨Z, ?_⟩)
  obtain ⟨an, bd, ag⟩ := Zg ag
  obtain ⟨fV, f8, b6⟩ := (af.f1).arr_at bd
  refine Qh Z Z (Qc Jt Z b6 Z (Qe bd).1 (Qe bd).2.1 ⟨Z, ?_⟩)
  refine Qh Z Z (Qt (F := (Qa .i64)) (af.f1) b6 A3 Z Z Z bd (Sub.refl _) ?_)
  intro gr eV
  obtain rfl := Qs.1 eV
  refine ⟨Z, ?_⟩
  refine Qh Z Z (Exec.build Z (Qb (c := [U az]) (Qi Z Z) (Qb (c := [U (t.Label)]) (Qi Z Z) (Qb (c := [U an]) (Qi Z Z) Qx))) (v := Value.agg #[U az, U (t.Label), U an]) (fun _ => by kernel_rfl) ⟨Z, ?_⟩)
  refine JH Z Z (Exec.buildSlice (Te := 85) (cs := [U az, U (t.Label), U an]) af Z (Qb (c := [U az, U (t.Label), U an]) (Qi Z Z) Qx) (fun _ => by kernel_rfl) ?_)
  intro fu gT bG
  refine ⟨(Qd (Q4 Z Z (Zp QaF Z bb Z ⟨Z, Z⟩)) (Qd (Q4 Z Z (Zn (bG.f4) A35 Z Z Z ⟨Z, Z⟩)) QY)), ?_⟩
  obtain ⟨fY, eW, ag⟩ := Zg ag
  have dT := bG.f6
  refine JH Z Z (QR (E := encEdge) (ys := [(⟨az, t.Label, an⟩ : Edge)]) dT S35 Z85 Z (by decide) Z Z Z Z ⟨[U az, U (t.Label), U an], [], Z, ⟨[U az], [U (t.Label), U an], Z, Z, ⟨[U (t.Label)], [U an], Z, Z, Z⟩⟩, Z⟩ Z eW ?_)
  intro bu gU dU
  refine ⟨QY, ?_⟩
  refine QC (O Z Z (Zp QaF Z bb Z ?_))
  have bm := dU.f4
  refine O Z Z (Qf (ds := [bu]) (es := [U a, U d, o, bu, p]) bm A35 Z Z Z (QV (bm.f1).arr_one) (Zj (bm.f1).arr_one Q6) (Nat.le_of_ble_eq_true Z) Z ?_)
  intro gV dV
  refine Zb (Qz (V (Zd (O Z Z (Exec.add Z bw Z (O Z Z (Zm (v := U (IntKind.i64.wrap ((ep : Int) + 1))) Z Z (Zb (V ?_)))))))))
  have fF := Zu ag
  subst fi
  have dW := (dV.f2).drop
  have dX := dW.f5
  have dY := dX.f2
  have dZ := dY.f5
  have ea := dZ.f3
  have eb := ea.f5
  have ec := eb.f5
  exact ⟨fj, bu, bN, ec, br, eG, bb, bT, bU, (Eq.trans Z (QB eo (SliceRep.le (aR.mono (Zt (Zt (Zt n x) aw) aY)))))⟩
 intro fN gW cv
 obtain ⟨gg, be, ey, bH, gd, bV, bs, gf, eH, fo⟩ := cv
 refine Zc (Zd (O Z Z (Zq Z fo eH (Zb (V (Zc (QA (Zx (decide_eq_false (by omega))) (QF (Ql (Ql (Q7 (V (Zc (Zd (O Z Z (Zp QaF Z bs Z (O Z Z (Zn (bH.f2) A35 Z Z Z ?_))))))))))))))))))
 obtain ⟨fZ, eX, hm⟩ := Zg hm
 have ed := bH.f4
 refine O Z Z (Exec.call Z Z Tryz.func116 Z QoA (Zi Z Qk) ((QdP eX ed).mono ?_))
 rintro _ gX ⟨a2, rfl, ⟨gh, _, ez, ee, rfl⟩⟩
 refine ⟨_, Z, ?_⟩
 refine O Z Z (Zp QaF Z bs Z ?_)
 have bn := ee.f3
 refine O Z Z (Qf (ds := [a2]) (es := [U a, U d, o, a2, p]) bn A35 Z Z Z (QV (bn.f1).arr_one) (Zj (bn.f1).arr_one Q6) (Nat.le_of_ble_eq_true Z) Z ?_)
 intro gY bI
 refine Zb (V (Zc (Zd (O Z Z (Qn (ds := [U a, U d, o, a2, p]) (bI) KH Z bs Z ?_)))))
 have aW := bI.f3
 refine O Z Z (Qf (ds := [U a, U d, o, a2, p]) (es := [U a, U d, o, a2, p]) aW KH Z bV Z Z (Zj Z (Zj Z (Zj (aW.f4).arr_one (Zj (aW.f2).arr_one (Zj (aW.f5).arr_one Q6))))) (Nat.le_of_ble_eq_true Z) Z ?_)
 intro gZ bJ
 refine O Z Z (Zo (v := QG 50 (none)) Z Z (Zb (V (Q1 ?_))))
 have fG := Zu hm
 subst r
 refine ⟨_, Qak Z ⟨_, _, bV, JY (bJ) KH⟩ Z, ?_⟩
 have ef := bJ.f4
 obtain ⟨gi, e0, eg, eY⟩ := ef.freezeArr
 have eh := eg.f2
 obtain ⟨gj, bO, ei, eZ⟩ := eh.freezeArr
 have ej := ei.f3
 obtain ⟨fk, bo, ek, fa⟩ := ej.freezeArr
 have el := ek.drop
 have em := el.drop
 exact ⟨fk, o, a2, p, (Zt (Zt (Zt (Zt (Zt (Zt (Zt (Zt n x) aw) aY) ey) ez) e0) bO) bo), em, (KX Z Z), (eY.mono (Zt bO bo)), (eZ.mono bo), fa⟩
theorem N58 : (Tryz.f58.name == "runtime.NumGoroutine") = false := by kernel_rfl
theorem Ka {w0 w : World} {s : PHeap} {H : List Res} {ar : mergeshrink_Abstraction} {a : System} {ap : Int} {p : Nat} {af : Value} {ag : Value} {ah : Value} {c : Value} {d : Value} {g : Value} {r : (List Int) × (Option Int) × System × Bool} (hm : Jg ar a ap = some r) (hS : St w0 s (Res.box p 74 [af, ag, ah, Value.bool (ar.exact)] :: H) w) (y : SliceRep (Qa .i64) s c a.Costs) (z : SliceRep encEdge s d a.Edges) (aa : SliceRep encBool s g a.Goals) :
  Calls Tryz.prog 58 #[Value.pointer (some ⟨p, 0, none⟩), Value.agg #[U (a.States), U (a.Init), c, d, g], U ap] w fun e w' => ∃ v, e = .returned v ∧ ((un4 fun (bH : (List Int)) (bI : (Option Int)) (ai : System) (bK : Bool) => ∃ (t : PHeap) (aE : Value) (aF : Value) (aG : Value) (aH : Value), PHeap.le s t ∧ St w0 t (Res.box p 74 [af, ag, ah, Value.bool (bK)] :: H) w' ∧ v = Value.tuple #[Value.agg #[U (ai.States), U (ai.Init), aF, aG, aH], aE, QG 50 (bI)] ∧ SliceRep (Qa .i64) t aE bH ∧ SliceRep (Qa .i64) t aF ai.Costs ∧ SliceRep encEdge t aG ai.Edges ∧ SliceRep encBool t aH ai.Goals) r) := by
 unfold Jg at hm
 refine Qy Tryz.func58 Z Z (Zc (Zd (O Z Z (Exec.box (cs := [U (a.States), U (a.Init), c, d, g]) hS Z Z Z ?_))))
 intro a2 bW aK
 refine O Z Z (Exec.alloc (cs := [U 0, U 0, Vs none 0 0, Vs none 0 0, Vs none 0 0]) aK Z38 Z Z ?_)
 intro a3 bX al
 refine O Z Z (Zo (v := Vs none 0 0) Z Z (O Z Z (Zo (v := QG 50 (none)) Z Z (Zb (V (Zc (Zc (Zd (O Z Z (Zp JL Z Z Z (O Z Z (Zn (al.f1) A3 Z Z Z (O Z Z (Zm (v := U ap) Z Z (O Z Z (Exec.leq Z Z Z (Zb (V ?_))))))))))))))))))
 rcases Qg hm with ⟨ab, hm⟩ | ⟨ab, hm⟩
 ·refine Qv Z ab (Zc (K3 (n0 := 5) (.q 0 (.q 1 (.q 2 (.e 3 [0] (.e 4 [] .done))))) K8 (by kernel_rfl) (by kernel_rfl) ?_))
  have au := al.drew
  refine Qh Z Z (Qn (ds := [U (a.States), U (a.Init), c, d, g]) (au.f1) KH Z Z Z ⟨Z, ?_⟩)
  refine Qh Z Z (Zp JL Z Z Z ⟨Z, ?_⟩)
  refine Qh Z Z (Zn (au.f1) A3 Z Z Z ⟨Z, ?_⟩)
  obtain ⟨cn, b2, hm⟩ := Zg hm
  refine JH Z Z (Exec.call Z Z Tryz.func35 Z N35 (Zi Z Qk) ((Qbb b2 au).mono ?_))
  rintro _ bY ⟨aI, rfl, ⟨bA, _, o, a4, rfl, b8⟩⟩
  refine ⟨_, Z, ?_⟩
  refine ⟨(Qd (Q4 Z Z (Qn (ds := [U (a.States), U (a.Init), c, d, g]) (a4.f1) KH Z Z Z ⟨Z, Z⟩)) QY), ?_⟩
  refine JH Z Z (Qf (ds := [U (a.States), U (a.Init), c, d, g]) (es := [U (a.States), U (a.Init), c, d, g]) a4 KH Z Z Z Z (Zj Z (Zj Z (Zj ((y.mono o)).one (Zj ((z.mono o)).one (Zj ((aa.mono o)).one Q6))))) (Nat.le_of_ble_eq_true Z) Z ?_)
  intro bZ a5
  refine ⟨QY, ?_⟩
  refine QC (O Z Z (Zo (v := aI) Z Z (O Z Z (Zo (v := QG 50 (none)) Z Z (Zb (V (Q1 (Qj ?_))))))))
  have bM := Zu hm
  subst r
  refine ⟨_, QjB Z ⟨_, _, Z, JY (a5) KH⟩ Z Z, ?_⟩
  have aL := a5.drop
  have aM := aL.drop
  exact ⟨bA, aI, c, d, g, o, aM, (Qmf Z Z Z), b8, (y.mono o), (z.mono o), (aa.mono o)⟩
 refine Qw Z ab ?_
 replace ab := Zk ab
 refine Qp (V (Zc (Zd (O Z Z (Qn (ds := [U (a.States), U (a.Init), c, d, g]) (al.f1) KH Z Z Z (O Z Z (Zm (v := U ap) Z Z ?_)))))))
 obtain ⟨bE, b3, hm⟩ := Zg hm
 obtain ⟨bJ, u⟩ := bE
 replace hm := Jf hm
 refine O Z Z (Exec.call Z Z Tryz.func82 Z N82 (Zi Z (Zi Z Qk)) ((QeQ b3 al y z aa).mono ?_))
 rintro _ ca ⟨_, rfl, ⟨bB, i, k, av, rfl⟩⟩
 refine ⟨_, Z, ?_⟩
 refine O Z Z (Zm (v := Value.tuple #[i, QG 50 (u)]) Z Z (O Z Z (Exec.extract (v := i) Z Z Z (O Z Z (Exec.extract (v := QG 50 (u)) Z Z Z (O Z Z (Zo (v := i) Z Z (O Z Z (Zo (v := QG 50 (u)) Z Z (Zb (V (Zc (Zc (Zd (O Z Z (Zm (v := QG 50 (u)) Z Z (O Z Z (Je (T := 50) Tryz.underlying32 Z Z Z (Zb (V ?_))))))))))))))))))))
 rcases Qg hm with ⟨ac, hm⟩ | ⟨ac, hm⟩
 ·refine Qv Z ac (Zc (Zd (O Z Z (Exec.build Z Qx (v := Value.agg #[U 0, U 0, Vs none 0 0, Vs none 0 0, Vs none 0 0]) (fun _ => by kernel_rfl) (O Z Z (Zm (v := QG 50 (u)) Z Z ?_))))))
  have aN := av.f1
  refine O Z Z (Qf (ds := [U 0, U 0, Vs none 0 0, Vs none 0 0, Vs none 0 0]) (es := [U 0, U 0, Vs none 0 0, Vs none 0 0, Vs none 0 0]) aN KH Z Z Z Z (Zj Z (Zj Z (Zj Z (Zj Z (Zj Z Q6))))) (Nat.le_of_ble_eq_true Z) Z ?_)
  intro cb a6
  refine O Z Z (Zo (v := Vs none 0 0) Z Z (O Z Z (Zo (v := QG 50 (u)) Z Z (Zb (V (Q1 (Qj ?_)))))))
  have bN := Zu hm
  subst r
  refine ⟨_, QjB Z ⟨_, _, Z, JY (a6) KH⟩ Z Z, ?_⟩
  have aO := a6.drop
  have aP := aO.drop
  have aQ := aP.drop
  exact ⟨bB, (Vs none 0 0), (Vs none 0 0), (Vs none 0 0), (Vs none 0 0), k, aQ, (Qmf Z Z Z), (SliceRep.nil _ _), (SliceRep.nil _ _), (SliceRep.nil _ _), (SliceRep.nil _ _)⟩
 refine Qw Z ac ?_
 replace ac := Zk ac
 refine Qp (V (Zc (Zd (O Z Z (Qn (ds := [U (a.States), U (a.Init), c, d, g]) (av.f2) KH Z Z Z ?_)))))
 obtain ⟨bF, b4, hm⟩ := Zg hm
 obtain ⟨co, x⟩ := bF
 replace hm := Jf hm
 refine O Z Z (Exec.call Z Z Tryz.func83 Z N83 (Zi Z Qk) ((Qag b4 av (y.mono k) (z.mono k) (aa.mono k)).mono ?_))
 rintro _ cc ⟨_, rfl, ⟨az, aq, ae, am, rfl⟩⟩
 refine ⟨_, Z, ?_⟩
 refine O Z Z (Zm (v := Value.tuple #[aq, QG 50 (x)]) Z Z (O Z Z (Exec.extract (v := aq) Z Z Z (O Z Z (Exec.extract (v := QG 50 (x)) Z Z Z (O Z Z (Zo (v := aq) Z Z (O Z Z (Zo (v := QG 50 (x)) Z Z (Zb (V (Zc (Zc (Zd (O Z Z (Zm (v := QG 50 (x)) Z Z (O Z Z (Je (T := 50) Tryz.underlying32 Z Z Z (Zb (V ?_))))))))))))))))))))
 rcases Qg hm with ⟨ad, hm⟩ | ⟨ad, hm⟩
 ·refine Qv Z ad (Zc (Zd (O Z Z (Exec.build Z Qx (v := Value.agg #[U 0, U 0, Vs none 0 0, Vs none 0 0, Vs none 0 0]) (fun _ => by kernel_rfl) (O Z Z (Zm (v := QG 50 (x)) Z Z ?_))))))
  have aR := am.f2
  refine O Z Z (Qf (ds := [U 0, U 0, Vs none 0 0, Vs none 0 0, Vs none 0 0]) (es := [U 0, U 0, Vs none 0 0, Vs none 0 0, Vs none 0 0]) aR KH Z Z Z Z (Zj Z (Zj Z (Zj Z (Zj Z (Zj Z Q6))))) (Nat.le_of_ble_eq_true Z) Z ?_)
  intro cd a7
  refine O Z Z (Zo (v := Vs none 0 0) Z Z (O Z Z (Zo (v := QG 50 (x)) Z Z (Zb (V (Q1 (Qj ?_)))))))
  have bO := Zu hm
  subst r
  refine ⟨_, QjB Z ⟨_, _, Z, JY (a7) KH⟩ Z Z, ?_⟩
  have aS := a7.drop
  have aT := aS.drop
  have aU := aT.drop
  have aV := aU.drop
  exact ⟨az, (Vs none 0 0), (Vs none 0 0), (Vs none 0 0), (Vs none 0 0), (Zt k ae), aV, (Qmf Z Z Z), (SliceRep.nil _ _), (SliceRep.nil _ _), (SliceRep.nil _ _), (SliceRep.nil _ _)⟩
 refine Qw Z ad ?_
 replace ad := Zk ad
 refine Qp (V (Zc ?_))
 obtain ⟨ak, j, hm⟩ := Zg hm
 refine QJ (M := fun f' w' => (fun (ak : Bool) => ∃ (aD : PHeap) , PHeap.le az aD ∧ St w0 aD (Res.box p 74 [af, ag, ah, Vb ak] :: Res.box a2 38 [U (a.States), U (a.Init), c, d, g] :: Res.box a3 38 [U 0, U 0, Vs none 0 0, Vs none 0 0, Vs none 0 0] :: Res.arr (Qa .i64) 3 i bJ :: H) w' ∧ f' 4 = Vp (some ⟨a2, 0, none⟩) ∧ f' 6 = Vp (some ⟨a3, 0, none⟩) ∧ f' 9 = i) ak) ?_ ?_
 ·refine Zd (O Z Z (Zm (v := Vp (some ⟨p, 0, none⟩)) Z Z (O Z Z (Zm (v := Vp (some ⟨p, 0, none⟩)) Z Z (O Z Z (QH Z Z (O Z Z (Zp QjH Z Z Z (O Z Z (Zn (am.f4) A4 Z Z Z (O Z Z (Zm (v := Vb (ar.exact)) Z Z ?_))))))))))))
  rcases Qg j with ⟨h, j⟩ | ⟨h, j⟩
  ·refine Qo Z (Zf Z (Zx h)) Z (Zm (v := i) Z Z ?_)
   obtain ⟨a0, b5, j⟩ := Zg j
   have aW := am.f1
   refine Qo Z (Zf Z (Zx h)) Z (Exec.call Z Z Tryz.func84 Z N84 (Zi Z Qk) ((Qah b5 aW).mono ?_))
   rintro _ ce ⟨_, rfl, ⟨bT, bx, aX, rfl⟩⟩
   refine ⟨_, Z, ?_⟩
   refine Qo Z (Zf Z (Zx h)) Z (Zm (v := aq) Z Z ?_)
   obtain ⟨a1, b6, j⟩ := Zg j
   have aY := aX.f1
   refine Qo Z (Zf Z (Zx h)) Z (Exec.call Z Z Tryz.func84 Z N84 (Zi Z Qk) ((Qah b6 aY).mono ?_))
   rintro _ cf ⟨_, rfl, ⟨bC, bz, aZ, rfl⟩⟩
   refine ⟨_, Z, ?_⟩
   refine Qo Z (Zf Z (Zx h)) Z (Exec.eql Z Z Z (O Z Z (Zs (v := Vb (decide (a0 = a1))) Z (Zx h) Z (O Z Z (QH Z Z (O Z Z (Zp QjH Z Z Z ?_)))))))
   have ba := aZ.f4
   refine O Z Z (Qf (ds := [Vb (decide (a0 = a1))]) (es := [af, ag, ah, Vb (decide (a0 = a1))]) ba A4 Z Z Z Z (Zj Z Q6) (Nat.le_of_ble_eq_true Z) Z ?_)
   intro cg bb
   refine Zb (V ?_)
   have bP := Zu j
   subst ak
   have bc := (bb.f1).drop
   have bd := bc.f1
   have be := bd.f2
   have bf := be.f3
   have bg := bf.f3
   exact ⟨bC, (Zt bx bz), bg, Z, Z, Z⟩
  replace h := Zk h
  refine Q0 6 (by rw [h]; rfl) ?_
  refine O Z Z (QH Z Z (O Z Z (Zp QjH Z Z Z ?_)))
  have bh := am.f4
  refine O Z Z (Qf (ds := [Vb false]) (es := [af, ag, ah, Vb false]) bh A4 Z Z Z Z (Zj Z Q6) (Nat.le_of_ble_eq_true Z) Z ?_)
  intro ch bi
  refine Zb (V ?_)
  have bQ := Zu j
  subst ak
  have bj := (bi.f1).drop
  have bk := bj.f1
  have bl := bk.f2
  have bm := bl.f3
  have bn := bm.f3
  exact ⟨az, (Zv _), bn, Z, Z, Z⟩
 intro bS ci aJ
 obtain ⟨bU, an, a8, b1, aB, aC⟩ := aJ
 refine (V (Zc (Zd (O Z Z (Qn (ds := [U (a.States), U (a.Init), c, d, g]) (a8.f1) KH Z b1 Z (O Z Z (Zm (v := i) Z aC ?_)))))))
 obtain ⟨bG, b7, hm⟩ := Zg hm
 obtain ⟨aj, b⟩ := bG
 replace hm := Jf hm
 have bo := a8.f3
 refine O Z Z (Exec.call Z Z Tryz.func85 Z N85 (Zi Z (Zi Z Qk)) ((QcM b7 bo (y.mono (Zt (Zt k ae) an)) (z.mono (Zt (Zt k ae) an)) (aa.mono (Zt (Zt k ae) an))).mono ?_))
 rintro _ cj ⟨_, rfl, ⟨bV, l, m, n, b0, bp, rfl, aw, ax, ay⟩⟩
 refine ⟨_, Z, ?_⟩
 refine O Z Z (Zm (v := Value.tuple #[Value.agg #[U (b.States), U (b.Init), l, m, n], QG 50 (aj)]) Z Z (O Z Z (Exec.extract (v := Value.agg #[U (b.States), U (b.Init), l, m, n]) Z Z Z (O Z Z (Exec.extract (v := QG 50 (aj)) Z Z Z (O Z Z (Exec.alloc (cs := [U 0, U 0, Vs none 0 0, Vs none 0 0, Vs none 0 0]) bp Z38 Z Z ?_)))))))
 intro bL ck bq
 refine O Z Z (Qf (ds := [U (b.States), U (b.Init), l, m, n]) (es := [U (b.States), U (b.Init), l, m, n]) bq KH Z Z Z Z (Zj Z (Zj Z (Zj aw.one (Zj ax.one (Zj ay.one Q6))))) (Nat.le_of_ble_eq_true Z) Z ?_)
 intro cl a9
 refine O Z Z (Zo (v := QG 50 (aj)) Z Z (Zb (V (Zc (Zd (O Z Z (Qn (ds := [U (b.States), U (b.Init), l, m, n]) (a9) KH Z Z Z (O Z Z (Zm (v := i) Z aC (O Z Z (Zm (v := QG 50 (aj)) Z Z ?_)))))))))))
 have br := a9.f4
 refine O Z Z (Qf (ds := [U (b.States), U (b.Init), l, m, n]) (es := [U (b.States), U (b.Init), l, m, n]) br KH Z aB Z Z (Zj Z (Zj Z (Zj aw.one (Zj ax.one (Zj ay.one Q6))))) (Nat.le_of_ble_eq_true Z) Z ?_)
 intro cm aA
 refine O Z Z (Zo (v := i) Z Z (O Z Z (Zo (v := QG 50 (aj)) Z Z (Zb (V (Q1 ?_))))))
 have bR := Zu hm
 subst r
 refine ⟨_, QjB Z ⟨_, _, aB, JY (aA) KH⟩ Z Z, ?_⟩
 have bs := aA.f2
 obtain ⟨bD, ao, bt, b9⟩ := bs.freezeArr
 have bu := bt.drop
 have bv := bu.drop
 have bw := (bv.f1).drop
 exact ⟨bD, i, l, m, n, (Zt (Zt (Zt (Zt k ae) an) b0) ao), bw, (Qmf Z Z Z), b9, (aw.mono ao), (ax.mono ao), (ay.mono ao)⟩
theorem Qld : Jk Tryz.prog 87 1 = some 1 := by kernel_rfl
theorem Qlc : Jk Tryz.prog 87 3 = some 3 := by kernel_rfl
theorem Qf8 : Jk Tryz.prog 74 1 = some 1 := by kernel_rfl
theorem A72 : JI Tryz.prog 72 = some (false, 1) := by kernel_rfl
theorem S72 : Jb Tryz.prog 72 = some (87, 4, 64) := by kernel_rfl
theorem Qna : Jk Tryz.prog 87 2 = some 2 := by kernel_rfl
theorem Qg8 : Jb Tryz.prog 131 = some (35, 1, 24) := by kernel_rfl
theorem Z35 : JA Tryz.prog 35 = some (Value.slice none 0 0) := by kernel_rfl
theorem N86 : (Tryz.f86.name == "runtime.NumGoroutine") = false := by kernel_rfl
theorem Qba {w0 w : World} {s : PHeap} {H : List Res} {h : System} {x : Value} {o : Value} {y : Value} {r : (List (List Edge))} (hm : Km h = some r) (hS : St w0 s (H) w) (am : SliceRep (Qa .i64) s x h.Costs) (p : SliceRep encEdge s o h.Edges) (aP : SliceRep encBool s y h.Goals) :
  Calls Tryz.prog 86 #[Value.agg #[U (h.States), U (h.Init), x, o, y]] w fun e w' => ∃ v, e = .returned v ∧ ((fun (aO : (List (List Edge))) => ∃ (u : PHeap) (al : Value), PHeap.le s u ∧ St w0 u (H) w' ∧ v = al ∧ SliceRep (QE encEdge) u al aO) r) := by
 unfold Km at hm
 refine Qy Tryz.func86 Z Z (Zc (Zd (O Z Z (Exec.box (cs := [U (h.States), U (h.Init), x, o, y]) hS Z Z Z ?_))))
 intro aQ bk ab
 refine O Z Z (Zo (v := Vs none 0 0) Z Z (Zb (V (Zc (Zd (O Z Z (Zp QaQ Z Z Z (O Z Z (Zn (ab) A22 Z Z Z (O Z Z (Zr Jt Z Z am ?_)))))))))))
 obtain ⟨bb, aD, hm⟩ := Zg hm
 refine O Z Z (QbG (F := encEdge) (T2 := 85) ab Qg8 Z35 Z Z Z aD ?_)
 intro b a6 bl ac
 refine O Z Z (Zo (v := b) Z Z (Zb (V (Zc (Zc (Zd (O Z Z (Zp QaF Z Z Z (O Z Z (Zn (ac.f2) A35 Z Z Z (O Z Z (Zr S35 Z Z p (O Z Z (Zm (v := U 0) Z Z (Zb (V ?_))))))))))))))))
 obtain ⟨t, ao, hm⟩ := Zg hm
 refine Qm (J3 (fun k' s' f' w' => (fun (t : (List (List Edge))) => ∃ (ak : PHeap) (n : List Value), PHeap.le s ak ∧ St w0 ak (Res.arr encRaw 35 b n :: Res.rows encEdge 85 n t :: H) w' ∧ f' 3 = b ∧ f' 11 = o ∧ f' 12 = U ((h.Edges.length : Int)) ∧ f' 13 = U (k' : Int)) s') ao ?_ ?_ ?_)
 ·have ar := (ac.f2).drop
  exact ⟨s, a6, (Zv _), ar, Z, Z, Z, Z⟩
 ·intro a8 t aJ aX bm a5 ap g
  obtain ⟨aK, n, af, ad, l, ag, ah, z⟩ := ap
  refine Zc (Zd (O Z Z (Zq Z z ah (Zb (V (Zc (QK (Zx (decide_eq_true (by omega))) (Qp (V (Zc (Qm (Zc (Zd ?_)))))))))))))
  obtain ⟨a, aE, g⟩ := Zg g
  refine O Z Z (Qu S35 Z ag z (p.mono af) aE ?_)
  intro aR be an
  refine O Z Z (Zw (E := encEdge) ad A85 Z Z Z an ?_)
  intro bi aF
  obtain rfl := JM.1 aF
  refine O Z Z (Exec.alloc (cs := [U 0, U 0, U 0]) ad Z85 Z Z ?_)
  intro aS bn au
  refine O Z Z (Qf (ds := [U (a.From), U (a.Label), U (a.To)]) (es := [U (a.From), U (a.Label), U (a.To)]) au A85 Z Z Z Z (Zj Z (Zj Z (Zj Z Q6))) (Nat.le_of_ble_eq_true Z) Z ?_)
  intro bo av
  refine Zb (V (K3 (n0 := 11) (.q 0 (.q 1 (.q 2 (.q 3 (.q 4 (.q 5 (.q 6 (.q 7 (.q 8 (.e 9 [0, 1, 2, 3, 4, 5, 6, 7] (.e 10 [0, 1, 2] .done))))))))))) K8 (by kernel_rfl) (by kernel_rfl) ?_))
  have i := av.drew
  refine Qh Z Z (Zm (v := b) Z l ⟨Z, ?_⟩)
  refine Qh Z Z (Zp Qan Z Z Z ⟨Z, ?_⟩)
  refine Qh Z Z (Zn (i) A3 Z Z Z ⟨Z, ?_⟩)
  refine Qh Z Z (Zm (v := b) Z l ⟨Z, ?_⟩)
  refine Qh Z Z (Zp Qan Z Z Z ⟨Z, ?_⟩)
  refine Qh Z Z (Zn (i) A3 Z Z Z ⟨Z, ?_⟩)
  obtain ⟨bg, ai, g⟩ := Zg g
  obtain ⟨ba, d, aa, _⟩ := (((i.f2).f2).f1).rows_at ai
  obtain ⟨aZ, aU, j⟩ := ((i.f2).f2).arr_at d
  refine Qh Z Z (Qc Qg8 Z j Z (Qe d).1 (Qe d).2.1 ⟨Z, ?_⟩)
  refine Qh Z Z (Qt (F := encRaw) ((i.f2).f2) j A35 Z Z Z d (Sub.refl _) ?_)
  intro aM aj
  replace aj := (Yf.1 aj).1
  subst aM
  refine ⟨Z, ?_⟩
  refine Qh Z Z (Qn (ds := [U (a.From), U (a.Label), U (a.To)]) (i) A85 Z Z Z ⟨Z, ?_⟩)
  refine JH Z Z (Exec.buildSlice (Te := 85) (cs := [U (a.From), U (a.Label), U (a.To)]) i Z (Qb (c := [U (a.From), U (a.Label), U (a.To)]) (Qi Z Z) Qx) (fun _ => by kernel_rfl) ?_)
  intro aT bp m
  refine ⟨(Qd (Q4 Z Z (Zm (v := b) Z l ⟨Z, Z⟩)) (Qd (Q4 Z Z (Zp Qan Z Z Z ⟨Z, Z⟩)) (Qd (Q4 Z Z (Zn (m.f1) A3 Z Z Z ⟨Z, Z⟩)) (Qd (Q4 Z Z (Zm (v := b) Z l ⟨Z, Z⟩)) (Qd (Q4 Z Z (Zp Qan Z Z Z ⟨Z, Z⟩)) (Qd (Q4 Z Z (Zn (m.f1) A3 Z Z Z ⟨Z, Z⟩)) (Qd (Q4 Z Z (Qc Qg8 Z j Z (Qe d).1 (Qe d).2.1 ⟨Z, Z⟩)) (Qd (Q4 Z Z (Qt (F := encRaw) ((m.f3).f3) j A35 Z Z Z d (Sub.refl _) (fun _ q => ⟨Z, (Yf.1 q).1⟩))) QY)))))))), ?_⟩
  have aw := (((m.f3).f3).f1).rows_split aa (Qe ai).2.2
  obtain ⟨bc, aG, g⟩ := Zg g
  have ax := aw.f3
  have ay := ax.f1
  refine JH Z Z (QR (E := encEdge) (ys := [a]) ay S35 Z85 Z (by decide) Z Z Z Z ⟨[U (a.From), U (a.Label), U (a.To)], [], Z, ⟨[U (a.From)], [U (a.Label), U (a.To)], Z, Z, ⟨[U (a.Label)], [U (a.To)], Z, Z, Z⟩⟩, Z⟩ Z aG ?_)
  intro bj bq ae
  refine ⟨(Qd (Q4 Z Z (Zm (v := b) Z l ⟨Z, Z⟩)) (Qd (Q4 Z Z (Zp Qan Z Z Z ⟨Z, Z⟩)) (Qd (Q4 Z Z (Zn (ae.f3) A3 Z Z Z ⟨Z, Z⟩)) QY))), ?_⟩
  refine QC (O Z Z (Qc Qg8 Z j Z (Qe d).1 (Qe d).2.1 ?_))
  obtain ⟨bd, aH, g⟩ := Zg g
  have az := (ae.f2).f2
  have a0 := az.f2
  refine O Z Z (QbF a0 aa j A35 Z Z Z Z aH ?_)
  intro a7 br a1
  refine Zb (Qz (V (Zd (O Z Z (Exec.add Z z Z (O Z Z (Zm (v := U (IntKind.i64.wrap ((a8 : Int) + 1))) Z Z (Zb (V ?_)))))))))
  have aV := Zu g
  subst aJ
  have a2 := (a1.f2).drop
  exact ⟨aK, a7, af, a2, l, ag, ah, (Eq.trans Z (QB a5 (SliceRep.le p)))⟩
 intro aY bs aq
 obtain ⟨bh, n, a9, a3, aB, bf, aC, aN⟩ := aq
 refine Zc (Zd (O Z Z (Zq Z aN aC (Zb (V (Zc (QA (Zx (decide_eq_false (by omega))) (QF (Ql (Ql (Q7 (V (Zc (Zd (O Z Z (Zm (v := b) Z aB (O Z Z (Zo (v := b) Z Z (Zb (V (Q1 ?_)))))))))))))))))))))
 have aW := Zu hm
 subst r
 refine ⟨_, QX Z, ?_⟩
 obtain ⟨aL, aA, a4, aI⟩ := a3.freezeGrid
 exact ⟨aL, b, (Zt a9 aA), a4, Z, aI⟩
end Go.Pw
