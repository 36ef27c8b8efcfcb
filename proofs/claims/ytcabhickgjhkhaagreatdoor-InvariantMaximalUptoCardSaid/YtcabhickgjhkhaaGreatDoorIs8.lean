/-
  The walks (printed by my generator).
-/
import Derived.Test.YtcabhickgjhkhaaGreatDoorL29
import Derived.Test.YtcabhickgjhkhaaGreatDoorL27
import Derived.Test.YtcabhickgjhkhaaGreatDoorIs7
set_option maxRecDepth 100000
set_option maxHeartbeats 4000000
set_option linter.unusedVariables false
namespace Go.Pw
open Go.Proofs
theorem invariant_Candidates_sim {w0 w : World} {s : PHeap} {H : List Res} {fu : Nat} {b : Ground} {d : Value} {f : Value} {g : Value} {h : Value} {i : Value} {r : (List (List Int))} (hm : invariant_Candidates_p fu b = some r) (hS : St w0 s (H) w) (l : SliceRep encAtom s d b.Atoms) (m : SliceRep encGFluent s f b.Fluents) (n : SliceRep (encInt .i64) s g b.Init) (o : SliceRep encCond s h b.Goal) (p : SliceRep encGOp s i b.Ops) (ht : TabR Tryz.prog w0 s) :
  Calls Tryz.prog 15 #[Value.agg #[d, f, g, h, i]] w fun e w' => ∃ v, e = .returned v ∧ ((fun (ae : (List (List Int))) => ∃ (k : PHeap) (t : Value), PHeap.le s k ∧ St w0 k (H) w' ∧ v = t ∧ SliceRep (encSlice (encInt .i64)) k t ae) r) := by
 unfold invariant_Candidates_p at hm
 refine calls_of_W Tryz.func15 rfl rfl (Zc (Zd (Za rfl rfl (Exec.box (cs := [d, f, g, h, i]) hS rfl rfl rfl ?_))))
 intro af ai q
 refine Za rfl rfl (Zo (v := Value.slice none 0 0) rfl rfl (Zb (Ze (Zc (Zc (Zd (Za rfl rfl (Exec.load_box_agg (ds := [d, f, g, h, i]) (q) A28 rfl rfl rfl ?_))))))))
 obtain ⟨al, z, hm⟩ := Zg hm
 refine Za rfl rfl (Tc rfl rfl rfl (Zi rfl args_nil) (ground_Valid_sim z q l m n o p).r ?_)
 rintro _ aj ⟨ac, a, j, rfl⟩
 refine Za rfl rfl (Exec.not rfl rfl (Zb (Ze ?_)))
 rcases ite_some hm with ⟨c, hm⟩ | ⟨c, hm⟩
 ·refine W_cond_t rfl c (Zc (Zd (Za rfl rfl (Zo (v := Value.slice none 0 0) rfl rfl (Zb (Ze (W_ret (at_ret ?_))))))))
  have ag := Zu hm
  subst r
  refine ⟨_, ret1 rfl, ?_⟩
  exact ⟨ac, (Value.slice none 0 0), a, (j).drop, rfl, (SliceRep.nil _ _)⟩
 refine W_cond_f rfl c ?_
 replace c := Zk c
 refine W_skip (Ze (Zc (Zd (Za rfl rfl (Exec.load_box_agg (ds := [d, f, g, h, i]) (j) A28 rfl rfl rfl ?_)))))
 obtain ⟨am, aa, hm⟩ := Zg hm
 refine Za rfl rfl (Tc rfl rfl rfl (Zi rfl args_nil) (invariant_candidates_sim aa j (l.mono a) (m.mono a) (n.mono a) (o.mono a) (p.mono a) (ht.mono a)).r ?_)
 rintro u ak ⟨ad, _, y, x, rfl, ab⟩
 refine Za rfl rfl (Zo (v := u) rfl rfl (Zb (Ze (W_ret ?_))))
 have ah := Zu hm
 subst r
 refine ⟨_, ret1 rfl, ?_⟩
 exact ⟨ad, u, (Zt a y), (x).drop, rfl, ab⟩
theorem law20_covered_sim {w0 w : World} {s : PHeap} {H : List Res} {l : (List (List Int))} {t : (List Int)} {i : Value} {c : Value} {r : Int × Bool} (hm : law20_covered_p l t = some r) (hS : St w0 s (H) w) (ag : SliceRep (encSlice (encInt .i64)) s i l) (aa : SliceRep (encInt .i64) s c t) :
  Calls Tryz.prog 16 #[i, c] w fun e w' => ∃ v, e = .returned v ∧ ((un2 fun (cl : Int) (cm : Bool) => ∃ (aC : PHeap) , PHeap.le s aC ∧ St w0 aC (H) w' ∧ v = Value.tuple #[Vi (cl), Value.bool (cm)]) r) := by
 unfold law20_covered_p at hm
 refine calls_of_W Tryz.func16 rfl rfl (Zc (Zd (Za rfl rfl (Zo (v := Vi (0)) rfl rfl (Za rfl rfl (Zo (v := Value.bool (false)) rfl rfl (Zb (Ze (Zc (Zc (Zd (Za rfl rfl (Zm (v := i) rfl rfl (Za rfl rfl (Zr S36 rfl rfl ag (Za rfl rfl (Zm (v := Vi (0)) rfl rfl (Zb (Ze ?_)))))))))))))))))))
 obtain ⟨an, aQ, bn, bl, bh⟩ := ctl_some hm
 refine W_mid (M := fun f' w' => ∃ s', (an = .next s' ∨ an = .brk s') ∧ (fun (_ : Unit) => ∃ (aD : PHeap) , PHeap.le s aD ∧ St w0 aD (H) w' ∧ f' 1 = c ∧ f' 14 = i ∧ f' 15 = Vi ((l.length : Int))) s') ?_ ?_
 ·refine W_block (W_forC (fun k' s' f' w' => (fun (_ : Unit) => ∃ (aE : PHeap) , PHeap.le s aE ∧ St w0 aE (H) w' ∧ f' 1 = c ∧ f' 14 = i ∧ f' 15 = Vi ((l.length : Int)) ∧ f' 16 = Vi (k' : Int)) s') aQ ?_ ?_ ?_)
  ·exact ⟨s, (Zv _), hS, rfl, rfl, rfl, rfl⟩
  ·intro b cH ao cy cM bi aT a bo
   obtain ⟨aF, m, ap, bu, ay, az, ae⟩ := aT
   refine Zc (Zd (Za rfl rfl (Zq rfl ae az (Zb (Ze (Zc (W_true (Zx (decide_eq_true (by omega))) (W_skip (Ze (Zc (W_block (Zc (Zd (Za rfl rfl (Zm (v := Vi ((b : Int))) rfl ae ?_)))))))))))))))
   obtain ⟨al, bU, a⟩ := Zg a
   refine Za rfl rfl (Exec.index_rep S36 rfl ay ae (ag.mono m) bU ?_)
   intro cn c7 aN
   refine Za rfl rfl (Zw (E := (encSlice (encInt .i64))) ap A24 rfl rfl rfl aN ?_)
   intro o bV
   have ad : SliceRep _ _ _ (al) := encSlice_val.1 bV
   refine Za rfl rfl (Zo (v := Vi ((b : Int))) rfl rfl (Za rfl rfl (Zo (v := o) rfl rfl (Zb (Ze (Zc (Zd (Za rfl rfl (Exec.make_bmap (k := 3) (e := 4) ap rfl ?_)))))))))
   intro d cN bb
   refine Za rfl rfl (Zo (v := Value.map (some d)) rfl rfl (Zb (Ze (Zc (Zc (Zd (Za rfl rfl (Zm (v := o) rfl rfl (Za rfl rfl (Zr S24 rfl rfl ad (Za rfl rfl (Zm (v := Vi (0)) rfl rfl (Zb (Ze ?_))))))))))))))
   obtain ⟨z, aR, a⟩ := Zg a
   refine W_block (W_forS (fun k' s' f' w' => (fun (z : BMap) => ∃ (aG : PHeap) , PHeap.le aF aG ∧ St w0 aG (Res.bmap Tryz.prog 3 4 d z :: H) w' ∧ f' 1 = c ∧ f' 6 = Vi ((b : Int)) ∧ f' 7 = o ∧ f' 8 = Value.map (some d) ∧ f' 14 = i ∧ f' 15 = Vi ((l.length : Int)) ∧ f' 16 = Vi ((b : Int)) ∧ f' 22 = o ∧ f' 23 = Vi ((al.length : Int)) ∧ f' 24 = Vi (k' : Int)) s') aR ?_ ?_ ?_)
   ·exact ⟨aF, (Zv _), bb, bu, rfl, rfl, rfl, ay, az, ae, rfl, rfl, rfl⟩
   ·intro bq z cc cz cO bj aU x
    obtain ⟨cd, aw, aq, bv, bw, bx, a0, bz, b0, b1, a1, a2, am⟩ := aU
    refine Zc (Zd (Za rfl rfl (Zq rfl am a2 (Zb (Ze (Zc (W_true (Zx (decide_eq_true (by omega))) (W_skip (Ze (Zc (W_block (Zc (Zd ?_)))))))))))))
    obtain ⟨aL, bW, x⟩ := Zg x
    refine Za rfl rfl (Exec.index_rep S24 rfl a1 am (ad.mono aw) bW ?_)
    intro co c8 aO
    refine Za rfl rfl (Zw (E := (encInt .i64)) aq A3 rfl rfl rfl aO ?_)
    intro cK bX
    obtain rfl := encInt_val.1 bX
    refine Za rfl rfl (Zo (v := Vi (aL)) rfl rfl (Zb (Ze (Zd (Za rfl rfl (Zm (v := Value.map (some d)) rfl a0 (Za rfl rfl (Zm (v := Vi (aL)) rfl rfl ?_))))))))
    obtain ⟨c6, bY, x⟩ := Zg x
    refine Za rfl rfl (Exec.bmap_put aq ⟨Tryz.underlying34, Tryz.underlying3, Tryz.underlying4⟩ rfl rfl rfl rfl bY ?_)
    intro cP bc
    refine Zb (ib_normal (Ze (Zd (Za rfl rfl (Exec.add rfl am rfl (Za rfl rfl (Zm (v := Vi (IntKind.i64.wrap ((bq : Int) + 1))) rfl rfl (Zb (Ze ?_)))))))))
    have cq := Zu x
    subst cc
    exact ⟨cd, aw, bc, bv, bw, bx, a0, bz, b0, b1, a1, a2, (Eq.trans rfl (wrap_up bj (SliceRep.le ad)))⟩
   intro c0 cQ aV
   obtain ⟨aH, n, bd, a3, b2, b3, b4, b5, b6, b7, cA, b8, ci⟩ := aV
   refine Zc (Zd (Za rfl rfl (Zq rfl ci b8 (Zb (Ze (Zc (W_false (Zx (decide_eq_false (by omega))) (W_exit (at_exit (at_exit (ib_here (Ze (Zc (Zd (Za rfl rfl (Zo (v := Value.bool (true)) rfl rfl (Zb (Ze (Zc (Zc (Zd (Za rfl rfl (Zm (v := c) rfl a3 (Za rfl rfl (Zr S24 rfl rfl (aa.mono (Zt m n)) (Za rfl rfl (Zm (v := Vi (0)) rfl rfl (Zb (Ze ?_)))))))))))))))))))))))))))))
   obtain ⟨p, aS, a⟩ := Zg a
   refine W_block (W_forS (fun k' s' f' w' => (fun (p : Bool) => ∃ (aI : PHeap) , PHeap.le aH aI ∧ St w0 aI (Res.bmap Tryz.prog 3 4 d z :: H) w' ∧ f' 1 = c ∧ f' 6 = Vi ((b : Int)) ∧ f' 7 = o ∧ f' 8 = Value.map (some d) ∧ f' 11 = Value.bool (p) ∧ f' 14 = i ∧ f' 15 = Vi ((l.length : Int)) ∧ f' 16 = Vi ((b : Int)) ∧ f' 31 = c ∧ f' 32 = Vi ((t.length : Int)) ∧ f' 33 = Vi (k' : Int)) s') aS ?_ ?_ ?_)
   ·exact ⟨aH, (Zv _), bd, a3, b2, b3, b4, rfl, b5, b6, b7, rfl, rfl, rfl⟩
   ·intro av p ce c1 cR bk aW y
    obtain ⟨ak, ax, ab, a4, a5, a6, ah, b9, a7, a8, a9, ai, aj, af⟩ := aW
    refine Zc (Zd (Za rfl rfl (Zq rfl af aj (Zb (Ze (Zc (W_true (Zx (decide_eq_true (by omega))) (W_skip (Ze (Zc (W_block (Zc (Zd ?_)))))))))))))
    obtain ⟨aM, bZ, y⟩ := Zg y
    refine Za rfl rfl (Exec.index_rep S24 rfl ai af (aa.mono (Zt (Zt m n) ax)) bZ ?_)
    intro cp c9 aP
    refine Za rfl rfl (Zw (E := (encInt .i64)) ab A3 rfl rfl rfl aP ?_)
    intro cL ca
    obtain rfl := encInt_val.1 ca
    refine Za rfl rfl (Zo (v := Vi (aM)) rfl rfl (Zb (Ze ?_)))
    obtain ⟨q, j, y⟩ := Zg y
    refine W_mid (M := fun f' w' => (fun (q : Bool) => ∃ (aJ : PHeap) , PHeap.le ak aJ ∧ St w0 aJ (Res.bmap Tryz.prog 3 4 d z :: H) w' ∧ f' 1 = c ∧ f' 6 = Vi ((b : Int)) ∧ f' 7 = o ∧ f' 8 = Value.map (some d) ∧ f' 11 = Value.bool (q) ∧ f' 14 = i ∧ f' 15 = Vi ((l.length : Int)) ∧ f' 16 = Vi ((b : Int)) ∧ f' 31 = c ∧ f' 32 = Vi ((t.length : Int)) ∧ f' 33 = Vi ((av : Int))) q) ?_ ?_
    ·refine Zd (Za rfl rfl (Zm (v := Value.bool (p)) rfl b9 (Za rfl rfl (Zm (v := Value.bool (p)) rfl rfl ?_))))
     rcases ite_some j with ⟨g, j⟩ | ⟨g, j⟩
     ·refine WL_run rfl (Zf rfl (Zx g)) rfl (Zm (v := Value.map (some d)) rfl ah (WL_run rfl (Zf rfl (Zx g)) rfl (Zm (v := Vi (aM)) rfl rfl ?_)))
      obtain ⟨cG, cb, j⟩ := Zg j
      refine WL_run rfl (Zf rfl (Zx g)) rfl (Exec.bmap_get (ab) ⟨Tryz.underlying34, Tryz.underlying3, Tryz.underlying4⟩ Z4 rfl rfl rfl cb ?_)
      refine WL_passes 2 (by rw [g]; rfl) ?_
      refine Zb (Ze ?_)
      have cr := Zu j
      subst q
      exact ⟨ak, (Zv _), ab, a4, a5, a6, ah, rfl, a7, a8, a9, ai, aj, af⟩
     replace g := Zk g
     refine WL_passes 5 (by rw [g]; rfl) ?_
     refine Zb (Ze ?_)
     have cs := Zu j
     subst q
     exact ⟨ak, (Zv _), ab, a4, a5, a6, ah, rfl, a7, a8, a9, ai, aj, af⟩
    intro c2 cS aZ
    obtain ⟨cf, br, be, bA, bB, bC, bD, bE, bF, bG, bH, bI, bJ, bK⟩ := aZ
    refine (ib_normal (Ze (Zd (Za rfl rfl (Exec.add rfl bK rfl (Za rfl rfl (Zm (v := Vi (IntKind.i64.wrap ((av : Int) + 1))) rfl rfl (Zb (Ze ?_)))))))))
    have ct := Zu y
    subst ce
    exact ⟨cf, (Zt ax br), be, bA, bB, bC, bD, bE, bF, bG, bH, bI, bJ, (Eq.trans rfl (wrap_up bk (SliceRep.le (aa.mono (Zt m n)))))⟩
   intro c3 cT aX
   obtain ⟨aK, ac, ar, aA, bL, bM, cB, bN, bO, bP, bQ, cC, bR, cj⟩ := aX
   refine Zc (Zd (Za rfl rfl (Zq rfl cj bR (Zb (Ze (Zc (W_false (Zx (decide_eq_false (by omega))) (W_exit (at_exit (at_exit (ib_here (Ze (Zc (Zd (Za rfl rfl (Zm (v := Value.bool (p)) rfl bN (Zb (Ze ?_))))))))))))))))))
   rcases ite_some a with ⟨u, a⟩ | ⟨u, a⟩
   ·refine W_cond_t rfl u (Zc (Zd (Za rfl rfl (Zm (v := Vi ((b : Int))) rfl bL (Za rfl rfl (Zm (v := o) rfl bM (Za rfl rfl (Zr S24 rfl rfl (ad.mono (Zt n ac)) (Za rfl rfl (Zm (v := c) rfl aA (Za rfl rfl (Zr S24 rfl rfl (aa.mono (Zt (Zt m n) ac)) (Za rfl rfl (Exec.eql rfl rfl rfl (Za rfl rfl (Zo (v := Vi ((b : Int))) rfl rfl (Za rfl rfl (Zo (v := Value.bool (decide ((al.length : Int) = (t.length : Int)))) rfl rfl (Zb (Ze (W_ret (ib_ret (at_ret (at_ret (ib_ret (at_ret (at_ret ?_)))))))))))))))))))))))))))
    have cu := Zu a
    subst ao
    have bm := bn _ (bo (by intro _ h; cases h))
    have cv := Zu bm
    subst r
    refine ⟨_, ret2 rfl, ?_⟩
    exact ⟨aK, (Zt (Zt m n) ac), (ar).drop, (tup2 rfl rfl)⟩
   refine W_cond_f rfl u ?_
   replace u := Zk u
   refine W_skip (ib_normal (Ze (Zd (Za rfl rfl (Exec.add rfl bQ rfl (Za rfl rfl (Zm (v := Vi (IntKind.i64.wrap ((b : Int) + 1))) rfl rfl (Zb (Ze ?_)))))))))
   have cw := Zu a
   subst ao
   refine ⟨_, rfl, ?_⟩; exact ⟨aK, (Zt (Zt m n) ac), (ar).drop, aA, bO, bP, (Eq.trans rfl (wrap_up bi (SliceRep.le ag)))⟩
  intro cI c4 cU aY bp
  obtain ⟨cg, bs, bf, bS, bT, aB, ck⟩ := aY
  refine Zc (Zd (Za rfl rfl (Zq rfl ck aB (Zb (Ze (Zc (W_false (Zx (decide_eq_false (by omega))) (W_exit (at_exit (at_exit (ib_here (Ze ?_))))))))))))
  refine ⟨_, .inl bp, ?_⟩; exact ⟨cg, bs, bf, bS, bT, aB⟩
 rintro c5 cV ⟨cJ, au, ba⟩
 have hm := au.elim (bl _) (bh _)
 clear au
 obtain ⟨ch, bt, bg, cD, cE, cF⟩ := ba
 refine (Ze (Zc (Zd (Za rfl rfl (Zo (v := Vi ((-1))) rfl rfl (Za rfl rfl (Zo (v := Value.bool (false)) rfl rfl (Zb (Ze (W_ret ?_))))))))))
 have cx := Zu hm
 subst r
 refine ⟨_, ret2 rfl, ?_⟩
 exact ⟨ch, bt, bg, (tup2 rfl rfl)⟩
theorem law20_InvariantMaximal_sim {w0 w : World} {s : PHeap} {H : List Res} {fu : Nat} {ab : Ground} {g : Value} {i : Value} {j : Value} {l : Value} {m : Value} {r : Bool} (hm : law20_InvariantMaximal_p fu ab = some r) (hS : St w0 s (H) w) (ao : SliceRep encAtom s g ab.Atoms) (ap : SliceRep encGFluent s i ab.Fluents) (aq : SliceRep (encInt .i64) s j ab.Init) (ar : SliceRep encCond s l ab.Goal) (au : SliceRep encGOp s m ab.Ops) (ht : TabR Tryz.prog w0 s) :
  Calls Tryz.prog 5 #[Value.agg #[g, i, j, l, m]] w fun e w' => ∃ v, e = .returned v ∧ ((fun (bU : Bool) => ∃ (aY : PHeap) , PHeap.le s aY ∧ St w0 aY (H) w' ∧ v = Value.bool (bU)) r) := by
 unfold law20_InvariantMaximal_p at hm
 refine calls_of_W Tryz.func5 rfl rfl (Zc (Zd (Za rfl rfl (Exec.box (cs := [g, i, j, l, m]) hS rfl rfl rfl ?_))))
 intro q c0 bm
 refine Za rfl rfl (Zo (v := Value.bool (false)) rfl rfl (Zb (Ze (Zc (Zc ?_)))))
 obtain ⟨am, p, hm⟩ := Zg hm
 refine W_mid (M := fun f' w' => (fun (am : Bool) => ∃ (aZ : PHeap) , PHeap.le s aZ ∧ St w0 aZ (Res.box q 28 [g, i, j, l, m] :: H) w' ∧ f' 1 = Value.pointer (some ⟨q, 0, none⟩) ∧ f' 16 = Value.bool (am)) am) ?_ ?_
 ·refine Zd ?_
  obtain ⟨bV, bA, p⟩ := Zg p
  refine Za rfl rfl (Tc rfl rfl rfl args_nil (law20_awake_sim bA bm  ht).r ?_)
  rintro _ c1 ⟨bJ, y, a6, rfl⟩
  refine Za rfl rfl (Exec.not rfl rfl (Za rfl rfl (Zm (v := Value.bool (!bV)) rfl rfl ?_)))
  rcases ite_some p with ⟨t, p⟩ | ⟨t, p⟩
  ·refine WL_passes 4 (by rw [t]; rfl) ?_
   refine Zb (Ze ?_)
   have cb := Zu p
   subst am
   exact ⟨bJ, y, a6, rfl, rfl⟩
  replace t := Zk t
  refine WL_run rfl (Zf rfl (Zx t)) rfl (Exec.load_box_agg (ds := [g, i, j, l, m]) (a6) A28 rfl rfl rfl ?_)
  obtain ⟨bW, bB, p⟩ := Zg p
  refine WL_run rfl (Zf rfl (Zx t)) rfl (Tc rfl rfl rfl (Zi rfl args_nil) (law20_few_sim bB a6 (ao.mono y) (ap.mono y) (aq.mono y) (ar.mono y) (au.mono y)).r ?_)
  rintro _ c2 ⟨bK, bz, bn, rfl⟩
  refine WL_run rfl (Zf rfl (Zx t)) rfl (Exec.not rfl rfl (Za rfl rfl (Exec.pick_f (v := Value.bool (!bW)) rfl (Zx t) rfl (Zb (Ze ?_)))))
  have cc := Zu p
  subst am
  exact ⟨bK, (Zt y bz), bn, rfl, rfl⟩
 intro cp c3 bj
 obtain ⟨cz, b, a7, aA, aS⟩ := bj
 refine (Ze ?_)
 rcases ite_some hm with ⟨ad, hm⟩ | ⟨ad, hm⟩
 ·refine W_cond_t aS ad (Zc (Zd ?_))
  obtain ⟨bX, bC, hm⟩ := Zg hm
  refine Za rfl rfl (Tc rfl rfl rfl args_nil (law20_awake_sim bC a7  (ht.mono b)).r ?_)
  rintro _ c4 ⟨bL, b0, bo, rfl⟩
  refine Za rfl rfl (Zo (v := Value.bool (bX)) rfl rfl (Zb (Ze (W_ret (at_ret ?_)))))
  have cd := Zu hm
  subst r
  refine ⟨_, ret1 rfl, ?_⟩
  exact ⟨bL, (Zt b b0), (bo).drop, rfl⟩
 refine W_cond_f aS ad ?_
 replace ad := Zk ad
 refine W_skip (Ze (Zc (Zd (Za rfl rfl (Exec.load_box_agg (ds := [g, i, j, l, m]) (a7) A28 rfl aA rfl ?_)))))
 obtain ⟨bR, bD, hm⟩ := Zg hm
 obtain ⟨bY, a4⟩ := bR
 replace hm := un2_eq hm
 refine Za rfl rfl (Tc rfl rfl rfl (Zi rfl args_nil) (invariant_Groups_sim bD a7 (ao.mono b) (ap.mono b) (aq.mono b) (ar.mono b) (au.mono b) (ht.mono b)).r ?_)
 rintro _ c5 ⟨bM, u, c, a8, rfl, aX⟩
 refine Za rfl rfl (Zm (v := Value.tuple #[u, errV 45 (a4)]) rfl rfl (Za rfl rfl (Exec.extract (v := u) rfl rfl rfl (Za rfl rfl (Exec.extract (v := errV 45 (a4)) rfl rfl rfl (Za rfl rfl (Zo (v := u) rfl rfl (Za rfl rfl (Zo (v := errV 45 (a4)) rfl rfl (Zb (Ze (Zc (Zc (Zd (Za rfl rfl (Zm (v := errV 45 (a4)) rfl rfl (Za rfl rfl (Exec.err_neq_nil (T := 45) Tryz.underlying38 rfl rfl rfl (Zb (Ze ?_))))))))))))))))))))
 rcases ite_some hm with ⟨ae, hm⟩ | ⟨ae, hm⟩
 ·refine W_cond_t rfl ae (Zc (Zd (Za rfl rfl (Zo (v := Value.bool (false)) rfl rfl (Zb (Ze (W_ret (at_ret ?_))))))))
  have ce := Zu hm
  subst r
  refine ⟨_, ret1 rfl, ?_⟩
  exact ⟨bM, (Zt b c), (a8).drop, rfl⟩
 refine W_cond_f rfl ae ?_
 replace ae := Zk ae
 refine W_skip (Ze (Zc (Zd (Za rfl rfl (Zo (v := Vi (0)) rfl rfl (Zb (Ze (Zc (Zc (Zd (Za rfl rfl (Exec.load_box_agg (ds := [g, i, j, l, m]) (a8) A28 rfl aA rfl ?_))))))))))))
 obtain ⟨aL, bE, hm⟩ := Zg hm
 refine Za rfl rfl (Tc rfl rfl rfl (Zi rfl args_nil) (invariant_Candidates_sim bE a8 (ao.mono (Zt b c)) (ap.mono (Zt b c)) (aq.mono (Zt b c)) (ar.mono (Zt b c)) (au.mono (Zt b c)) (ht.mono (Zt b c))).r ?_)
 rintro aK c6 ⟨aJ, _, n, bp, rfl, aj⟩
 refine Za rfl rfl (Zr S36 rfl rfl aj (Za rfl rfl (Zm (v := Vi (0)) rfl rfl (Zb (Ze ?_)))))
 obtain ⟨aM, bg, aP, bu, bt⟩ := ctl_some hm
 refine W_mid (M := fun f' w' => ∃ s', (aM = .next s' ∨ aM = .brk s') ∧ (fun (a2 : Int) => ∃ (ba : PHeap) , PHeap.le aJ ba ∧ St w0 ba (Res.box q 28 [g, i, j, l, m] :: H) w' ∧ f' 1 = Value.pointer (some ⟨q, 0, none⟩) ∧ f' 3 = u ∧ f' 5 = Vi (a2) ∧ f' 26 = aK ∧ f' 27 = Vi ((aL.length : Int))) s') ?_ ?_
 ·refine W_block (W_forC (fun k' s' f' w' => (fun (aa : Int) => ∃ (bb : PHeap) , PHeap.le aJ bb ∧ St w0 bb (Res.box q 28 [g, i, j, l, m] :: H) w' ∧ f' 1 = Value.pointer (some ⟨q, 0, none⟩) ∧ f' 3 = u ∧ f' 5 = Vi (aa) ∧ f' 26 = aK ∧ f' 27 = Vi ((aL.length : Int)) ∧ f' 28 = Vi (k' : Int)) s') bg ?_ ?_ ?_)
  ·exact ⟨aJ, (Zv _), bp, aA, rfl, rfl, rfl, rfl, rfl⟩
  ·intro ax aa ac cq c7 a9 bh a aQ
   obtain ⟨bc, d, av, aB, aT, aU, aC, aD, a3⟩ := bh
   refine Zc (Zd (Za rfl rfl (Zq rfl a3 aD (Zb (Ze (Zc (W_true (Zx (decide_eq_true (by omega))) (W_skip (Ze (Zc (W_block (Zc (Zd ?_)))))))))))))
   obtain ⟨be, bF, a⟩ := Zg a
   refine Za rfl rfl (Exec.index_rep S36 rfl aC a3 (aj.mono d) bF ?_)
   intro ca cv bf
   refine Za rfl rfl (Zw (E := (encSlice (encInt .i64))) av A24 rfl rfl rfl bf ?_)
   intro ak bG
   have aI : SliceRep _ _ _ (be) := encSlice_val.1 bG
   refine Za rfl rfl (Zo (v := ak) rfl rfl (Zb (Ze (Zc (Zc ?_)))))
   obtain ⟨an, x, a⟩ := Zg a
   refine W_mid (M := fun f' w' => (fun (an : Bool) => ∃ (bd : PHeap) , PHeap.le bc bd ∧ St w0 bd (Res.box q 28 [g, i, j, l, m] :: H) w' ∧ f' 1 = Value.pointer (some ⟨q, 0, none⟩) ∧ f' 3 = u ∧ f' 5 = Vi (aa) ∧ f' 7 = ak ∧ f' 26 = aK ∧ f' 27 = Vi ((aL.length : Int)) ∧ f' 28 = Vi ((ax : Int)) ∧ f' 40 = Value.bool (an)) an) ?_ ?_
   ·refine Zd (Za rfl rfl (Zm (v := ak) rfl rfl (Za rfl rfl (Zr S24 rfl rfl aI (Za rfl rfl (Zq rfl rfl rfl (Za rfl rfl (Zm (v := Value.bool (decide ((be.length : Int) < 2))) rfl rfl ?_))))))))
    rcases ite_some x with ⟨o, x⟩ | ⟨o, x⟩
    ·refine WL_passes 5 (by rw [o]; rfl) ?_
     refine Zb (Ze ?_)
     have cf := Zu x
     subst an
     exact ⟨bc, (Zv _), av, aB, aT, aU, rfl, aC, aD, a3, rfl⟩
    replace o := Zk o
    refine WL_run rfl (Zf rfl (Zx o)) rfl (Exec.load_box_agg (ds := [g, i, j, l, m]) (av) A28 rfl aB rfl (WL_run rfl (Zf rfl (Zx o)) rfl (Zm (v := ak) rfl rfl ?_)))
    obtain ⟨bZ, bH, x⟩ := Zg x
    refine WL_run rfl (Zf rfl (Zx o)) rfl (Tc rfl rfl rfl (Zi rfl (Zi rfl args_nil)) (invariant_Balanced_sim bH av (ao.mono (Zt (Zt (Zt b c) n) d)) (ap.mono (Zt (Zt (Zt b c) n) d)) (aq.mono (Zt (Zt (Zt b c) n) d)) (ar.mono (Zt (Zt (Zt b c) n) d)) (au.mono (Zt (Zt (Zt b c) n) d)) aI).r ?_)
    rintro _ c8 ⟨bN, b1, bq, rfl⟩
    refine WL_run rfl (Zf rfl (Zx o)) rfl (Exec.not rfl rfl (Za rfl rfl (Exec.pick_f (v := Value.bool (!bZ)) rfl (Zx o) rfl (Zb (Ze ?_)))))
    have cg := Zu x
    subst an
    exact ⟨bN, b1, bq, aB, aT, aU, rfl, aC, aD, a3, rfl⟩
   intro cr c9 bk
   obtain ⟨bO, z, aN, aE, az, a0, b3, aF, aG, aH, aV⟩ := bk
   refine (Ze ?_)
   rcases ite_some a with ⟨af, a⟩ | ⟨af, a⟩
   ·refine W_cond_t aV af (W_exit (at_exit (ib_here (Ze (Zd (Za rfl rfl (Exec.add rfl aH rfl (Za rfl rfl (Zm (v := Vi (IntKind.i64.wrap ((ax : Int) + 1))) rfl rfl (Zb (Ze ?_)))))))))))
    have ch := Zu a
    subst ac
    refine ⟨_, rfl, ?_⟩; exact ⟨bO, (Zt d z), aN, aE, az, a0, aF, aG, (Eq.trans rfl (wrap_up a9 (SliceRep.le aj)))⟩
   refine W_cond_f aV af ?_
   replace af := Zk af
   refine W_skip (Ze (Zc (Zd (Za rfl rfl (Zm (v := u) rfl az (Za rfl rfl (Zm (v := ak) rfl b3 ?_)))))))
   obtain ⟨bS, bI, a⟩ := Zg a
   obtain ⟨al, a5⟩ := bS
   replace a := un2_eq a
   refine Za rfl rfl (Tc rfl rfl rfl (Zi rfl (Zi rfl args_nil)) (law20_covered_sim bI aN (aX.mono (Zt (Zt n d) z)) (aI.mono z)).r ?_)
   rintro _ cA ⟨a1, ay, aw, rfl⟩
   refine Za rfl rfl (Zm (v := Value.tuple #[Vi (al), Value.bool (a5)]) rfl rfl (Za rfl rfl (Exec.extract (v := Vi (al)) rfl rfl rfl (Za rfl rfl (Exec.extract (v := Value.bool (a5)) rfl rfl rfl (Za rfl rfl (Zo (v := Vi (al)) rfl rfl (Za rfl rfl (Zo (v := Value.bool (a5)) rfl rfl (Zb (Ze (Zc (Zc (Zd (Za rfl rfl (Zm (v := Vi (al)) rfl rfl (Za rfl rfl (Zq rfl rfl rfl (Zb (Ze ?_))))))))))))))))))))
   rcases ite_some a with ⟨ag, a⟩ | ⟨ag, a⟩
   ·refine W_cond_t rfl ag (Zc (Zd (Za rfl rfl (Zo (v := Value.bool (false)) rfl rfl (Zb (Ze (W_ret (at_ret (ib_ret (at_ret (at_ret (ib_ret (at_ret (at_ret ?_))))))))))))))
    have ci := Zu a
    subst ac
    have bv := aP _ (aQ (by intro _ h; cases h))
    have cj := Zu bv
    subst r
    refine ⟨_, ret1 rfl, ?_⟩
    exact ⟨a1, (Zt (Zt (Zt (Zt (Zt b c) n) d) z) ay), (aw).drop, rfl⟩
   refine W_cond_f rfl ag ?_
   replace ag := Zk ag
   refine W_skip (Ze (Zc (Zd (Za rfl rfl (Zm (v := Value.bool (a5)) rfl rfl (Zb (Ze ?_)))))))
   rcases ite_some a with ⟨ah, a⟩ | ⟨ah, a⟩
   ·refine W_cond_t rfl ah (Zc (Zc (Zd (Za rfl rfl (Zm (v := Vi (al)) rfl rfl (Za rfl rfl (Zm (v := Vi (aa)) rfl a0 (Za rfl rfl (Exec.neq rfl rfl rfl (Zb (Ze ?_)))))))))))
    rcases ite_some a with ⟨ai, a⟩ | ⟨ai, a⟩
    ·refine W_cond_t rfl ai (Zc (Zd (Za rfl rfl (Zo (v := Value.bool (false)) rfl rfl (Zb (Ze (W_ret (at_ret (ib_ret (at_ret (at_ret (ib_ret (at_ret (at_ret ?_))))))))))))))
     have ck := Zu a
     subst ac
     have bw := aP _ (aQ (by intro _ h; cases h))
     have cl := Zu bw
     subst r
     refine ⟨_, ret1 rfl, ?_⟩
     exact ⟨a1, (Zt (Zt (Zt (Zt (Zt b c) n) d) z) ay), (aw).drop, rfl⟩
    refine W_cond_f rfl ai ?_
    replace ai := Zk ai
    refine W_skip (Ze (Zd (Za rfl rfl (Zm (v := Vi (aa)) rfl a0 (Za rfl rfl (Exec.add rfl rfl rfl (Za rfl rfl (Zo (v := Vi (IntKind.i64.wrap (aa + 1))) rfl rfl (Zb (ib_normal (Ze (Zd (Za rfl rfl (Exec.add rfl aH rfl (Za rfl rfl (Zm (v := Vi (IntKind.i64.wrap ((ax : Int) + 1))) rfl rfl (Zb (Ze ?_))))))))))))))))))
    have cm := Zu a
    subst ac
    refine ⟨_, rfl, ?_⟩; exact ⟨a1, (Zt (Zt d z) ay), aw, aE, az, rfl, aF, aG, (Eq.trans rfl (wrap_up a9 (SliceRep.le aj)))⟩
   refine W_cond_f rfl ah ?_
   replace ah := Zk ah
   refine W_skip (ib_normal (Ze (Zd (Za rfl rfl (Exec.add rfl aH rfl (Za rfl rfl (Zm (v := Vi (IntKind.i64.wrap ((ax : Int) + 1))) rfl rfl (Zb (Ze ?_)))))))))
   have cn := Zu a
   subst ac
   refine ⟨_, rfl, ?_⟩; exact ⟨a1, (Zt (Zt d z) ay), aw, aE, az, a0, aF, aG, (Eq.trans rfl (wrap_up a9 (SliceRep.le aj)))⟩
  intro aa ct cB bi bx
  obtain ⟨bP, b2, br, b4, b5, b6, b7, aW, bT⟩ := bi
  refine Zc (Zd (Za rfl rfl (Zq rfl bT aW (Zb (Ze (Zc (W_false (Zx (decide_eq_false (by omega))) (W_exit (at_exit (at_exit (ib_here (Ze ?_))))))))))))
  refine ⟨_, .inl bx, ?_⟩; exact ⟨bP, b2, br, b4, b5, b6, b7, aW⟩
 rintro cu cC ⟨a2, aO, bl⟩
 have hm := aO.elim (bu _) (bt _)
 clear aO
 obtain ⟨bQ, aR, bs, cw, b8, b9, cx, cy⟩ := bl
 refine (Ze (Zc (Zd (Za rfl rfl (Zm (v := Vi (a2)) rfl b9 (Za rfl rfl (Zm (v := u) rfl b8 (Za rfl rfl (Zr S36 rfl rfl (aX.mono (Zt n aR)) (Za rfl rfl (Exec.eql rfl rfl rfl (Za rfl rfl (Zo (v := Value.bool (decide (a2 = (bY.length : Int)))) rfl rfl (Zb (Ze (W_ret ?_))))))))))))))))
 have co := Zu hm
 subst r
 refine ⟨_, ret1 rfl, ?_⟩
 exact ⟨bQ, (Zt (Zt (Zt b c) n) aR), (bs).drop, rfl⟩
end Go.Pw
