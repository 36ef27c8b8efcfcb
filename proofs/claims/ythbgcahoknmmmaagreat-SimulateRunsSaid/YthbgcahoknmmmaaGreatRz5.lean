/-
  The walks (printed by my generator).
-/
import Derived.Test.YthbgcahoknmmmaaGreatL29
import Derived.Test.YthbgcahoknmmmaaGreatL27
import Derived.Test.YthbgcahoknmmmaaGreatRz4
set_option maxRecDepth 100000
set_option maxHeartbeats 4000000
set_option linter.unusedVariables false
namespace Go.Pw
open Go.Proofs
theorem ref58_shared_sim {w0 w : World} {s : PHeap} {H : List Res} {ad : Temporal} {c : Job} {a : Job} {q : Bool} {o : Bool} {aG : Value} {aH : Value} {aI : Value} {aJ : Value} {ae : Value} {af : Value} {ag : Value} {ah : Value} {ai : Value} {x : Value} {y : Value} {z : Value} {aa : Value} {ab : Value} {r : Int} (hm : ref58_shared_p ad c a q o = some r) (hS : St w0 s (H) w) (aK : SliceRep (encInt .i64) s aG ad.Vars) (cn : SliceRep (encInt .i64) s aH ad.Init) (co : SliceRep encFact s aI ad.Goal) (cp : SliceRep encJob s aJ ad.Jobs) (aL : SliceRep encFact s ae c.Start) (aM : SliceRep encFact s af c.Over) (aN : SliceRep encFact s ag c.End) (aO : SliceRep encFact s ah c.AtStart) (aP : SliceRep encFact s ai c.AtEnd) (a5 : SliceRep encFact s x a.Start) (a6 : SliceRep encFact s y a.Over) (a7 : SliceRep encFact s z a.End) (a8 : SliceRep encFact s aa a.AtStart) (a9 : SliceRep encFact s ab a.AtEnd) :
  Calls Tryz.prog 57 #[Value.agg #[aG, aH, aI, aJ], Value.agg #[Value.string (c.Name), Vi (c.Duration), ae, af, ag, ah, ai], Value.agg #[Value.string (a.Name), Vi (a.Duration), x, y, z, aa, ab], Value.bool (q), Value.bool (o)] w fun e w' => ∃ v, e = .returned v ∧ ((fun (ci : Int) => ∃ (aZ : PHeap) , PHeap.le s aZ ∧ St w0 aZ (H) w' ∧ v = Vi (ci)) r) := by
 unfold ref58_shared_p at hm
 refine calls_of_W Tryz.func57 rfl rfl (Zc (Zd (Za rfl rfl (Exec.box (cs := [aG, aH, aI, aJ]) hS rfl rfl rfl ?_))))
 intro cq cP bn
 refine Za rfl rfl (Exec.box (cs := [Value.string (c.Name), Vi (c.Duration), ae, af, ag, ah, ai]) bn rfl rfl rfl ?_)
 intro aj cQ bo
 refine Za rfl rfl (Exec.box (cs := [Value.string (a.Name), Vi (a.Duration), x, y, z, aa, ab]) bo rfl rfl rfl ?_)
 intro ak cR aS
 refine Za rfl rfl (Zo (v := Vi (0)) rfl rfl (Zb (Ze (Zc (Zc (Zd (Za rfl rfl (Zp F26_0 rfl rfl rfl (Za rfl rfl (Zn ((aS).f2) A22 rfl rfl rfl (Za rfl rfl (Zr S22 rfl rfl aK (Za rfl rfl (Zm (v := Vi (0)) rfl rfl (Zb (Ze ?_))))))))))))))))
 obtain ⟨aQ, bh, b4, b2, b0⟩ := ctl_some hm
 refine W_mid (M := fun f' w' => ∃ s', (aQ = .next s' ∨ aQ = .brk s') ∧ (fun (_ : Unit) => ∃ (ba : PHeap) , PHeap.le s ba ∧ St w0 ba (Res.box aj 59 [Value.string (c.Name), Vi (c.Duration), ae, af, ag, ah, ai] :: Res.box ak 59 [Value.string (a.Name), Vi (a.Duration), x, y, z, aa, ab] :: H) w' ∧ f' 3 = Value.bool (q) ∧ f' 4 = Value.bool (o) ∧ f' 6 = Value.pointer (some ⟨aj, 0, none⟩) ∧ f' 7 = Value.pointer (some ⟨ak, 0, none⟩) ∧ f' 15 = Vi ((ad.Vars.length : Int))) s') ?_ ?_
 ·refine W_block (W_forC (fun k' s' f' w' => (fun (_ : Unit) => ∃ (bb : PHeap) , PHeap.le s bb ∧ St w0 bb (Res.box aj 59 [Value.string (c.Name), Vi (c.Duration), ae, af, ag, ah, ai] :: Res.box ak 59 [Value.string (a.Name), Vi (a.Duration), x, y, z, aa, ab] :: H) w' ∧ f' 3 = Value.bool (q) ∧ f' 4 = Value.bool (o) ∧ f' 6 = Value.pointer (some ⟨aj, 0, none⟩) ∧ f' 7 = Value.pointer (some ⟨ak, 0, none⟩) ∧ f' 15 = Vi ((ad.Vars.length : Int)) ∧ f' 16 = Vi (k' : Int)) s') bh ?_ ?_ ?_)
  ·have bp := ((aS).f2).drop
   exact ⟨s, (Zv _), (bp).f1, rfl, rfl, rfl, rfl, rfl, rfl⟩
  ·intro j cH aR c2 cS b1 bi ac b5
   obtain ⟨bZ, b, aT, ay, au, az, av, a0, ax⟩ := bi
   refine Zc (Zd (Za rfl rfl (Zq rfl ax a0 (Zb (Ze (Zc (W_true (Zx (decide_eq_true (by omega))) (W_skip (Ze (Zc (W_block (Zc (Zd (Za rfl rfl (Zm (v := Vi ((j : Int))) rfl ax (Za rfl rfl (Zo (v := Vi ((j : Int))) rfl rfl (Zb (Ze (Zc ?_))))))))))))))))))))
   obtain ⟨al, d, ac⟩ := Zg ac
   refine W_mid (M := fun f' w' => (fun (al : Bool) => ∃ (bc : PHeap) , PHeap.le bZ bc ∧ St w0 bc (Res.box aj 59 [Value.string (c.Name), Vi (c.Duration), ae, af, ag, ah, ai] :: Res.box ak 59 [Value.string (a.Name), Vi (a.Duration), x, y, z, aa, ab] :: H) w' ∧ f' 3 = Value.bool (q) ∧ f' 4 = Value.bool (o) ∧ f' 6 = Value.pointer (some ⟨aj, 0, none⟩) ∧ f' 7 = Value.pointer (some ⟨ak, 0, none⟩) ∧ f' 11 = Vi ((j : Int)) ∧ f' 12 = Value.bool (al) ∧ f' 15 = Vi ((ad.Vars.length : Int)) ∧ f' 16 = Vi ((j : Int))) al) ?_ ?_
   ·refine Zd (Za rfl rfl (Exec.load_box_agg (ds := [Value.string (c.Name), Vi (c.Duration), ae, af, ag, ah, ai]) (aT) A59 rfl az rfl (Za rfl rfl (Zm (v := Value.bool (q)) rfl ay (Za rfl rfl (Tc rfl rfl rfl (Zi rfl (Zi rfl args_nil)) (ref55_Writes_sim (ref55_Writes_tot c q) aT (aL.mono b) (aM.mono b) (aN.mono b) (aO.mono b) (aP.mono b)).r ?_))))))
    rintro cK cT ⟨cC, _, m, bq, rfl, bU⟩
    refine Za rfl rfl (Zm (v := Vi ((j : Int))) rfl rfl ?_)
    obtain ⟨cj, bP, d⟩ := Zg d
    refine Za rfl rfl (Tc rfl rfl rfl (Zi rfl (Zi rfl args_nil)) (ref58_touches_sim bP bq bU).r ?_)
    rintro _ cU ⟨ca, n, aA, rfl⟩
    refine Za rfl rfl (Zm (v := Value.bool (cj)) rfl rfl ?_)
    rcases ite_some d with ⟨g, d⟩ | ⟨g, d⟩
    ·refine WL_run rfl (Zf rfl (Zx g)) rfl (Exec.load_box_agg (ds := [Value.string (a.Name), Vi (a.Duration), x, y, z, aa, ab]) ((aA).f1) A59 rfl av rfl (WL_run rfl (Zf rfl (Zx g)) rfl (Zm (v := Value.bool (o)) rfl au (WL_run rfl (Zf rfl (Zx g)) rfl (Tc rfl rfl rfl (Zi rfl (Zi rfl args_nil)) (ref55_Writes_sim (ref55_Writes_tot a o) aA (a5.mono (Zt (Zt b m) n)) (a6.mono (Zt (Zt b m) n)) (a7.mono (Zt (Zt b m) n)) (a8.mono (Zt (Zt b m) n)) (a9.mono (Zt (Zt b m) n))).r ?_)))))
     rintro cL cV ⟨cD, _, am, br, rfl, bV⟩
     refine WL_run rfl (Zf rfl (Zx g)) rfl (Zm (v := Vi ((j : Int))) rfl rfl ?_)
     obtain ⟨ck, bQ, d⟩ := Zg d
     refine WL_run rfl (Zf rfl (Zx g)) rfl (Tc rfl rfl rfl (Zi rfl (Zi rfl args_nil)) (ref58_touches_sim bQ br bV).r ?_)
     rintro _ cW ⟨cb, an, aB, rfl⟩
     refine WL_run rfl (Zf rfl (Zx g)) rfl (Zm (v := Value.bool (ck)) rfl rfl ?_)
     rcases ite_some d with ⟨t, d⟩ | ⟨t, d⟩
     ·refine WL_passes 5 (by rw [t]; rfl) ?_
      refine WL_run rfl (Zf rfl (Zx g)) rfl (Zs (v := Value.bool (true)) rfl rfl rfl ?_)
      refine WL_passes 2 (by rw [g]; rfl) ?_
      refine Zb (Ze ?_)
      have cr := Zu d
      subst al
      exact ⟨cb, (Zt (Zt (Zt m n) am) an), ((aB).f1).f1, ay, au, az, av, rfl, rfl, a0, ax⟩
     replace t := Zk t
     refine WL_run rfl (Zf rfl (Zx t)) rfl (Exec.load_box_agg (ds := [Value.string (a.Name), Vi (a.Duration), x, y, z, aa, ab]) ((aB).f1) A59 rfl av rfl (WL_run rfl (Zf rfl (Zx t)) rfl (Zm (v := Value.bool (o)) rfl au (WL_run rfl (Zf rfl (Zx t)) rfl (Tc rfl rfl rfl (Zi rfl (Zi rfl args_nil)) (ref55_Reads_sim (ref55_Reads_tot a o) aB (a5.mono (Zt (Zt (Zt (Zt b m) n) am) an)) (a6.mono (Zt (Zt (Zt (Zt b m) n) am) an)) (a7.mono (Zt (Zt (Zt (Zt b m) n) am) an)) (a8.mono (Zt (Zt (Zt (Zt b m) n) am) an)) (a9.mono (Zt (Zt (Zt (Zt b m) n) am) an))).r ?_)))))
     rintro cM cX ⟨cE, _, b7, bs, rfl, bW⟩
     refine WL_run rfl (Zf rfl (Zx t)) rfl (Zm (v := Vi ((j : Int))) rfl rfl ?_)
     obtain ⟨cl, bR, d⟩ := Zg d
     refine WL_run rfl (Zf rfl (Zx t)) rfl (Tc rfl rfl rfl (Zi rfl (Zi rfl args_nil)) (ref58_touches_sim bR bs bW).r ?_)
     rintro _ cY ⟨cc, b8, bt, rfl⟩
     refine WL_run rfl (Zf rfl (Zx g)) rfl (Exec.pick_f (v := Value.bool (cl)) rfl (Zx t) rfl ?_)
     refine WL_passes 2 (by rw [g]; rfl) ?_
     refine Zb (Ze ?_)
     have ct := Zu d
     subst al
     exact ⟨cc, (Zt (Zt (Zt (Zt (Zt m n) am) an) b7) b8), ((bt).f1).f1, ay, au, az, av, rfl, rfl, a0, ax⟩
    replace g := Zk g
    refine WL_passes 14 (by rw [g]; rfl) ?_
    refine Zb (Ze ?_)
    have cu := Zu d
    subst al
    exact ⟨ca, (Zt m n), ((aA).f1).f1, ay, au, az, av, rfl, rfl, a0, ax⟩
   intro c3 cZ bk
   obtain ⟨bd, p, aC, a1, a2, a3, a4, aw, bD, aE, aF⟩ := bk
   refine (Ze (Zc ?_))
   obtain ⟨aq, l, ac⟩ := Zg ac
   refine W_mid (M := fun f' w' => (fun (aq : Bool) => ∃ (be : PHeap) , PHeap.le bd be ∧ St w0 be (Res.box aj 59 [Value.string (c.Name), Vi (c.Duration), ae, af, ag, ah, ai] :: Res.box ak 59 [Value.string (a.Name), Vi (a.Duration), x, y, z, aa, ab] :: H) w' ∧ f' 3 = Value.bool (q) ∧ f' 4 = Value.bool (o) ∧ f' 6 = Value.pointer (some ⟨aj, 0, none⟩) ∧ f' 7 = Value.pointer (some ⟨ak, 0, none⟩) ∧ f' 11 = Vi ((j : Int)) ∧ f' 15 = Vi ((ad.Vars.length : Int)) ∧ f' 16 = Vi ((j : Int)) ∧ f' 52 = Value.bool (aq)) aq) ?_ ?_
   ·refine Zd (Za rfl rfl (Zm (v := Value.bool (al)) rfl bD (Za rfl rfl (Zm (v := Value.bool (al)) rfl rfl ?_))))
    rcases ite_some l with ⟨i, l⟩ | ⟨i, l⟩
    ·refine WL_passes 13 (by rw [i]; rfl) ?_
     refine Zb (Ze ?_)
     have cv := Zu l
     subst aq
     exact ⟨bd, (Zv _), ((aC).f1).f1, a1, a2, a3, a4, aw, aE, aF, rfl⟩
    replace i := Zk i
    refine WL_run rfl (Zf rfl (Zx i)) rfl (Exec.load_box_agg (ds := [Value.string (a.Name), Vi (a.Duration), x, y, z, aa, ab]) ((aC).f1) A59 rfl a4 rfl (WL_run rfl (Zf rfl (Zx i)) rfl (Zm (v := Value.bool (o)) rfl a2 (WL_run rfl (Zf rfl (Zx i)) rfl (Tc rfl rfl rfl (Zi rfl (Zi rfl args_nil)) (ref55_Writes_sim (ref55_Writes_tot a o) aC (a5.mono (Zt b p)) (a6.mono (Zt b p)) (a7.mono (Zt b p)) (a8.mono (Zt b p)) (a9.mono (Zt b p))).r ?_)))))
    rintro cN da ⟨cF, _, ao, bu, rfl, bX⟩
    refine WL_run rfl (Zf rfl (Zx i)) rfl (Zm (v := Vi ((j : Int))) rfl aw ?_)
    obtain ⟨cm, bS, l⟩ := Zg l
    refine WL_run rfl (Zf rfl (Zx i)) rfl (Tc rfl rfl rfl (Zi rfl (Zi rfl args_nil)) (ref58_touches_sim bS bu bX).r ?_)
    rintro _ db ⟨cd, ap, aD, rfl⟩
    refine WL_run rfl (Zf rfl (Zx i)) rfl (Zm (v := Value.bool (cm)) rfl rfl ?_)
    rcases ite_some l with ⟨u, l⟩ | ⟨u, l⟩
    ·refine WL_run rfl (Zf rfl (Zx u)) rfl (Exec.load_box_agg (ds := [Value.string (c.Name), Vi (c.Duration), ae, af, ag, ah, ai]) (aD) A59 rfl a3 rfl (WL_run rfl (Zf rfl (Zx u)) rfl (Zm (v := Value.bool (q)) rfl a1 (WL_run rfl (Zf rfl (Zx u)) rfl (Tc rfl rfl rfl (Zi rfl (Zi rfl args_nil)) (ref55_Reads_sim (ref55_Reads_tot c q) aD (aL.mono (Zt (Zt (Zt b p) ao) ap)) (aM.mono (Zt (Zt (Zt b p) ao) ap)) (aN.mono (Zt (Zt (Zt b p) ao) ap)) (aO.mono (Zt (Zt (Zt b p) ao) ap)) (aP.mono (Zt (Zt (Zt b p) ao) ap))).r ?_)))))
     rintro cO dc ⟨cG, _, b9, bv, rfl, bY⟩
     refine WL_run rfl (Zf rfl (Zx u)) rfl (Zm (v := Vi ((j : Int))) rfl aw ?_)
     obtain ⟨bg, bT, l⟩ := Zg l
     refine WL_run rfl (Zf rfl (Zx u)) rfl (Tc rfl rfl rfl (Zi rfl (Zi rfl args_nil)) (ref58_touches_sim bT bv bY).r ?_)
     rintro _ dd ⟨ce, bA, bw, rfl⟩
     refine WL_run rfl (Zf rfl (Zx i)) rfl (Zs (v := Value.bool (bg)) rfl (Zx u) rfl (Za rfl rfl (Exec.pick_f (v := Value.bool (bg)) rfl (Zx i) rfl (Zb (Ze ?_)))))
     have cw := Zu l
     subst aq
     exact ⟨ce, (Zt (Zt (Zt ao ap) b9) bA), ((bw).f1).f1, a1, a2, a3, a4, aw, aE, aF, rfl⟩
    replace u := Zk u
    refine WL_passes 5 (by rw [u]; rfl) ?_
    refine WL_run rfl (Zf rfl (Zx i)) rfl (Exec.pick_f (v := Value.bool (false)) rfl rfl rfl (Za rfl rfl (Exec.pick_f (v := Value.bool (false)) rfl (Zx i) rfl (Zb (Ze ?_)))))
    have cx := Zu l
    subst aq
    exact ⟨cd, (Zt ao ap), ((aD).f1).f1, a1, a2, a3, a4, aw, aE, aF, rfl⟩
   intro c4 de bl
   obtain ⟨bf, aW, aU, bE, bF, bG, bH, bI, bJ, bK, aX⟩ := bl
   refine (Ze ?_)
   rcases ite_some ac with ⟨ar, ac⟩ | ⟨ar, ac⟩
   ·refine W_cond_t aX ar (Zc (Zd (Za rfl rfl (Zm (v := Vi ((j : Int))) rfl bI (Za rfl rfl (Zo (v := Vi ((j : Int))) rfl rfl (Zb (Ze (W_ret (ib_ret (at_ret (at_ret (ib_ret (at_ret (at_ret ?_)))))))))))))))
    have cy := Zu ac
    subst aR
    have b3 := b4 _ (b5 (by intro _ h; cases h))
    have cz := Zu b3
    subst r
    refine ⟨_, ret1 rfl, ?_⟩
    exact ⟨bf, (Zt (Zt b p) aW), ((aU).drop).drop, rfl⟩
   refine W_cond_f aX ar ?_
   replace ar := Zk ar
   refine W_skip (ib_normal (Ze (Zd (Za rfl rfl (Exec.add rfl bK rfl (Za rfl rfl (Zm (v := Vi (IntKind.i64.wrap ((j : Int) + 1))) rfl rfl (Zb (Ze ?_)))))))))
   have c0 := Zu ac
   subst aR
   refine ⟨_, rfl, ?_⟩; exact ⟨bf, (Zt (Zt b p) aW), ((aU).f1).f1, bE, bF, bG, bH, bJ, (Eq.trans rfl (wrap_up b1 (SliceRep.le aK)))⟩
  intro cI c5 df bj b6
  obtain ⟨cf, bB, bx, bL, bM, bN, bO, aY, ch⟩ := bj
  refine Zc (Zd (Za rfl rfl (Zq rfl ch aY (Zb (Ze (Zc (W_false (Zx (decide_eq_false (by omega))) (W_exit (at_exit (at_exit (ib_here (Ze ?_))))))))))))
  refine ⟨_, .inl b6, ?_⟩; exact ⟨cf, bB, ((bx).f1).f1, bL, bM, bN, bO, aY⟩
 rintro c6 dg ⟨cJ, aV, bm⟩
 have hm := aV.elim (b2 _) (b0 _)
 clear aV
 obtain ⟨cg, bC, bz, c7, c8, c9, cA, cB⟩ := bm
 refine (Ze (Zc (Zd (Za rfl rfl (Zo (v := Vi ((-1))) rfl rfl (Zb (Ze (W_ret ?_))))))))
 have c1 := Zu hm
 subst r
 refine ⟨_, ret1 rfl, ?_⟩
 exact ⟨cg, bC, ((bz).drop).drop, rfl⟩
theorem ref58_lacking_sim {w0 w : World} {s : PHeap} {H : List Res} {n : (List Fact)} {ah : (List Int)} {l : Value} {m : Value} {r : (List Int)} (hm : ref58_lacking_p n ah = some r) (hS : St w0 s (H) w) (q : SliceRep encFact s l n) (ak : SliceRep (encInt .i64) s m ah) :
  Calls Tryz.prog 32 #[l, m] w fun e w' => ∃ v, e = .returned v ∧ ((fun (aM : (List Int)) => ∃ (aa : PHeap) (ai : Value), PHeap.le s aa ∧ St w0 aa (H) w' ∧ v = ai ∧ SliceRep (encInt .i64) aa ai aM) r) := by
 unfold ref58_lacking_p at hm
 refine calls_of_W Tryz.func32 rfl rfl (Zc (Zd (Za rfl rfl (Zo (v := Value.slice none 0 0) rfl rfl (Zb (Ze (Zc (Zd (Za rfl rfl (Zo (v := Value.slice none 0 0) rfl rfl (Zb (Ze (Zc (Zc (Zd (Za rfl rfl (Zm (v := l) rfl rfl (Za rfl rfl (Zr S23 rfl rfl q (Za rfl rfl (Zm (v := Vi (0)) rfl rfl (Zb (Ze ?_)))))))))))))))))))))))
 obtain ⟨u, an, hm⟩ := Zg hm
 refine W_block (W_forS (fun k' s' f' w' => (fun (u : (List Int)) => ∃ (af : PHeap) (a : Value), PHeap.le s af ∧ St w0 af (Res.arr (encInt .i64) 3 a u :: H) w' ∧ f' 1 = m ∧ f' 5 = a ∧ f' 8 = l ∧ f' 9 = Vi ((n.length : Int)) ∧ f' 10 = Vi (k' : Int)) s') an ?_ ?_ ?_)
 ·have ar := hS.nilArr (encInt .i64) 3
  exact ⟨s, (Value.slice none 0 0), (Zv _), ar, rfl, rfl, rfl, rfl, rfl⟩
 ·intro ad u aI aW bh a1 ao d
  obtain ⟨ab, a, t, ac, x, ae, y, z, p⟩ := ao
  refine Zc (Zd (Za rfl rfl (Zq rfl p z (Zb (Ze (Zc (W_true (Zx (decide_eq_true (by omega))) (W_skip (Ze (Zc (W_block (Zc (Zd ?_)))))))))))))
  obtain ⟨b, aC, d⟩ := Zg d
  refine Za rfl rfl (Exec.index_rep S23 rfl y p (q.mono t) aC ?_)
  intro aN ba al
  refine Za rfl rfl (Zw (E := encFact) ac A75 rfl rfl rfl al ?_)
  intro bf aD
  obtain rfl := encFact_val.1 aD
  refine Za rfl rfl (Exec.alloc (cs := [Vi (0), Vi (0)]) ac Z75 rfl rfl ?_)
  intro aO bi au
  refine Za rfl rfl (Exec.store_box (ds := [Vi (b.Var), Vi (b.Val)]) (es := [Vi (b.Var), Vi (b.Val)]) au A75 rfl rfl rfl rfl (Zj rfl (Zj rfl one_nil)) (Nat.le_of_ble_eq_true rfl) rfl ?_)
  intro bj av
  refine Zb (Ze (Zc (W_dl (n0 := 8) (qs 0 8 .done) hmix (by kernel_rfl) (by kernel_rfl) ?_)))
  have h := av.drew
  refine DL_q rfl rfl (Zm (v := m) rfl x ⟨rfl, ?_⟩)
  refine DL_q rfl rfl (Zp F75_0 rfl rfl rfl ⟨rfl, ?_⟩)
  refine DL_q rfl rfl (Zn (h) A3 rfl rfl rfl ⟨rfl, ?_⟩)
  obtain ⟨bo, aE, d⟩ := Zg d
  refine DL_q rfl rfl (Exec.index_repE S22 rfl rfl rfl (ak.mono t) aE ?_)
  intro aP bb am aR
  refine ⟨rfl, ?_⟩
  refine DL_q rfl rfl (Zw (E := (encInt .i64)) h A3 rfl rfl rfl am ?_)
  intro bg aF
  obtain rfl := encInt_val.1 aF
  refine ⟨rfl, ?_⟩
  refine DL_q rfl rfl (Zp F75_1 rfl rfl rfl ⟨rfl, ?_⟩)
  refine DL_q rfl rfl (Zn (h) A3 rfl rfl rfl ⟨rfl, ?_⟩)
  refine DL_q rfl rfl (Exec.neq rfl rfl rfl ⟨rfl, ?_⟩)
  refine DL_done (Zb (Ze ?_))
  obtain ⟨j, g, d⟩ := Zg d
  refine W_mid (M := fun f' w' => (fun (j : (List Int)) => ∃ (ag : PHeap) (o : Value), PHeap.le ab ag ∧ St w0 ag (Res.arr (encInt .i64) 3 o j :: H) w' ∧ f' 1 = m ∧ f' 5 = o ∧ f' 8 = l ∧ f' 9 = Vi ((n.length : Int)) ∧ f' 10 = Vi ((ad : Int))) j) ?_ ?_
  ·rcases ite_some g with ⟨i, g⟩ | ⟨i, g⟩
   ·refine W_cond_t rfl i (Zd (Za rfl rfl (Zm (v := a) rfl ae (Za rfl rfl (Zp F75_0 rfl rfl rfl (Za rfl rfl (Zn (h) A3 rfl rfl rfl (Za rfl rfl (Exec.buildSlice (Te := 3) (cs := [Vi (b.Var)]) h rfl (parts_cons (c := [Vi (b.Var)]) (cells_of rfl rfl) parts_nil) (fun _ => by kernel_rfl) ?_)))))))))
    intro aQ bk aw
    obtain ⟨aZ, aG, g⟩ := Zg g
    refine Za rfl rfl (Exec.append_box (E := (encInt .i64)) (ys := [b.Var]) (aw).f2 S22 Z3 rfl (by decide) rfl rfl rfl rfl ⟨[Vi (b.Var)], [], rfl, rfl, rfl⟩ rfl aG ?_)
    intro aj bl ax
    refine Za rfl rfl (Zo (v := aj) rfl rfl (Zb (Ze ?_)))
    have aS := Zu g
    subst j
    exact ⟨ab, aj, (Zv _), ((ax).f1).drop, x, rfl, y, z, p⟩
   refine W_cond_f rfl i ?_
   replace i := Zk i
   refine W_skip (Ze ?_)
   have aT := Zu g
   subst j
   exact ⟨ab, a, (Zv _), (h).drop, x, ae, y, z, p⟩
  intro aX bm aq
  obtain ⟨aJ, o, a2, ay, a5, a6, a7, a8, a9⟩ := aq
  refine (ib_normal (Ze (Zd (Za rfl rfl (Exec.add rfl a9 rfl (Za rfl rfl (Zm (v := Vi (IntKind.i64.wrap ((ad : Int) + 1))) rfl rfl (Zb (Ze ?_)))))))))
  have aU := Zu d
  subst aI
  exact ⟨aJ, o, (Zt t a2), ay, a5, a6, a7, a8, (Eq.trans rfl (wrap_up a1 (SliceRep.le q)))⟩
 intro aY bn ap
 obtain ⟨be, a, a3, az, bc, aA, bd, aB, aL⟩ := ap
 refine Zc (Zd (Za rfl rfl (Zq rfl aL aB (Zb (Ze (Zc (W_false (Zx (decide_eq_false (by omega))) (W_exit (at_exit (at_exit (ib_here (Ze (Zc (Zd (Za rfl rfl (Zm (v := a) rfl aA (Za rfl rfl (Zo (v := a) rfl rfl (Zb (Ze (W_ret ?_)))))))))))))))))))))
 have aV := Zu hm
 subst r
 refine ⟨_, ret1 rfl, ?_⟩
 obtain ⟨aK, a4, a0, aH⟩ := az.freezeArr
 exact ⟨aK, a, (Zt a3 a4), a0, rfl, aH⟩
theorem ref58_problems_sim {w0 w : World} {s : PHeap} {H : List Res} {bq : Temporal} {ak : (List Launch)} {a : Int} {ch : (List Int)} {ce : (List Int)} {o : Value} {p : Value} {t : Value} {u : Value} {b : Value} {ag : Value} {ad : Value} {r : (List ref58_Problem)} (hm : ref58_problems_p bq ak a ch ce = some r) (hS : St w0 s (H) w) (bu : SliceRep (encInt .i64) s o bq.Vars) (bv : SliceRep (encInt .i64) s p bq.Init) (bw : SliceRep encFact s t bq.Goal) (a9 : SliceRep encJob s u bq.Jobs) (ae : SliceRep encLaunch s b ak) (dG : SliceRep (encInt .i64) s ag ch) (dH : SliceRep (encInt .i64) s ad ce) :
  Calls Tryz.prog 31 #[Value.agg #[o, p, t, u], b, Vi (a), ag, ad] w fun e w' => ∃ v, e = .returned v ∧ ((fun (jf : (List ref58_Problem)) => ∃ (bX : PHeap) (d9 : Value), PHeap.le s bX ∧ St w0 bX (H) w' ∧ v = d9 ∧ SliceRep encref58_Problem bX d9 jf) r) := by
 unfold ref58_problems_p at hm
 refine calls_of_W Tryz.func31 rfl rfl (Zc (Zd (Za rfl rfl (Exec.box (cs := [o, p, t, u]) hS rfl rfl rfl ?_))))
 intro j l0 e1
 refine Za rfl rfl (Zo (v := Value.slice none 0 0) rfl rfl (Zb (Ze (Zc (Zd (Za rfl rfl (Zo (v := Value.slice none 0 0) rfl rfl (Zb (Ze (Zc (Zc (Zd (Za rfl rfl (Zm (v := b) rfl rfl (Za rfl rfl (Zr S27 rfl rfl ae (Za rfl rfl (Zm (v := Vi (0)) rfl rfl (Zb (Ze ?_))))))))))))))))))))
 obtain ⟨bI, dX, hm⟩ := Zg hm
 refine W_block (W_forS (fun k' s' f' w' => (fun (bI : (List ref58_Problem)) => ∃ (dm : PHeap) (aX : Value), PHeap.le s dm ∧ St w0 dm (Res.box j 26 [o, p, t, u] :: Res.arr encref58_Problem 53 aX bI :: H) w' ∧ f' 1 = b ∧ f' 2 = Vi (a) ∧ f' 3 = ag ∧ f' 4 = ad ∧ f' 5 = Value.pointer (some ⟨j, 0, none⟩) ∧ f' 11 = aX ∧ f' 30 = b ∧ f' 31 = Vi ((ak.length : Int)) ∧ f' 32 = Vi (k' : Int)) s') dX ?_ ?_ ?_)
 ·have e2 := e1.nilArr encref58_Problem 53
  exact ⟨s, (Value.slice none 0 0), (Zv _), (e2).f1, rfl, rfl, rfl, rfl, rfl, rfl, rfl, rfl, rfl⟩
 ·intro g bI i5 jX l1 fh ef bh
  obtain ⟨dn, aX, a2, cj, cz, f6, f7, f8, f9, fA, c0, c1, b8⟩ := ef
  refine Zc (Zd (Za rfl rfl (Zq rfl b8 c1 (Zb (Ze (Zc (W_true (Zx (decide_eq_true (by omega))) (W_skip (Ze (Zc (W_block (Zc (Zd (Za rfl rfl (Zm (v := Vi ((g : Int))) rfl b8 ?_)))))))))))))))
  obtain ⟨av, h3, bh⟩ := Zg bh
  refine Za rfl rfl (Exec.index_rep S27 rfl c0 b8 (ae.mono a2) h3 ?_)
  intro jj kv dI
  refine Za rfl rfl (Zw (E := encLaunch) cj A64 rfl rfl rfl dI ?_)
  intro lm h4
  obtain rfl := encLaunch_val.1 h4
  refine Za rfl rfl (Exec.alloc (cs := [Vi (0), Vi (0)]) cj Z64 rfl rfl ?_)
  intro aT l2 e3
  refine Za rfl rfl (Zo (v := Vi ((g : Int))) rfl rfl (Za rfl rfl (Exec.store_box (ds := [Vi (av.At), Vi (av.Job)]) (es := [Vi (av.At), Vi (av.Job)]) e3 A64 rfl rfl rfl rfl (Zj rfl (Zj rfl one_nil)) (Nat.le_of_ble_eq_true rfl) rfl ?_)))
  intro l3 e4
  refine Zb (Ze (Zc (Zd (Za rfl rfl (Zm (v := b) rfl cz (Za rfl rfl (Zr S27 rfl rfl (ae.mono a2) (Za rfl rfl (Zm (v := Vi (0)) rfl rfl (Zb (Ze ?_)))))))))))
  obtain ⟨b1, dY, bh⟩ := Zg bh
  refine W_block (W_forS (fun k' s' f' w' => (fun (b1 : (List ref58_Problem)) => ∃ (dp : PHeap) (a6 : Value), PHeap.le dn dp ∧ St w0 dp (Res.box j 26 [o, p, t, u] :: Res.arr encref58_Problem 53 a6 b1 :: Res.box aT 64 [Vi (av.At), Vi (av.Job)] :: H) w' ∧ f' 1 = b ∧ f' 2 = Vi (a) ∧ f' 3 = ag ∧ f' 4 = ad ∧ f' 5 = Value.pointer (some ⟨j, 0, none⟩) ∧ f' 11 = a6 ∧ f' 12 = Vi ((g : Int)) ∧ f' 13 = Value.pointer (some ⟨aT, 0, none⟩) ∧ f' 30 = b ∧ f' 31 = Vi ((ak.length : Int)) ∧ f' 32 = Vi ((g : Int)) ∧ f' 37 = b ∧ f' 38 = Vi ((ak.length : Int)) ∧ f' 39 = Vi (k' : Int)) s') dY ?_ ?_ ?_)
  ·have e5 := (e4).f2
   exact ⟨dn, aX, (Zv _), (e5).f2, cz, f6, f7, f8, f9, fA, rfl, rfl, c0, c1, b8, rfl, rfl, rfl⟩
  ·intro i b1 i6 jY l4 fi eg aF
   obtain ⟨bp, a6, aW, ck, aK, al, aL, aM, aC, aN, a4, a5, aO, aP, aQ, aD, aE, a0⟩ := eg
   refine Zc (Zd (Za rfl rfl (Zq rfl a0 aE (Zb (Ze (Zc (W_true (Zx (decide_eq_true (by omega))) (W_skip (Ze (Zc (W_block (Zc (Zd (Za rfl rfl (Zm (v := Vi ((i : Int))) rfl a0 ?_)))))))))))))))
   obtain ⟨a7, h5, aF⟩ := Zg aF
   refine Za rfl rfl (Exec.index_rep S27 rfl aD a0 (ae.mono (Zt a2 aW)) h5 ?_)
   intro jk kw dJ
   refine Za rfl rfl (Zw (E := encLaunch) ck A64 rfl rfl rfl dJ ?_)
   intro ln h6
   obtain rfl := encLaunch_val.1 h6
   refine Za rfl rfl (Exec.alloc (cs := [Vi (0), Vi (0)]) ck Z64 rfl rfl ?_)
   intro jl l5 e6
   refine Za rfl rfl (Zo (v := Vi ((i : Int))) rfl rfl (Za rfl rfl (Exec.store_box (ds := [Vi (a7.At), Vi (a7.Job)]) (es := [Vi (a7.At), Vi (a7.Job)]) e6 A64 rfl rfl rfl rfl (Zj rfl (Zj rfl one_nil)) (Nat.le_of_ble_eq_true rfl) rfl ?_)))
   intro l6 ai
   refine Zb (Ze (Zc ?_))
   obtain ⟨a1, d, aF⟩ := Zg aF
   refine W_mid (M := fun f' w' => (fun (a1 : Bool) => ∃ (dq : PHeap) , PHeap.le bp dq ∧ St w0 dq (Res.box j 26 [o, p, t, u] :: Res.arr encref58_Problem 53 a6 b1 :: Res.box aT 64 [Vi (av.At), Vi (av.Job)] :: H) w' ∧ f' 1 = b ∧ f' 2 = Vi (a) ∧ f' 3 = ag ∧ f' 4 = ad ∧ f' 5 = Value.pointer (some ⟨j, 0, none⟩) ∧ f' 11 = a6 ∧ f' 12 = Vi ((g : Int)) ∧ f' 13 = Value.pointer (some ⟨aT, 0, none⟩) ∧ f' 14 = Vi ((i : Int)) ∧ f' 30 = b ∧ f' 31 = Vi ((ak.length : Int)) ∧ f' 32 = Vi ((g : Int)) ∧ f' 37 = b ∧ f' 38 = Vi ((ak.length : Int)) ∧ f' 39 = Vi ((i : Int)) ∧ f' 78 = Value.bool (a1)) a1) ?_ ?_
   ·refine Zd (Za rfl rfl (Zp F64_0 rfl a5 rfl (Za rfl rfl (Zn ((ai).f3) A3 rfl rfl rfl (Za rfl rfl (Zm (v := Vi (a)) rfl al (Za rfl rfl (Exec.eql rfl rfl rfl (Za rfl rfl (Zm (v := Value.bool (decide (av.At = a))) rfl rfl ?_))))))))))
    rcases ite_some d with ⟨aw, d⟩ | ⟨aw, d⟩
    ·refine WL_run rfl (Zf rfl (Zx aw)) rfl (Zp F64_1 rfl a5 rfl (WL_run rfl (Zf rfl (Zx aw)) rfl (Zn ((ai).f3) A3 rfl rfl rfl (WL_run rfl (Zf rfl (Zx aw)) rfl (Zp F64_1 rfl rfl rfl (WL_run rfl (Zf rfl (Zx aw)) rfl (Zn (ai) A3 rfl rfl rfl (WL_run rfl (Zf rfl (Zx aw)) rfl (Exec.eql rfl rfl rfl ?_)))))))))
     refine WL_passes 2 (by rw [aw]; rfl) ?_
     rcases ite_some d with ⟨l, d⟩ | ⟨l, d⟩
     ·refine WL_run rfl (Zf rfl (Zx l)) rfl (Zp F64_0 rfl rfl rfl (WL_run rfl (Zf rfl (Zx l)) rfl (Zn (ai) A3 rfl rfl rfl (WL_run rfl (Zf rfl (Zx l)) rfl (Zm (v := Vi (a)) rfl al (WL_run rfl (Zf rfl (Zx l)) rfl (Zq rfl rfl rfl (WL_run rfl (Zf rfl (Zx l)) rfl (Zm (v := Value.bool (decide (a7.At < a))) rfl rfl ?_)))))))))
      rcases ite_some d with ⟨ax, d⟩ | ⟨ax, d⟩
      ·refine WL_run rfl (Zf rfl (Zx ax)) rfl (Exec.load_box_agg (ds := [o, p, t, u]) ((ai).f1) A26 rfl aC rfl (WL_run rfl (Zf rfl (Zx ax)) rfl (Exec.load_box_agg (ds := [Vi (a7.At), Vi (a7.Job)]) (ai) A64 rfl rfl rfl ?_)))
       obtain ⟨dF, h7, d⟩ := Zg d
       refine WL_run rfl (Zf rfl (Zx ax)) rfl (Tc rfl rfl rfl (Zi rfl (Zi rfl args_nil)) (ref55_End_sim h7 ai (bu.mono (Zt a2 aW)) (bv.mono (Zt a2 aW)) (bw.mono (Zt a2 aW)) (a9.mono (Zt a2 aW))).r ?_)
       rintro _ l7 ⟨bY, bC, bz, rfl⟩
       refine WL_run rfl (Zf rfl (Zx ax)) rfl (Zm (v := Vi (a)) rfl al (WL_run rfl (Zf rfl (Zx ax)) rfl (Exec.geq rfl rfl rfl (WL_run rfl (Zf rfl (Zx l)) rfl (Zs (v := Value.bool (decide (a ≤ dF))) rfl (Zx ax) rfl (WL_run rfl (Zf rfl (Zx l)) rfl (Zm (v := Value.bool (decide (a ≤ dF))) rfl rfl ?_)))))))
       rcases ite_some d with ⟨af, d⟩ | ⟨af, d⟩
       ·refine WL_passes 9 (by rw [af]; rfl) ?_
        refine WL_run rfl (Zf rfl (Zx l)) rfl (Zs (v := Value.bool (true)) rfl rfl rfl (Za rfl rfl (Zs (v := Value.bool (true)) rfl (Zx l) rfl (Zb (Ze ?_)))))
        have j4 := Zu d
        subst a1
        exact ⟨bY, bC, ((((bz).drop).f2).f2).f2, aK, al, aL, aM, aC, aN, a4, a5, rfl, aO, aP, aQ, aD, aE, a0, rfl⟩
       replace af := Zk af
       refine WL_run rfl (Zf rfl (Zx af)) rfl (Zp F64_0 rfl rfl rfl (WL_run rfl (Zf rfl (Zx af)) rfl (Zn (bz) A3 rfl rfl rfl (WL_run rfl (Zf rfl (Zx af)) rfl (Zm (v := Vi (a)) rfl al (WL_run rfl (Zf rfl (Zx af)) rfl (Exec.eql rfl rfl rfl (WL_run rfl (Zf rfl (Zx af)) rfl (Zm (v := Value.bool (decide (a7.At = a))) rfl rfl ?_)))))))))
       rcases ite_some d with ⟨aA, d⟩ | ⟨aA, d⟩
       ·refine WL_run rfl (Zf rfl (Zx aA)) rfl (Zm (v := Vi ((i : Int))) rfl rfl (WL_run rfl (Zf rfl (Zx aA)) rfl (Zm (v := Vi ((g : Int))) rfl a4 (WL_run rfl (Zf rfl (Zx aA)) rfl (Zq rfl rfl rfl (WL_run rfl (Zf rfl (Zx af)) rfl (Zs (v := Value.bool (decide ((i : Int) < (g : Int)))) rfl (Zx aA) rfl (WL_run rfl (Zf rfl (Zx l)) rfl (Exec.pick_f (v := Value.bool (decide ((i : Int) < (g : Int)))) rfl (Zx af) rfl (Za rfl rfl (Zs (v := Value.bool (decide ((i : Int) < (g : Int)))) rfl (Zx l) rfl (Zb (Ze ?_)))))))))))))
        have j5 := Zu d
        subst a1
        exact ⟨bY, bC, ((((bz).drop).f2).f2).f2, aK, al, aL, aM, aC, aN, a4, a5, rfl, aO, aP, aQ, aD, aE, a0, rfl⟩
       replace aA := Zk aA
       refine WL_passes 3 (by rw [aA]; rfl) ?_
       refine WL_run rfl (Zf rfl (Zx af)) rfl (Exec.pick_f (v := Value.bool (false)) rfl rfl rfl (WL_run rfl (Zf rfl (Zx l)) rfl (Exec.pick_f (v := Value.bool (false)) rfl (Zx af) rfl (Za rfl rfl (Zs (v := Value.bool (false)) rfl (Zx l) rfl (Zb (Ze ?_)))))))
       have j6 := Zu d
       subst a1
       exact ⟨bY, bC, ((((bz).drop).f2).f2).f2, aK, al, aL, aM, aC, aN, a4, a5, rfl, aO, aP, aQ, aD, aE, a0, rfl⟩
      replace ax := Zk ax
      refine WL_passes 5 (by rw [ax]; rfl) ?_
      refine WL_run rfl (Zf rfl (Zx l)) rfl (Exec.pick_f (v := Value.bool (false)) rfl rfl rfl (WL_run rfl (Zf rfl (Zx l)) rfl (Zm (v := Value.bool (false)) rfl rfl (WL_run rfl (Zf rfl rfl) rfl (Zp F64_0 rfl rfl rfl (WL_run rfl (Zf rfl rfl) rfl (Zn (ai) A3 rfl rfl rfl (WL_run rfl (Zf rfl rfl) rfl (Zm (v := Vi (a)) rfl al (WL_run rfl (Zf rfl rfl) rfl (Exec.eql rfl rfl rfl (WL_run rfl (Zf rfl rfl) rfl (Zm (v := Value.bool (decide (a7.At = a))) rfl rfl ?_)))))))))))))
      rcases ite_some d with ⟨aB, d⟩ | ⟨aB, d⟩
      ·refine WL_run rfl (Zf rfl (Zx aB)) rfl (Zm (v := Vi ((i : Int))) rfl rfl (WL_run rfl (Zf rfl (Zx aB)) rfl (Zm (v := Vi ((g : Int))) rfl a4 (WL_run rfl (Zf rfl (Zx aB)) rfl (Zq rfl rfl rfl (WL_run rfl (Zf rfl rfl) rfl (Zs (v := Value.bool (decide ((i : Int) < (g : Int)))) rfl (Zx aB) rfl (WL_run rfl (Zf rfl (Zx l)) rfl (Exec.pick_f (v := Value.bool (decide ((i : Int) < (g : Int)))) rfl rfl rfl (Za rfl rfl (Zs (v := Value.bool (decide ((i : Int) < (g : Int)))) rfl (Zx l) rfl (Zb (Ze ?_)))))))))))))
       have j7 := Zu d
       subst a1
       exact ⟨bp, (Zv _), ((((ai).drop).f2).f2).f2, aK, al, aL, aM, aC, aN, a4, a5, rfl, aO, aP, aQ, aD, aE, a0, rfl⟩
      replace aB := Zk aB
      refine WL_passes 3 (by rw [aB]; rfl) ?_
      refine WL_run rfl (Zf rfl rfl) rfl (Exec.pick_f (v := Value.bool (false)) rfl rfl rfl (WL_run rfl (Zf rfl (Zx l)) rfl (Exec.pick_f (v := Value.bool (false)) rfl rfl rfl (Za rfl rfl (Zs (v := Value.bool (false)) rfl (Zx l) rfl (Zb (Ze ?_)))))))
      have j8 := Zu d
      subst a1
      exact ⟨bp, (Zv _), ((((ai).drop).f2).f2).f2, aK, al, aL, aM, aC, aN, a4, a5, rfl, aO, aP, aQ, aD, aE, a0, rfl⟩
     replace l := Zk l
     refine WL_passes 23 (by rw [l]; rfl) ?_
     refine Zb (Ze ?_)
     have j9 := Zu d
     subst a1
     exact ⟨bp, (Zv _), ((((ai).drop).f2).f2).f2, aK, al, aL, aM, aC, aN, a4, a5, rfl, aO, aP, aQ, aD, aE, a0, rfl⟩
    replace aw := Zk aw
    refine WL_passes 30 (by rw [aw]; rfl) ?_
    refine Zb (Ze ?_)
    have jA := Zu d
    subst a1
    exact ⟨bp, (Zv _), ((((ai).drop).f2).f2).f2, aK, al, aL, aM, aC, aN, a4, a5, rfl, aO, aP, aQ, aD, aE, a0, rfl⟩
   intro jZ l8 ex
   obtain ⟨bZ, fq, cl, c2, bJ, c3, c4, c5, c6, bK, c7, fB, c8, c9, cA, cB, cC, cD, cE⟩ := ex
   refine (Ze ?_)
   obtain ⟨bk, aH, aF⟩ := Zg aF
   refine W_mid (M := fun f' w' => (fun (bk : (List ref58_Problem)) => ∃ (dr : PHeap) (b6 : Value), PHeap.le bZ dr ∧ St w0 dr (Res.box j 26 [o, p, t, u] :: Res.arr encref58_Problem 53 b6 bk :: Res.box aT 64 [Vi (av.At), Vi (av.Job)] :: H) w' ∧ f' 1 = b ∧ f' 2 = Vi (a) ∧ f' 3 = ag ∧ f' 4 = ad ∧ f' 5 = Value.pointer (some ⟨j, 0, none⟩) ∧ f' 11 = b6 ∧ f' 12 = Vi ((g : Int)) ∧ f' 13 = Value.pointer (some ⟨aT, 0, none⟩) ∧ f' 30 = b ∧ f' 31 = Vi ((ak.length : Int)) ∧ f' 32 = Vi ((g : Int)) ∧ f' 37 = b ∧ f' 38 = Vi ((ak.length : Int)) ∧ f' 39 = Vi ((i : Int))) bk) ?_ ?_
   ·rcases ite_some aH with ⟨be, aH⟩ | ⟨be, aH⟩
    ·refine W_cond_t cE be (Zd (Za rfl rfl (Zm (v := a6) rfl c6 (Za rfl rfl (Zm (v := Vi (a)) rfl bJ (Za rfl rfl (Zm (v := Vi ((g : Int))) rfl bK (Za rfl rfl (Zm (v := Vi ((i : Int))) rfl fB (Za rfl rfl (Exec.build rfl (parts_cons (c := [Vi (a)]) (cells_of rfl rfl) (parts_cons (c := [Vi (18)]) (cells_of rfl rfl) (parts_cons (c := [Vi ((g : Int))]) (cells_of rfl rfl) (parts_cons (c := [Vi ((i : Int))]) (cells_of rfl rfl) (parts_cons (c := [Vi ((-1))]) (cells_of rfl rfl) parts_nil))))) (v := Value.agg #[Vi (a), Vi (18), Vi ((g : Int)), Vi ((i : Int)), Vi ((-1))]) (fun _ => by kernel_rfl) (Za rfl rfl (Exec.buildSlice (Te := 53) (cs := [Vi (a), Vi (18), Vi ((g : Int)), Vi ((i : Int)), Vi ((-1))]) cl rfl (parts_cons (c := [Vi (a), Vi (18), Vi ((g : Int)), Vi ((i : Int)), Vi ((-1))]) (cells_of rfl rfl) parts_nil) (fun _ => by kernel_rfl) ?_)))))))))))))
     intro jm l9 e7
     obtain ⟨kr, h8, aH⟩ := Zg aH
     refine Za rfl rfl (Exec.append_box (E := encref58_Problem) (ys := [(⟨a, 18, (g : Int), (i : Int), (-1)⟩ : ref58_Problem)]) (e7).f2 S42 Z53 rfl (by decide) rfl rfl rfl rfl ⟨[Vi (a), Vi (18), Vi ((g : Int)), Vi ((i : Int)), Vi ((-1))], [], rfl, ⟨[Vi (a)], [Vi (18), Vi ((g : Int)), Vi ((i : Int)), Vi ((-1))], rfl, rfl, ⟨[Vi (18)], [Vi ((g : Int)), Vi ((i : Int)), Vi ((-1))], rfl, rfl, ⟨[Vi ((g : Int))], [Vi ((i : Int)), Vi ((-1))], rfl, rfl, ⟨[Vi ((i : Int))], [Vi ((-1))], rfl, rfl, rfl⟩⟩⟩⟩, rfl⟩ rfl h8 ?_)
     intro dA lA e8
     refine Za rfl rfl (Zo (v := dA) rfl rfl (Zb (Ze ?_)))
     have jB := Zu aH
     subst bk
     exact ⟨bZ, dA, (Zv _), (((e8).f2).f1).f2, c2, bJ, c3, c4, c5, rfl, bK, c7, c8, c9, cA, cB, cC, cD⟩
    refine W_cond_f cE be ?_
    replace be := Zk be
    refine W_skip (Ze ?_)
    have jC := Zu aH
    subst bk
    exact ⟨bZ, a6, (Zv _), (((cl).f2).f2).f2, c2, bJ, c3, c4, c5, c6, bK, c7, c8, c9, cA, cB, cC, cD⟩
   intro ka lB ey
   obtain ⟨i7, b6, fr, e9, fC, fD, fE, fF, fG, fH, fI, fJ, fK, fL, fM, fN, fO, fP⟩ := ey
   refine (ib_normal (Ze (Zd (Za rfl rfl (Exec.add rfl fP rfl (Za rfl rfl (Zm (v := Vi (IntKind.i64.wrap ((i : Int) + 1))) rfl rfl (Zb (Ze ?_)))))))))
   have jD := Zu aF
   subst i6
   exact ⟨i7, b6, (Zt (Zt aW fq) fr), (((e9).f2).f2).f2, fC, fD, fE, fF, fG, fH, fI, fJ, fK, fL, fM, fN, fO, (Eq.trans rfl (wrap_up fi (SliceRep.le (ae.mono a2))))⟩
  intro kb lC eh
  obtain ⟨i8, a6, fs, eA, fQ, fR, fS, fT, fU, fV, kA, kB, fW, fX, fY, kC, fZ, iS⟩ := eh
  refine Zc (Zd (Za rfl rfl (Zq rfl iS fZ (Zb (Ze (Zc (W_false (Zx (decide_eq_false (by omega))) (W_exit (at_exit (at_exit (ib_here (ib_normal (Ze (Zd (Za rfl rfl (Exec.add rfl fY rfl (Za rfl rfl (Zm (v := Vi (IntKind.i64.wrap ((g : Int) + 1))) rfl rfl (Zb (Ze ?_))))))))))))))))))))
  have jE := Zu bh
  subst i5
  exact ⟨i8, a6, (Zt a2 fs), ((((eA).f2).drop).f1).f1, fQ, fR, fS, fT, fU, fV, fW, fX, (Eq.trans rfl (wrap_up fh (SliceRep.le ae)))⟩
 intro kc lD ei
 obtain ⟨kR, aX, h, cm, cF, cG, ga, gb, cH, gc, kD, gd, iT⟩ := ei
 refine Zc (Zd (Za rfl rfl (Zq rfl iT gd (Zb (Ze (Zc (W_false (Zx (decide_eq_false (by omega))) (W_exit (at_exit (at_exit (ib_here (Ze (Zc (Zd (Za rfl rfl (Exec.load_box_agg (ds := [o, p, t, u]) (cm) A26 rfl cH rfl (Za rfl rfl (Zm (v := b) rfl cF (Za rfl rfl (Zm (v := Vi (a)) rfl cG ?_))))))))))))))))))))
 obtain ⟨bs, h9, hm⟩ := Zg hm
 refine Za rfl rfl (Tc rfl rfl rfl (Zi rfl (Zi rfl (Zi rfl args_nil))) (ref58_events_sim h9 cm (bu.mono h) (bv.mono h) (bw.mono h) (a9.mono h) (ae.mono h)).r ?_)
 rintro am lE ⟨dt, _, m, eB, rfl, aR⟩
 refine Za rfl rfl (Zo (v := am) rfl rfl (Zb (Ze (Zc (Zc (Zd (Za rfl rfl (Zm (v := am) rfl rfl (Za rfl rfl (Zr S41 rfl rfl aR (Za rfl rfl (Zm (v := Vi (0)) rfl rfl (Zb (Ze ?_))))))))))))))
 obtain ⟨bD, dZ, hm⟩ := Zg hm
 refine W_block (W_forS (fun k' s' f' w' => (fun (bD : (List ref58_Problem)) => ∃ (du : PHeap) (aY : Value), PHeap.le dt du ∧ St w0 du (Res.box j 26 [o, p, t, u] :: Res.arr encref58_Problem 53 aY bD :: H) w' ∧ f' 1 = b ∧ f' 2 = Vi (a) ∧ f' 3 = ag ∧ f' 4 = ad ∧ f' 5 = Value.pointer (some ⟨j, 0, none⟩) ∧ f' 11 = aY ∧ f' 16 = am ∧ f' 92 = am ∧ f' 93 = Vi ((bs.length : Int)) ∧ f' 94 = Vi (k' : Int)) s') dZ ?_ ?_ ?_)
 ·have eC := (eB).f1
  exact ⟨dt, aX, (Zv _), (eC).f1, cF, cG, ga, gb, cH, gc, rfl, rfl, rfl, rfl⟩
 ·intro aV bD i9 kd lF fj ej aG
  obtain ⟨dv, aY, aq, cn, gf, gg, gh, gi, gj, gk, cI, cJ, cK, b9⟩ := ej
  refine Zc (Zd (Za rfl rfl (Zq rfl b9 cK (Zb (Ze (Zc (W_true (Zx (decide_eq_true (by omega))) (W_skip (Ze (Zc (W_block (Zc (Zd (Za rfl rfl (Zm (v := Vi ((aV : Int))) rfl b9 ?_)))))))))))))))
  obtain ⟨n, hA, aG⟩ := Zg aG
  refine Za rfl rfl (Exec.index_rep S41 rfl cJ b9 (aR.mono aq) hA ?_)
  intro jn kx dK
  refine Za rfl rfl (Zw (E := encref58_Event) cn A50 rfl rfl rfl dK ?_)
  intro lo hB
  obtain rfl := encref58_Event_val.1 hB
  refine Za rfl rfl (Exec.alloc (cs := [Vi (0), Vi (0), Value.bool (false)]) cn Z50 rfl rfl ?_)
  intro bx lG eD
  refine Za rfl rfl (Zo (v := Vi ((aV : Int))) rfl rfl (Za rfl rfl (Exec.store_box (ds := [Vi (n.At), Vi (n.Launch), Value.bool (n.End)]) (es := [Vi (n.At), Vi (n.Launch), Value.bool (n.End)]) eD A50 rfl rfl rfl rfl (Zj rfl (Zj rfl (Zj rfl one_nil))) (Nat.le_of_ble_eq_true rfl) rfl ?_)))
  intro lH eE
  refine Zb (Ze (Zc (Zd (Za rfl rfl (Zm (v := am) rfl cI (Za rfl rfl (Zm (v := Vi ((aV : Int))) rfl rfl (Za rfl rfl (Exec.add rfl rfl rfl ?_)))))))))
  obtain ⟨ci, hC, aG⟩ := Zg aG
  refine Za rfl rfl (Exec.slice_from S41 rfl rfl rfl (aR.mono aq) hC ?_)
  intro dB bU
  refine Za rfl rfl (Zr S41 rfl rfl bU (Za rfl rfl (Zm (v := Vi (0)) rfl rfl (Zb (Ze ?_)))))
  obtain ⟨bE, ea, aG⟩ := Zg aG
  refine W_block (W_forS (fun k' s' f' w' => (fun (bE : (List ref58_Problem)) => ∃ (dw : PHeap) (aS : Value), PHeap.le dv dw ∧ St w0 dw (Res.box j 26 [o, p, t, u] :: Res.arr encref58_Problem 53 aS bE :: Res.box bx 50 [Vi (n.At), Vi (n.Launch), Value.bool (n.End)] :: H) w' ∧ f' 1 = b ∧ f' 2 = Vi (a) ∧ f' 3 = ag ∧ f' 4 = ad ∧ f' 5 = Value.pointer (some ⟨j, 0, none⟩) ∧ f' 11 = aS ∧ f' 16 = am ∧ f' 18 = Value.pointer (some ⟨bx, 0, none⟩) ∧ f' 92 = am ∧ f' 93 = Vi ((bs.length : Int)) ∧ f' 94 = Vi ((aV : Int)) ∧ f' 102 = dB ∧ f' 103 = Vi ((ci.length : Int)) ∧ f' 104 = Vi (k' : Int)) s') ea ?_ ?_ ?_)
  ·have eF := (eE).f2
   exact ⟨dv, aY, (Zv _), (eF).f2, gf, gg, gh, gi, gj, gk, cI, rfl, cJ, cK, b9, rfl, rfl, rfl⟩
  ·intro cu bE iA ke lI fk ek ab
   obtain ⟨kS, aS, az, co, b4, bL, cL, cM, bn, cN, cO, bo, cP, cQ, cR, bM, bN, bA⟩ := ek
   refine Zc (Zd (Za rfl rfl (Zq rfl bA bN (Zb (Ze (Zc (W_true (Zx (decide_eq_true (by omega))) (W_skip (Ze (Zc (W_block (Zc (Zd ?_)))))))))))))
   obtain ⟨aa, hD, ab⟩ := Zg ab
   refine Za rfl rfl (Exec.index_rep S41 rfl bM bA (bU.mono az) hD ?_)
   intro jo ky dL
   refine Za rfl rfl (Zw (E := encref58_Event) co A50 rfl rfl rfl dL ?_)
   intro lp hE
   obtain rfl := encref58_Event_val.1 hE
   refine Za rfl rfl (Exec.alloc (cs := [Vi (0), Vi (0), Value.bool (false)]) co Z50 rfl rfl ?_)
   intro jp lJ eG
   refine Za rfl rfl (Exec.store_box (ds := [Vi (aa.At), Vi (aa.Launch), Value.bool (aa.End)]) (es := [Vi (aa.At), Vi (aa.Launch), Value.bool (aa.End)]) eG A50 rfl rfl rfl rfl (Zj rfl (Zj rfl (Zj rfl one_nil))) (Nat.le_of_ble_eq_true rfl) rfl ?_)
   intro lK eH
   refine Zb (Ze (Zc (W_dl (n0 := 26) (qs 0 25 (.e 25 [] .done)) hmix (by kernel_rfl) (by kernel_rfl) ?_)))
   have aj := eH.drew
   refine DL_q rfl rfl (Exec.load_box_agg (ds := [o, p, t, u]) ((aj).f1) A26 rfl bn rfl ⟨rfl, ?_⟩)
   refine DL_q rfl rfl (Zp F26_3 rfl bn rfl ⟨rfl, ?_⟩)
   refine DL_q rfl rfl (Zn ((aj).f1) A24 rfl rfl rfl ⟨rfl, ?_⟩)
   refine DL_q rfl rfl (Zm (v := b) rfl b4 ⟨rfl, ?_⟩)
   refine DL_q rfl rfl (Zp F50_1 rfl bo rfl ⟨rfl, ?_⟩)
   refine DL_q rfl rfl (Zn ((aj).f3) A3 rfl rfl rfl ⟨rfl, ?_⟩)
   obtain ⟨iU, hF, ab⟩ := Zg ab
   refine DL_q rfl rfl (Exec.index_repE S27 rfl rfl rfl (ae.mono (Zt (Zt (Zt h m) aq) az)) hF ?_)
   intro jq kz dM jF
   refine ⟨rfl, ?_⟩
   refine DL_q rfl rfl (Zp F64_1 rfl rfl rfl ⟨rfl, ?_⟩)
   refine DL_q rfl rfl (Zw (E := (encInt .i64)) aj A3 rfl rfl rfl (dM.sub (Sub.iso (Sub.snd (Sub.refl _) rfl)) rfl) ?_)
   intro iN hG
   obtain rfl : iN = Vi (iU.Job) := encInt_val.1 hG
   refine ⟨rfl, ?_⟩
   obtain ⟨mm, hH, ab⟩ := Zg ab
   refine DL_q rfl rfl (Exec.index_repE S24 rfl rfl rfl (a9.mono (Zt (Zt (Zt h m) aq) az)) hH ?_)
   intro jr k0 dN jG
   refine ⟨rfl, ?_⟩
   refine DL_q rfl rfl (Zw (E := encJob) aj A59 rfl rfl rfl dN ?_)
   intro lq hI
   obtain ⟨kW, kX, kY, kZ, la, rfl, il, im, io, ip, iq⟩ := encJob_val.1 hI
   refine ⟨rfl, ?_⟩
   refine DL_q rfl rfl (Zp F26_3 rfl bn rfl ⟨rfl, ?_⟩)
   refine DL_q rfl rfl (Zn ((aj).f1) A24 rfl rfl rfl ⟨rfl, ?_⟩)
   refine DL_q rfl rfl (Zm (v := b) rfl b4 ⟨rfl, ?_⟩)
   refine DL_q rfl rfl (Zp F50_1 rfl rfl rfl ⟨rfl, ?_⟩)
   refine DL_q rfl rfl (Zn (aj) A3 rfl rfl rfl ⟨rfl, ?_⟩)
   obtain ⟨iV, hJ, ab⟩ := Zg ab
   refine DL_q rfl rfl (Exec.index_repE S27 rfl rfl rfl (ae.mono (Zt (Zt (Zt h m) aq) az)) hJ ?_)
   intro js k1 dO jH
   refine ⟨rfl, ?_⟩
   refine DL_q rfl rfl (Zp F64_1 rfl rfl rfl ⟨rfl, ?_⟩)
   refine DL_q rfl rfl (Zw (E := (encInt .i64)) aj A3 rfl rfl rfl (dO.sub (Sub.iso (Sub.snd (Sub.refl _) rfl)) rfl) ?_)
   intro iO hK
   obtain rfl : iO = Vi (iV.Job) := encInt_val.1 hK
   refine ⟨rfl, ?_⟩
   obtain ⟨mn, hL, ab⟩ := Zg ab
   refine DL_q rfl rfl (Exec.index_repE S24 rfl rfl rfl (a9.mono (Zt (Zt (Zt h m) aq) az)) hL ?_)
   intro jt k2 dP jI
   refine ⟨rfl, ?_⟩
   refine DL_q rfl rfl (Zw (E := encJob) aj A59 rfl rfl rfl dP ?_)
   intro lr hM
   obtain ⟨lb, lc, ld, lf, lg, rfl, ir, it, iu, iv, iw⟩ := encJob_val.1 hM
   refine ⟨rfl, ?_⟩
   refine DL_q rfl rfl (Zp F50_2 rfl bo rfl ⟨rfl, ?_⟩)
   refine DL_q rfl rfl (Zn ((aj).f3) A4 rfl rfl rfl ⟨rfl, ?_⟩)
   refine DL_q rfl rfl (Zp F50_2 rfl rfl rfl ⟨rfl, ?_⟩)
   refine DL_q rfl rfl (Zn (aj) A4 rfl rfl rfl ⟨rfl, ?_⟩)
   obtain ⟨ah, hN, ab⟩ := Zg ab
   refine DL_e rfl rfl (Tc rfl rfl rfl (Zi rfl (Zi rfl (Zi rfl (Zi rfl (Zi rfl args_nil))))) (ref58_shared_sim hN aj (bu.mono (Zt (Zt (Zt h m) aq) az)) (bv.mono (Zt (Zt (Zt h m) aq) az)) (bw.mono (Zt (Zt (Zt h m) aq) az)) (a9.mono (Zt (Zt (Zt h m) aq) az)) il im io ip iq ir it iu iv iw).r ?_)
   rintro _ lL ⟨ca, ft, b0, rfl⟩
   refine ⟨ag_nil, ?_⟩
   refine DL_done (Za rfl rfl (Zo (v := Vi (ah)) rfl rfl (Zb (Ze (Zc (Zd (Za rfl rfl (Zm (v := Vi (ah)) rfl rfl (Za rfl rfl (Exec.geq rfl rfl rfl (Zb (Ze ?_))))))))))))
   obtain ⟨bl, aI, ab⟩ := Zg ab
   refine W_mid (M := fun f' w' => (fun (bl : (List ref58_Problem)) => ∃ (dx : PHeap) (b7 : Value), PHeap.le ca dx ∧ St w0 dx (Res.box j 26 [o, p, t, u] :: Res.arr encref58_Problem 53 b7 bl :: Res.box bx 50 [Vi (n.At), Vi (n.Launch), Value.bool (n.End)] :: H) w' ∧ f' 1 = b ∧ f' 2 = Vi (a) ∧ f' 3 = ag ∧ f' 4 = ad ∧ f' 5 = Value.pointer (some ⟨j, 0, none⟩) ∧ f' 11 = b7 ∧ f' 16 = am ∧ f' 18 = Value.pointer (some ⟨bx, 0, none⟩) ∧ f' 92 = am ∧ f' 93 = Vi ((bs.length : Int)) ∧ f' 94 = Vi ((aV : Int)) ∧ f' 102 = dB ∧ f' 103 = Vi ((ci.length : Int)) ∧ f' 104 = Vi ((cu : Int))) bl) ?_ ?_
   ·rcases ite_some aI with ⟨bf, aI⟩ | ⟨bf, aI⟩
    ·refine W_cond_t rfl bf (Zd (Za rfl rfl (Zm (v := aS) rfl cN (Za rfl rfl (Zm (v := Vi (a)) rfl bL (Za rfl rfl (Zp F50_1 rfl bo rfl (Za rfl rfl (Zn ((b0).f3) A3 rfl rfl rfl (Za rfl rfl (Zp F50_1 rfl rfl rfl (Za rfl rfl (Zn (b0) A3 rfl rfl rfl (Za rfl rfl (Zm (v := Vi (ah)) rfl rfl (Za rfl rfl (Exec.build rfl (parts_cons (c := [Vi (a)]) (cells_of rfl rfl) (parts_cons (c := [Vi (17)]) (cells_of rfl rfl) (parts_cons (c := [Vi (n.Launch)]) (cells_of rfl rfl) (parts_cons (c := [Vi (aa.Launch)]) (cells_of rfl rfl) (parts_cons (c := [Vi (ah)]) (cells_of rfl rfl) parts_nil))))) (v := Value.agg #[Vi (a), Vi (17), Vi (n.Launch), Vi (aa.Launch), Vi (ah)]) (fun _ => by kernel_rfl) (Za rfl rfl (Exec.buildSlice (Te := 53) (cs := [Vi (a), Vi (17), Vi (n.Launch), Vi (aa.Launch), Vi (ah)]) b0 rfl (parts_cons (c := [Vi (a), Vi (17), Vi (n.Launch), Vi (aa.Launch), Vi (ah)]) (cells_of rfl rfl) parts_nil) (fun _ => by kernel_rfl) ?_)))))))))))))))))))
     intro ju lM eI
     obtain ⟨ks, hO, aI⟩ := Zg aI
     refine Za rfl rfl (Exec.append_box (E := encref58_Problem) (ys := [(⟨a, 17, n.Launch, aa.Launch, ah⟩ : ref58_Problem)]) (eI).f3 S42 Z53 rfl (by decide) rfl rfl rfl rfl ⟨[Vi (a), Vi (17), Vi (n.Launch), Vi (aa.Launch), Vi (ah)], [], rfl, ⟨[Vi (a)], [Vi (17), Vi (n.Launch), Vi (aa.Launch), Vi (ah)], rfl, rfl, ⟨[Vi (17)], [Vi (n.Launch), Vi (aa.Launch), Vi (ah)], rfl, rfl, ⟨[Vi (n.Launch)], [Vi (aa.Launch), Vi (ah)], rfl, rfl, ⟨[Vi (aa.Launch)], [Vi (ah)], rfl, rfl, rfl⟩⟩⟩⟩, rfl⟩ rfl hO ?_)
     intro dC lN eJ
     refine Za rfl rfl (Zo (v := dC) rfl rfl (Zb (Ze ?_)))
     have jJ := Zu aI
     subst bl
     exact ⟨ca, dC, (Zv _), (((((eJ).f1).drop).f2).f1).f2, b4, bL, cL, cM, bn, rfl, cO, bo, cP, cQ, cR, bM, bN, bA⟩
    refine W_cond_f rfl bf ?_
    replace bf := Zk bf
    refine W_skip (Ze ?_)
    have jK := Zu aI
    subst bl
    exact ⟨ca, aS, (Zv _), ((((b0).drop).f2).f2).f2, b4, bL, cL, cM, bn, cN, cO, bo, cP, cQ, cR, bM, bN, bA⟩
   intro kf lO ez
   obtain ⟨iB, b7, fu, eK, gl, gm, gn, go, gp, gq, gr, gs, gu, gv, gw, gx, gy, gz⟩ := ez
   refine (ib_normal (Ze (Zd (Za rfl rfl (Exec.add rfl gz rfl (Za rfl rfl (Zm (v := Vi (IntKind.i64.wrap ((cu : Int) + 1))) rfl rfl (Zb (Ze ?_)))))))))
   have jL := Zu ab
   subst iA
   exact ⟨iB, b7, (Zt (Zt az ft) fu), (((eK).f2).f2).f2, gl, gm, gn, go, gp, gq, gr, gs, gu, gv, gw, gx, gy, (Eq.trans rfl (wrap_up fk (SliceRep.le bU)))⟩
  intro kg lP el
  obtain ⟨iC, aS, fv, eL, g0, g1, g2, g3, g4, g5, g6, kE, g7, g8, g9, kF, gA, iW⟩ := el
  refine Zc (Zd (Za rfl rfl (Zq rfl iW gA (Zb (Ze (Zc (W_false (Zx (decide_eq_false (by omega))) (W_exit (at_exit (at_exit (ib_here (ib_normal (Ze (Zd (Za rfl rfl (Exec.add rfl g9 rfl (Za rfl rfl (Zm (v := Vi (IntKind.i64.wrap ((aV : Int) + 1))) rfl rfl (Zb (Ze ?_))))))))))))))))))))
  have jM := Zu aG
  subst i9
  exact ⟨iC, aS, (Zt aq fv), ((((eL).f2).drop).f1).f1, g0, g1, g2, g3, g4, g5, g6, g7, g8, (Eq.trans rfl (wrap_up fj (SliceRep.le aR)))⟩
 intro kh lQ em
 obtain ⟨dy, aY, z, eM, gB, gC, gD, gE, gF, gG, gH, kG, gI, iX⟩ := em
 refine Zc (Zd (Za rfl rfl (Zq rfl iX gI (Zb (Ze (Zc (W_false (Zx (decide_eq_false (by omega))) (W_exit (at_exit (at_exit (ib_here (Ze (Zc (Zc (Zd (Za rfl rfl (Zm (v := am) rfl gH (Za rfl rfl (Zr S41 rfl rfl (aR.mono z) (Za rfl rfl (Zm (v := Vi (0)) rfl rfl (Zb (Ze ?_)))))))))))))))))))))))
 obtain ⟨bF, eb, hm⟩ := Zg hm
 refine W_block (W_forS (fun k' s' f' w' => (fun (bF : (List ref58_Problem)) => ∃ (dz : PHeap) (aZ : Value), PHeap.le dy dz ∧ St w0 dz (Res.box j 26 [o, p, t, u] :: Res.arr encref58_Problem 53 aZ bF :: H) w' ∧ f' 1 = b ∧ f' 2 = Vi (a) ∧ f' 3 = ag ∧ f' 4 = ad ∧ f' 5 = Value.pointer (some ⟨j, 0, none⟩) ∧ f' 11 = aZ ∧ f' 148 = am ∧ f' 149 = Vi ((bs.length : Int)) ∧ f' 150 = Vi (k' : Int)) s') eb ?_ ?_ ?_)
 ·have eN := (eM).f1
  exact ⟨dy, aY, (Zv _), (eN).f1, gB, gC, gD, gE, gF, gG, rfl, rfl, rfl⟩
 ·intro cv bF iD ki lR fl en ap
  obtain ⟨kT, aZ, bm, cp, cS, gJ, bO, gK, cT, gL, cU, cV, cb⟩ := en
  refine Zc (Zd (Za rfl rfl (Zq rfl cb cV (Zb (Ze (Zc (W_true (Zx (decide_eq_true (by omega))) (W_skip (Ze (Zc (W_block (Zc (Zd ?_)))))))))))))
  obtain ⟨x, hP, ap⟩ := Zg ap
  refine Za rfl rfl (Exec.index_rep S41 rfl cU cb (aR.mono (Zt z bm)) hP ?_)
  intro jv k3 dQ
  refine Za rfl rfl (Zw (E := encref58_Event) cp A50 rfl rfl rfl dQ ?_)
  intro ls hQ
  obtain rfl := encref58_Event_val.1 hQ
  refine Za rfl rfl (Exec.alloc (cs := [Vi (0), Vi (0), Value.bool (false)]) cp Z50 rfl rfl ?_)
  intro cf lS eO
  refine Za rfl rfl (Exec.store_box (ds := [Vi (x.At), Vi (x.Launch), Value.bool (x.End)]) (es := [Vi (x.At), Vi (x.Launch), Value.bool (x.End)]) eO A50 rfl rfl rfl rfl (Zj rfl (Zj rfl (Zj rfl one_nil))) (Nat.le_of_ble_eq_true rfl) rfl ?_)
  intro lT eP
  refine Zb (Ze (Zc (W_dl (n0 := 17) (qs 0 12 (.q 13 (.q 16 (.e 12 [13, 16] (.e 14 [16] (.q 15 .done)))))) hmix (by kernel_rfl) (by kernel_rfl) ?_)))
  have aU := eP.drew
  refine DL_q rfl rfl (Zp F26_3 rfl cT rfl ⟨rfl, ?_⟩)
  refine DL_q rfl rfl (Zn ((aU).f1) A24 rfl rfl rfl ⟨rfl, ?_⟩)
  refine DL_q rfl rfl (Zm (v := b) rfl cS ⟨rfl, ?_⟩)
  refine DL_q rfl rfl (Zp F50_1 rfl rfl rfl ⟨rfl, ?_⟩)
  refine DL_q rfl rfl (Zn (aU) A3 rfl rfl rfl ⟨rfl, ?_⟩)
  obtain ⟨iY, hR, ap⟩ := Zg ap
  refine DL_q rfl rfl (Exec.index_repE S27 rfl rfl rfl (ae.mono (Zt (Zt (Zt h m) z) bm)) hR ?_)
  intro jw k4 dR jN
  refine ⟨rfl, ?_⟩
  refine DL_q rfl rfl (Zp F64_1 rfl rfl rfl ⟨rfl, ?_⟩)
  refine DL_q rfl rfl (Zw (E := (encInt .i64)) aU A3 rfl rfl rfl (dR.sub (Sub.iso (Sub.snd (Sub.refl _) rfl)) rfl) ?_)
  intro iP hT
  obtain rfl : iP = Vi (iY.Job) := encInt_val.1 hT
  refine ⟨rfl, ?_⟩
  obtain ⟨iZ, hU, ap⟩ := Zg ap
  refine DL_q rfl rfl (Exec.index_repE S24 rfl rfl rfl (a9.mono (Zt (Zt (Zt h m) z) bm)) hU ?_)
  intro jx k5 dS jO
  refine ⟨rfl, ?_⟩
  refine DL_q rfl rfl (Zw (E := encJob) aU A59 rfl rfl rfl dS ?_)
  intro lu hV
  obtain ⟨lh, li, lj, lk, ll, rfl, ix, iy, iz, i0, i1⟩ := encJob_val.1 hV
  refine ⟨rfl, ?_⟩
  refine DL_q rfl rfl (Zp F50_2 rfl rfl rfl ⟨rfl, ?_⟩)
  refine DL_q rfl rfl (Zn (aU) A4 rfl rfl rfl ⟨rfl, ?_⟩)
  refine DL_q rfl rfl (Zm (v := ag) rfl bO ⟨rfl, ?_⟩)
  refine DL_q rfl rfl (Zm (v := Vi (0)) rfl rfl ⟨rfl, ?_⟩)
  refine DL_e rfl rfl (Tc rfl rfl rfl (Zi rfl (Zi rfl args_nil)) (ref55_Reads_sim (ref55_Reads_tot iZ x.End) aU ix iy iz i0 i1).r ?_)
  rintro lv lU ⟨kU, _, cw, eQ, rfl, i2⟩
  refine ⟨(ag_cons (ag_r rfl rfl (Zm (v := ag) rfl bO ⟨rfl, rfl⟩)) (ag_cons (ag_r rfl rfl (Zm (v := Vi (0)) rfl rfl ⟨rfl, rfl⟩)) ag_nil)), ?_⟩
  obtain ⟨jg, hW, ap⟩ := Zg ap
  refine DL_e rfl rfl (Tc rfl rfl rfl (Zi rfl (Zi rfl args_nil)) (ref58_lacking_sim hW eQ i2 (dG.mono (Zt (Zt (Zt (Zt h m) z) bm) cw))).r ?_)
  rintro iQ lV ⟨d0, _, fw, eR, rfl, bV⟩
  refine ⟨(ag_cons (ag_r rfl rfl (Zm (v := Vi (0)) rfl rfl ⟨rfl, rfl⟩)) ag_nil), ?_⟩
  refine DL_q rfl rfl (Zr S22 rfl rfl bV ⟨rfl, ?_⟩)
  refine DL_done (Zb (Ze ?_))
  obtain ⟨bG, ec, ap⟩ := Zg ap
  refine W_block (W_forS (fun k' s' f' w' => (fun (bG : (List ref58_Problem)) => ∃ (d1 : PHeap) (ba : Value), PHeap.le d0 d1 ∧ St w0 d1 (Res.box j 26 [o, p, t, u] :: Res.arr encref58_Problem 53 ba bG :: Res.box cf 50 [Vi (x.At), Vi (x.Launch), Value.bool (x.End)] :: H) w' ∧ f' 1 = b ∧ f' 2 = Vi (a) ∧ f' 3 = ag ∧ f' 4 = ad ∧ f' 5 = Value.pointer (some ⟨j, 0, none⟩) ∧ f' 11 = ba ∧ f' 23 = Value.pointer (some ⟨cf, 0, none⟩) ∧ f' 148 = am ∧ f' 149 = Vi ((bs.length : Int)) ∧ f' 150 = Vi ((cv : Int)) ∧ f' 168 = iQ ∧ f' 169 = Vi ((jg.length : Int)) ∧ f' 170 = Vi (k' : Int)) s') ec ?_ ?_ ?_)
  ·have eS := (eR).f2
   exact ⟨d0, aZ, (Zv _), (eS).f2, cS, gJ, bO, gK, cT, gL, rfl, cU, cV, cb, rfl, rfl, rfl⟩
  ·intro fo bG iE kj lW fm eo bi
   obtain ⟨iF, ba, cx, bB, gM, cW, gN, gO, gP, gQ, cX, gR, gS, gT, cY, cZ, cc⟩ := eo
   refine Zc (Zd (Za rfl rfl (Zq rfl cc cZ (Zb (Ze (Zc (W_true (Zx (decide_eq_true (by omega))) (W_skip (Ze (Zc (W_block (Zc (Zd ?_)))))))))))))
   obtain ⟨an, hX, bi⟩ := Zg bi
   refine Za rfl rfl (Exec.index_rep S22 rfl cY cc (bV.mono cx) hX ?_)
   intro jy k6 dT
   refine Za rfl rfl (Zw (E := (encInt .i64)) bB A3 rfl rfl rfl dT ?_)
   intro lw hY
   obtain rfl := encInt_val.1 hY
   refine Za rfl rfl (Zo (v := Vi (an)) rfl rfl (Zb (Ze (Zd (Za rfl rfl (Zm (v := ba) rfl gQ (Za rfl rfl (Zm (v := Vi (a)) rfl cW (Za rfl rfl (Zp F50_1 rfl cX rfl (Za rfl rfl (Zn ((bB).f2) A3 rfl rfl rfl (Za rfl rfl (Zm (v := Vi (an)) rfl rfl (Za rfl rfl (Exec.build rfl (parts_cons (c := [Vi (a)]) (cells_of rfl rfl) (parts_cons (c := [Vi (12)]) (cells_of rfl rfl) (parts_cons (c := [Vi (x.Launch)]) (cells_of rfl rfl) (parts_cons (c := [Vi ((-1))]) (cells_of rfl rfl) (parts_cons (c := [Vi (an)]) (cells_of rfl rfl) parts_nil))))) (v := Value.agg #[Vi (a), Vi (12), Vi (x.Launch), Vi ((-1)), Vi (an)]) (fun _ => by kernel_rfl) (Za rfl rfl (Exec.buildSlice (Te := 53) (cs := [Vi (a), Vi (12), Vi (x.Launch), Vi ((-1)), Vi (an)]) bB rfl (parts_cons (c := [Vi (a), Vi (12), Vi (x.Launch), Vi ((-1)), Vi (an)]) (cells_of rfl rfl) parts_nil) (fun _ => by kernel_rfl) ?_))))))))))))))))))
   intro jz lX eT
   obtain ⟨kt, hZ, bi⟩ := Zg bi
   refine Za rfl rfl (Exec.append_box (E := encref58_Problem) (ys := [(⟨a, 12, x.Launch, (-1), an⟩ : ref58_Problem)]) (eT).f2 S42 Z53 rfl (by decide) rfl rfl rfl rfl ⟨[Vi (a), Vi (12), Vi (x.Launch), Vi ((-1)), Vi (an)], [], rfl, ⟨[Vi (a)], [Vi (12), Vi (x.Launch), Vi ((-1)), Vi (an)], rfl, rfl, ⟨[Vi (12)], [Vi (x.Launch), Vi ((-1)), Vi (an)], rfl, rfl, ⟨[Vi (x.Launch)], [Vi ((-1)), Vi (an)], rfl, rfl, ⟨[Vi ((-1))], [Vi (an)], rfl, rfl, rfl⟩⟩⟩⟩, rfl⟩ rfl hZ ?_)
   intro dD lY eU
   refine Za rfl rfl (Zo (v := dD) rfl rfl (Zb (ib_normal (Ze (Zd (Za rfl rfl (Exec.add rfl cc rfl (Za rfl rfl (Zm (v := Vi (IntKind.i64.wrap ((fo : Int) + 1))) rfl rfl (Zb (Ze ?_)))))))))))
   have jP := Zu bi
   subst iE
   exact ⟨iF, dD, cx, (((eU).f2).f1).f2, gM, cW, gN, gO, gP, rfl, cX, gR, gS, gT, cY, cZ, (Eq.trans rfl (wrap_up fm (SliceRep.le bV)))⟩
  intro kk lZ ep
  obtain ⟨iG, ba, fx, eV, gU, gV, gW, gX, gY, gZ, kH, ha, hb, hc, kI, hd, ja⟩ := ep
  refine Zc (Zd (Za rfl rfl (Zq rfl ja hd (Zb (Ze (Zc (W_false (Zx (decide_eq_false (by omega))) (W_exit (at_exit (at_exit (ib_here (ib_normal (Ze (Zd (Za rfl rfl (Exec.add rfl hc rfl (Za rfl rfl (Zm (v := Vi (IntKind.i64.wrap ((cv : Int) + 1))) rfl rfl (Zb (Ze ?_))))))))))))))))))))
  have jQ := Zu ap
  subst iD
  exact ⟨iG, ba, (Zt (Zt (Zt bm cw) fw) fx), ((((eV).f2).drop).f1).f1, gU, gV, gW, gX, gY, gZ, ha, hb, (Eq.trans rfl (wrap_up fl (SliceRep.le (aR.mono z))))⟩
 intro kl ma er
 obtain ⟨d2, aZ, ar, eW, he, hf, kJ, hg, hh, hi, kK, hj, jb⟩ := er
 refine Zc (Zd (Za rfl rfl (Zq rfl jb hj (Zb (Ze (Zc (W_false (Zx (decide_eq_false (by omega))) (W_exit (at_exit (at_exit (ib_here (Ze (Zc (Zc (Zd (Za rfl rfl (Zm (v := b) rfl he (Za rfl rfl (Zr S27 rfl rfl (ae.mono (Zt (Zt (Zt h m) z) ar)) (Za rfl rfl (Zm (v := Vi (0)) rfl rfl (Zb (Ze ?_)))))))))))))))))))))))
 obtain ⟨b2, ed, hm⟩ := Zg hm
 refine W_block (W_forS (fun k' s' f' w' => (fun (b2 : (List ref58_Problem)) => ∃ (d3 : PHeap) (au : Value), PHeap.le d2 d3 ∧ St w0 d3 (Res.box j 26 [o, p, t, u] :: Res.arr encref58_Problem 53 au b2 :: H) w' ∧ f' 2 = Vi (a) ∧ f' 4 = ad ∧ f' 5 = Value.pointer (some ⟨j, 0, none⟩) ∧ f' 11 = au ∧ f' 184 = b ∧ f' 185 = Vi ((ak.length : Int)) ∧ f' 186 = Vi (k' : Int)) s') ed ?_ ?_ ?_)
 ·have eX := (eW).f1
  exact ⟨d2, aZ, (Zv _), (eX).f1, hf, hg, hh, hi, rfl, rfl, rfl⟩
 ·intro y b2 d4 km mb ct et ac
  obtain ⟨d5, au, a3, cq, b5, da, bP, db, bQ, bR, br⟩ := et
  refine Zc (Zd (Za rfl rfl (Zq rfl br bR (Zb (Ze (Zc (W_true (Zx (decide_eq_true (by omega))) (W_skip (Ze (Zc (W_block (Zc (Zd (Za rfl rfl (Zm (v := Vi ((y : Int))) rfl br ?_)))))))))))))))
  obtain ⟨a8, ia, ac⟩ := Zg ac
  refine Za rfl rfl (Exec.index_rep S27 rfl bQ br (ae.mono (Zt (Zt (Zt (Zt h m) z) ar) a3)) ia ?_)
  intro j0 k7 dU
  refine Za rfl rfl (Zw (E := encLaunch) cq A64 rfl rfl rfl dU ?_)
  intro lx ib
  obtain rfl := encLaunch_val.1 ib
  refine Za rfl rfl (Exec.alloc (cs := [Vi (0), Vi (0)]) cq Z64 rfl rfl ?_)
  intro cg mc eY
  refine Za rfl rfl (Zo (v := Vi ((y : Int))) rfl rfl (Za rfl rfl (Exec.store_box (ds := [Vi (a8.At), Vi (a8.Job)]) (es := [Vi (a8.At), Vi (a8.Job)]) eY A64 rfl rfl rfl rfl (Zj rfl (Zj rfl one_nil)) (Nat.le_of_ble_eq_true rfl) rfl ?_)))
  intro md bc
  refine Zb (Ze (Zc (Zc ?_)))
  obtain ⟨bt, aJ, ac⟩ := Zg ac
  refine W_mid (M := fun f' w' => (fun (bt : Bool) => ∃ (d6 : PHeap) , PHeap.le d5 d6 ∧ St w0 d6 (Res.box j 26 [o, p, t, u] :: Res.arr encref58_Problem 53 au b2 :: Res.box cg 64 [Vi (a8.At), Vi (a8.Job)] :: H) w' ∧ f' 2 = Vi (a) ∧ f' 4 = ad ∧ f' 5 = Value.pointer (some ⟨j, 0, none⟩) ∧ f' 11 = au ∧ f' 26 = Vi ((y : Int)) ∧ f' 27 = Value.pointer (some ⟨cg, 0, none⟩) ∧ f' 184 = b ∧ f' 185 = Vi ((ak.length : Int)) ∧ f' 186 = Vi ((y : Int)) ∧ f' 201 = Value.bool (bt)) bt) ?_ ?_
  ·refine Zd (Za rfl rfl (Zp F64_0 rfl rfl rfl (Za rfl rfl (Zn (bc) A3 rfl rfl rfl (Za rfl rfl (Zm (v := Vi (a)) rfl b5 (Za rfl rfl (Exec.gtr rfl rfl rfl (Za rfl rfl (Zm (v := Value.bool (decide (a < a8.At))) rfl rfl ?_))))))))))
   rcases ite_some aJ with ⟨ay, aJ⟩ | ⟨ay, aJ⟩
   ·refine WL_passes 6 (by rw [ay]; rfl) ?_
    refine Zb (Ze ?_)
    have jR := Zu aJ
    subst bt
    exact ⟨d5, (Zv _), ((bc).f2).f2, b5, da, bP, db, rfl, rfl, bQ, bR, br, rfl⟩
   replace ay := Zk ay
   refine WL_run rfl (Zf rfl (Zx ay)) rfl (Exec.load_box_agg (ds := [o, p, t, u]) ((bc).f1) A26 rfl bP rfl (WL_run rfl (Zf rfl (Zx ay)) rfl (Exec.load_box_agg (ds := [Vi (a8.At), Vi (a8.Job)]) (bc) A64 rfl rfl rfl ?_)))
   obtain ⟨jh, ic, aJ⟩ := Zg aJ
   refine WL_run rfl (Zf rfl (Zx ay)) rfl (Tc rfl rfl rfl (Zi rfl (Zi rfl args_nil)) (ref55_End_sim ic bc (bu.mono (Zt (Zt (Zt (Zt h m) z) ar) a3)) (bv.mono (Zt (Zt (Zt (Zt h m) z) ar) a3)) (bw.mono (Zt (Zt (Zt (Zt h m) z) ar) a3)) (a9.mono (Zt (Zt (Zt (Zt h m) z) ar) a3))).r ?_)
   rintro _ me ⟨iH, fy, eZ, rfl⟩
   refine WL_run rfl (Zf rfl (Zx ay)) rfl (Zm (v := Vi (a)) rfl b5 (WL_run rfl (Zf rfl (Zx ay)) rfl (Exec.leq rfl rfl rfl (Za rfl rfl (Exec.pick_f (v := Value.bool (decide (jh ≤ a))) rfl (Zx ay) rfl (Zb (Ze ?_)))))))
   have jS := Zu aJ
   subst bt
   exact ⟨iH, fy, ((eZ).f2).f2, b5, da, bP, db, rfl, rfl, bQ, bR, br, rfl⟩
  intro kn mf e0
  obtain ⟨iI, b3, bd, dc, bS, bT, dd, hk, hl, de, df, dg, dh⟩ := e0
  refine (Ze ?_)
  rcases ite_some ac with ⟨bg, ac⟩ | ⟨bg, ac⟩
  ·refine W_cond_t dh bg (W_exit (at_exit (ib_here (Ze (Zd (Za rfl rfl (Exec.add rfl dg rfl (Za rfl rfl (Zm (v := Vi (IntKind.i64.wrap ((y : Int) + 1))) rfl rfl (Zb (Ze ?_)))))))))))
   have jT := Zu ac
   subst d4
   exact ⟨iI, au, (Zt a3 b3), ((((bd).f2).drop).f1).f1, dc, bS, bT, dd, de, df, (Eq.trans rfl (wrap_up ct (SliceRep.le (ae.mono (Zt (Zt (Zt h m) z) ar)))))⟩
  refine W_cond_f dh bg ?_
  replace bg := Zk bg
  refine W_skip (Ze (Zc (Zd (Za rfl rfl (Zp F26_3 rfl bT rfl (Za rfl rfl (Zn (bd) A24 rfl rfl rfl (Za rfl rfl (Zp F64_1 rfl hl rfl (Za rfl rfl (Zn ((bd).f2) A3 rfl rfl rfl ?_)))))))))))
  obtain ⟨jc, ie, ac⟩ := Zg ac
  refine Za rfl rfl (Exec.index_rep S24 rfl rfl rfl (a9.mono (Zt (Zt (Zt (Zt (Zt h m) z) ar) a3) b3)) ie ?_)
  intro j1 k8 dV
  refine Za rfl rfl (Zp F59_3 rfl rfl rfl (Za rfl rfl (Zw (E := (encSlice encFact)) bd A23 rfl rfl rfl (dV.sub (Sub.iso (Sub.snd (Sub.snd (Sub.snd (Sub.fst (Sub.refl _)) rfl) rfl) rfl)) rfl) ?_)))
  intro ly ig
  have i3 : SliceRep _ _ _ (jc.Over) := encSlice_val.1 ig
  refine Za rfl rfl (Zm (v := ad) rfl bS ?_)
  obtain ⟨ji, ih, ac⟩ := Zg ac
  refine Za rfl rfl (Tc rfl rfl rfl (Zi rfl (Zi rfl args_nil)) (ref58_lacking_sim ih bd i3 (dH.mono (Zt (Zt (Zt (Zt (Zt h m) z) ar) a3) b3))).r ?_)
  rintro iR mg ⟨d7, _, fz, fa, rfl, bW⟩
  refine Za rfl rfl (Zr S22 rfl rfl bW (Za rfl rfl (Zm (v := Vi (0)) rfl rfl (Zb (Ze ?_)))))
  obtain ⟨bH, ee, ac⟩ := Zg ac
  refine W_block (W_forS (fun k' s' f' w' => (fun (bH : (List ref58_Problem)) => ∃ (d8 : PHeap) (bb : Value), PHeap.le d7 d8 ∧ St w0 d8 (Res.box j 26 [o, p, t, u] :: Res.arr encref58_Problem 53 bb bH :: H) w' ∧ f' 2 = Vi (a) ∧ f' 4 = ad ∧ f' 5 = Value.pointer (some ⟨j, 0, none⟩) ∧ f' 11 = bb ∧ f' 26 = Vi ((y : Int)) ∧ f' 184 = b ∧ f' 185 = Vi ((ak.length : Int)) ∧ f' 186 = Vi ((y : Int)) ∧ f' 210 = iR ∧ f' 211 = Vi ((ji.length : Int)) ∧ f' 212 = Vi (k' : Int)) s') ee ?_ ?_ ?_)
  ·have fb := ((fa).f2).drop
   exact ⟨d7, au, (Zv _), ((fb).f1).f1, dc, bS, bT, dd, hk, de, df, dg, rfl, rfl, rfl⟩
  ·intro fp bH iJ ko mh fn eu bj
   obtain ⟨iK, bb, cy, cr, di, hn, ho, hp, dj, hq, hr, hs, dk, dl, cd⟩ := eu
   refine Zc (Zd (Za rfl rfl (Zq rfl cd dl (Zb (Ze (Zc (W_true (Zx (decide_eq_true (by omega))) (W_skip (Ze (Zc (W_block (Zc (Zd ?_)))))))))))))
   obtain ⟨ao, ii, bj⟩ := Zg bj
   refine Za rfl rfl (Exec.index_rep S22 rfl dk cd (bW.mono cy) ii ?_)
   intro j2 k9 dW
   refine Za rfl rfl (Zw (E := (encInt .i64)) cr A3 rfl rfl rfl dW ?_)
   intro lz ij
   obtain rfl := encInt_val.1 ij
   refine Za rfl rfl (Zo (v := Vi (ao)) rfl rfl (Zb (Ze (Zd (Za rfl rfl (Zm (v := bb) rfl hp (Za rfl rfl (Zm (v := Vi (a)) rfl di (Za rfl rfl (Zm (v := Vi ((y : Int))) rfl dj (Za rfl rfl (Zm (v := Vi (ao)) rfl rfl (Za rfl rfl (Exec.build rfl (parts_cons (c := [Vi (a)]) (cells_of rfl rfl) (parts_cons (c := [Vi (16)]) (cells_of rfl rfl) (parts_cons (c := [Vi ((y : Int))]) (cells_of rfl rfl) (parts_cons (c := [Vi ((-1))]) (cells_of rfl rfl) (parts_cons (c := [Vi (ao)]) (cells_of rfl rfl) parts_nil))))) (v := Value.agg #[Vi (a), Vi (16), Vi ((y : Int)), Vi ((-1)), Vi (ao)]) (fun _ => by kernel_rfl) (Za rfl rfl (Exec.buildSlice (Te := 53) (cs := [Vi (a), Vi (16), Vi ((y : Int)), Vi ((-1)), Vi (ao)]) cr rfl (parts_cons (c := [Vi (a), Vi (16), Vi ((y : Int)), Vi ((-1)), Vi (ao)]) (cells_of rfl rfl) parts_nil) (fun _ => by kernel_rfl) ?_))))))))))))))))
   intro j3 mi fc
   obtain ⟨ku, ik, bj⟩ := Zg bj
   refine Za rfl rfl (Exec.append_box (E := encref58_Problem) (ys := [(⟨a, 16, (y : Int), (-1), ao⟩ : ref58_Problem)]) (fc).f2 S42 Z53 rfl (by decide) rfl rfl rfl rfl ⟨[Vi (a), Vi (16), Vi ((y : Int)), Vi ((-1)), Vi (ao)], [], rfl, ⟨[Vi (a)], [Vi (16), Vi ((y : Int)), Vi ((-1)), Vi (ao)], rfl, rfl, ⟨[Vi (16)], [Vi ((y : Int)), Vi ((-1)), Vi (ao)], rfl, rfl, ⟨[Vi ((y : Int))], [Vi ((-1)), Vi (ao)], rfl, rfl, ⟨[Vi ((-1))], [Vi (ao)], rfl, rfl, rfl⟩⟩⟩⟩, rfl⟩ rfl ik ?_)
   intro dE mj fd
   refine Za rfl rfl (Zo (v := dE) rfl rfl (Zb (ib_normal (Ze (Zd (Za rfl rfl (Exec.add rfl cd rfl (Za rfl rfl (Zm (v := Vi (IntKind.i64.wrap ((fp : Int) + 1))) rfl rfl (Zb (Ze ?_)))))))))))
   have jU := Zu bj
   subst iJ
   exact ⟨iK, dE, cy, (fd).f1, di, hn, ho, rfl, dj, hq, hr, hs, dk, dl, (Eq.trans rfl (wrap_up fn (SliceRep.le bW)))⟩
  intro kp mk ev
  obtain ⟨iL, bb, f0, fe, ht, hu, hv, hw, kL, hx, hy, hz, kM, h0, jd⟩ := ev
  refine Zc (Zd (Za rfl rfl (Zq rfl jd h0 (Zb (Ze (Zc (W_false (Zx (decide_eq_false (by omega))) (W_exit (at_exit (at_exit (ib_here (ib_normal (Ze (Zd (Za rfl rfl (Exec.add rfl hz rfl (Za rfl rfl (Zm (v := Vi (IntKind.i64.wrap ((y : Int) + 1))) rfl rfl (Zb (Ze ?_))))))))))))))))))))
  have jV := Zu ac
  subst d4
  exact ⟨iL, bb, (Zt (Zt (Zt a3 b3) fz) f0), ((fe).f1).f1, ht, hu, hv, hw, hx, hy, (Eq.trans rfl (wrap_up ct (SliceRep.le (ae.mono (Zt (Zt (Zt h m) z) ar)))))⟩
 intro kq ml ew
 obtain ⟨kV, au, f4, ff, kN, kO, kP, h1, kQ, h2, je⟩ := ew
 refine Zc (Zd (Za rfl rfl (Zq rfl je h2 (Zb (Ze (Zc (W_false (Zx (decide_eq_false (by omega))) (W_exit (at_exit (at_exit (ib_here (Ze (Zc (Zd (Za rfl rfl (Zm (v := au) rfl h1 (Za rfl rfl (Zo (v := au) rfl rfl (Zb (Ze (W_ret ?_)))))))))))))))))))))
 have jW := Zu hm
 subst r
 refine ⟨_, ret1 rfl, ?_⟩
 obtain ⟨iM, f5, fg, i4⟩ := (ff).f1.freezeArr
 exact ⟨iM, au, (Zt (Zt (Zt (Zt (Zt h m) z) ar) f4) f5), (fg).drop, rfl, i4⟩
theorem F44_3 : tyField Tryz.prog 44 3 = some 3 := by kernel_rfl
theorem ref58_Run_sim {w0 w : World} {s : PHeap} {H : List Res} {am : Temporal} {aW : (List Launch)} {q : Value} {l : Value} {t : Value} {u : Value} {y : Value} {r : Int × ref58_Report} (hm : ref58_Run_p am aW = some r) (hS : St w0 s (H) w) (af : SliceRep (encInt .i64) s q am.Vars) (ab : SliceRep (encInt .i64) s l am.Init) (ac : SliceRep encFact s t am.Goal) (ag : SliceRep encJob s u am.Jobs) (ah : SliceRep encLaunch s y aW) :
  Calls Tryz.prog 10 #[Value.agg #[q, l, t, u], y] w fun e w' => ∃ v, e = .returned v ∧ ((un2 fun (cz : Int) (a0 : ref58_Report) => ∃ (al : PHeap) (bk : Value) (bl : Value) (bm : Value), PHeap.le s al ∧ St w0 al (H) w' ∧ v = Value.tuple #[Value.agg #[bk, bl, bm, Vi (a0.Makespan)], Vi (cz)] ∧ SliceRep encref58_Event al bk a0.Events ∧ SliceRep (encSlice (encInt .i64)) al bl a0.States ∧ SliceRep encref58_Problem al bm a0.Problems) r) := by
 unfold ref58_Run_p at hm
 refine calls_of_W Tryz.func10 rfl rfl (Zc (Zd (Za rfl rfl (Exec.box (cs := [q, l, t, u]) hS rfl rfl rfl ?_))))
 intro aO dc bv
 refine Za rfl rfl (Exec.alloc (cs := [Value.slice none 0 0, Value.slice none 0 0, Value.slice none 0 0, Vi (0)]) bv Z44 rfl rfl ?_)
 intro ao dd aP
 refine Za rfl rfl (Zo (v := Vi (0)) rfl rfl (Zb (Ze (Zc (Zc (Zd (Za rfl rfl (Exec.load_box_agg (ds := [q, l, t, u]) ((aP).f1) A26 rfl rfl rfl (Za rfl rfl (Zm (v := y) rfl rfl ?_))))))))))
 obtain ⟨a1, bS, hm⟩ := Zg hm
 refine Za rfl rfl (Tc rfl rfl rfl (Zi rfl (Zi rfl args_nil)) (ref55_Launches_sim bS aP af ab ac ag ah).r ?_)
 rintro _ de ⟨cm, a, a4, rfl⟩
 refine Za rfl rfl (Zo (v := Vi (a1)) rfl rfl (Zb (Ze (Zc (Zd (Za rfl rfl (Zm (v := Vi (a1)) rfl rfl (Za rfl rfl (Exec.neq rfl rfl rfl (Zb (Ze ?_)))))))))))
 rcases ite_some hm with ⟨aj, hm⟩ | ⟨aj, hm⟩
 ·refine W_cond_t rfl aj (Zc (Zd (Za rfl rfl (Exec.build rfl parts_nil (v := Value.agg #[Value.slice none 0 0, Value.slice none 0 0, Value.slice none 0 0, Vi (0)]) (fun _ => by kernel_rfl) (Za rfl rfl (Zm (v := Vi (a1)) rfl rfl (Za rfl rfl (Exec.store_box (ds := [Value.slice none 0 0, Value.slice none 0 0, Value.slice none 0 0, Vi (0)]) (es := [Value.slice none 0 0, Value.slice none 0 0, Value.slice none 0 0, Vi (0)]) a4 A44 rfl rfl rfl rfl (Zj rfl (Zj rfl (Zj rfl (Zj rfl one_nil)))) (Nat.le_of_ble_eq_true rfl) rfl ?_))))))))
  intro df aQ
  refine Za rfl rfl (Zo (v := Vi (a1)) rfl rfl (Zb (Ze (W_ret (at_ret ?_)))))
  have c9 := Zu hm
  subst r
  refine ⟨_, retG2 rfl ⟨_, _, rfl, cellRes (aQ) A44⟩ rfl, ?_⟩
  exact ⟨cm, (Value.slice none 0 0), (Value.slice none 0 0), (Value.slice none 0 0), a, ((aQ).drop).drop, (tup2 rfl rfl), (SliceRep.nil _ _), (SliceRep.nil _ _), (SliceRep.nil _ _)⟩
 refine W_cond_f rfl aj ?_
 replace aj := Zk aj
 refine W_skip (Ze (Zc (Zd (Za rfl rfl (Exec.load_box_agg (ds := [q, l, t, u]) ((a4).f1) A26 rfl rfl rfl (Za rfl rfl (Zm (v := y) rfl rfl ?_)))))))
 obtain ⟨d, bT, hm⟩ := Zg hm
 refine Za rfl rfl (Tc rfl rfl rfl (Zi rfl (Zi rfl args_nil)) (ref55_Makespan_sim bT a4 (af.mono a) (ab.mono a) (ac.mono a) (ag.mono a) (ah.mono a)).r ?_)
 rintro _ dg ⟨cQ, b, bw, rfl⟩
 refine Za rfl rfl (Exec.build rfl (parts_cons (c := [Vi (d)]) (cells_of rfl rfl) parts_nil) (v := Value.agg #[Value.slice none 0 0, Value.slice none 0 0, Value.slice none 0 0, Vi (d)]) (fun _ => by kernel_rfl) (Za rfl rfl (Exec.alloc (cs := [Value.slice none 0 0, Value.slice none 0 0, Value.slice none 0 0, Vi (0)]) bw Z44 rfl rfl ?_)))
 intro ap dh bx
 refine Za rfl rfl (Exec.store_box (ds := [Value.slice none 0 0, Value.slice none 0 0, Value.slice none 0 0, Vi (d)]) (es := [Value.slice none 0 0, Value.slice none 0 0, Value.slice none 0 0, Vi (d)]) bx A44 rfl rfl rfl rfl (Zj rfl (Zj rfl (Zj rfl (Zj rfl one_nil)))) (Nat.le_of_ble_eq_true rfl) rfl ?_)
 intro di a5
 refine Zb (Ze (Zc (Zd (Za rfl rfl (Zp F26_1 rfl rfl rfl (Za rfl rfl (Zn ((a5).f2) A22 rfl rfl rfl (Za rfl rfl (Zo (v := l) rfl rfl (Zb (Ze (Zc (Zc (Zd (Za rfl rfl (Exec.load_box_agg (ds := [q, l, t, u]) ((a5).f2) A26 rfl rfl rfl (Za rfl rfl (Zm (v := y) rfl rfl ?_))))))))))))))))))
 obtain ⟨c0, bU, hm⟩ := Zg hm
 refine Za rfl rfl (Tc rfl rfl rfl (Zi rfl (Zi rfl args_nil)) (ref55_Ticks_sim bU a5 (af.mono (Zt a b)) (ab.mono (Zt a b)) (ac.mono (Zt a b)) (ag.mono (Zt a b)) (ah.mono (Zt a b))).r ?_)
 rintro cv dj ⟨bh, _, g, bz, rfl, aF⟩
 refine Za rfl rfl (Zr S22 rfl rfl aF (Za rfl rfl (Zm (v := Vi (0)) rfl rfl (Zb (Ze ?_)))))
 obtain ⟨ct, bp, hm⟩ := Zg hm
 refine W_block (W_forS (fun k' s' f' w' => (un4 fun (aI : (List Int)) (a2 : (List ref58_Event)) (a3 : (List (List Int))) (aN : (List ref58_Problem)) => ∃ (aH : PHeap) (ad : Value) (p : Value) (m : Value) (ae : Value), PHeap.le bh aH ∧ St w0 aH (Res.box aO 26 [q, l, t, u] :: Res.box ao 44 [Value.slice none 0 0, Value.slice none 0 0, Value.slice none 0 0, Vi (0)] :: Res.box ap 44 [p, m, ae, Vi (d)] :: Res.arr encref58_Event 50 p a2 :: Res.arr (encSlice (encInt .i64)) 22 m a3 :: Res.arr encref58_Problem 53 ae aN :: H) w' ∧ f' 1 = y ∧ f' 2 = Value.pointer (some ⟨aO, 0, none⟩) ∧ f' 4 = Value.pointer (some ⟨ao, 0, none⟩) ∧ f' 7 = Value.pointer (some ⟨ap, 0, none⟩) ∧ f' 8 = ad ∧ f' 29 = cv ∧ f' 30 = Vi ((c0.length : Int)) ∧ f' 31 = Vi (k' : Int) ∧ SliceRep (encInt .i64) aH ad aI) s') bp ?_ ?_ ?_)
 ·have b0 := bz.nilArr encref58_Event 50
  have b1 := b0.nilArr (encSlice (encInt .i64)) 22
  have b2 := b1.nilArr encref58_Problem 53
  exact ⟨bh, l, (Value.slice none 0 0), (Value.slice none 0 0), (Value.slice none 0 0), (Zv _), (((((b2).f1).f2).f3).f4).f5, rfl, rfl, rfl, rfl, rfl, rfl, rfl, rfl, (ab.mono (Zt (Zt a b) g))⟩
 ·intro bE cu cn cD dk bC br h
  obtain ⟨aI, a2, a3, aN⟩ := cu
  replace h := un4_eq h
  obtain ⟨cR, ad, p, m, ae, i, a6, au, av, bJ, x, bb, bc, bd, aL, ar⟩ := br
  refine Zc (Zd (Za rfl rfl (Zq rfl aL bd (Zb (Ze (Zc (W_true (Zx (decide_eq_true (by omega))) (W_skip (Ze (Zc (W_block (Zc (Zd ?_)))))))))))))
  obtain ⟨az, bV, h⟩ := Zg h
  refine Za rfl rfl (Exec.index_rep S22 rfl bc aL (aF.mono i) bV ?_)
  intro c5 cL bn
  refine Za rfl rfl (Zw (E := (encInt .i64)) a6 A3 rfl rfl rfl bn ?_)
  intro cY bW
  obtain rfl := encInt_val.1 bW
  refine Za rfl rfl (Zo (v := Vi (az)) rfl rfl (Zb (Ze (Zc (Zd (Za rfl rfl (Exec.load_box_agg (ds := [q, l, t, u]) (a6) A26 rfl av rfl (Za rfl rfl (Zm (v := y) rfl au (Za rfl rfl (Zm (v := Vi (az)) rfl rfl (Za rfl rfl (Zm (v := ad) rfl bb ?_)))))))))))))
  obtain ⟨c1, bX, h⟩ := Zg h
  refine Za rfl rfl (Tc rfl rfl rfl (Zi rfl (Zi rfl (Zi rfl (Zi rfl args_nil)))) (ref55_After_sim bX a6 (af.mono (Zt (Zt (Zt a b) g) i)) (ab.mono (Zt (Zt (Zt a b) g) i)) (ac.mono (Zt (Zt (Zt a b) g) i)) (ag.mono (Zt (Zt (Zt a b) g) i)) (ah.mono (Zt (Zt (Zt a b) g) i)) ar).r ?_)
  rintro z dl ⟨cS, _, j, a7, rfl, ax⟩
  refine Za rfl rfl (Zo (v := z) rfl rfl (Zb (Ze (Zc (W_dl (n0 := 7) (qs 0 5 (.e 5 [0, 1] (.e 6 [] .done))) hmix (by kernel_rfl) (by kernel_rfl) (DL_q rfl rfl (Zp F44_0 rfl x rfl ⟨rfl, ?_⟩)))))))
  refine DL_q rfl rfl (Zn ((a7.drew).f2) A41 rfl rfl rfl ⟨rfl, ?_⟩)
  refine DL_q rfl rfl (Exec.load_box_agg (ds := [q, l, t, u]) (a7.drew) A26 rfl av rfl ⟨rfl, ?_⟩)
  refine DL_q rfl rfl (Zm (v := y) rfl au ⟨rfl, ?_⟩)
  refine DL_q rfl rfl (Zm (v := Vi (az)) rfl rfl ⟨rfl, ?_⟩)
  obtain ⟨c2, bY, h⟩ := Zg h
  refine DL_e rfl rfl (Tc rfl rfl rfl (Zi rfl (Zi rfl (Zi rfl args_nil))) (ref58_events_sim bY a7.drew (af.mono (Zt (Zt (Zt (Zt a b) g) i) j)) (ab.mono (Zt (Zt (Zt (Zt a b) g) i) j)) (ac.mono (Zt (Zt (Zt (Zt a b) g) i) j)) (ag.mono (Zt (Zt (Zt (Zt a b) g) i) j)) (ah.mono (Zt (Zt (Zt (Zt a b) g) i) j))).r ?_)
  rintro cZ dm ⟨cT, _, o, aR, rfl, ch⟩
  refine ⟨(ag_cons (ag_r rfl rfl (Zp F44_0 rfl x rfl ⟨rfl, rfl⟩)) (ag_cons (ag_r rfl rfl (Zn ((aR).f2) A41 rfl rfl rfl ⟨rfl, rfl⟩)) ag_nil)), ?_⟩
  obtain ⟨cH, bZ, h⟩ := Zg h
  refine DL_e rfl rfl (Exec.append_rep (E := encref58_Event) (ys := c2) (aR).f3 S41 Z50 rfl (by decide) rfl rfl rfl ch bZ ?_)
  intro an dn a8
  refine ⟨ag_nil, ?_⟩
  refine DL_done (Za rfl rfl (Zp F44_0 rfl x rfl (Za rfl rfl (Exec.store_box (ds := [an]) (es := [an, m, ae, Vi (d)]) (a8).f3 A41 rfl rfl rfl (cells_one (((a8).f3).f1).arr_one) (Zj (((a8).f3).f1).arr_one one_nil) (Nat.le_of_ble_eq_true rfl) rfl ?_))))
  intro dp aS
  refine Zb (Ze (Zc (Zd (Za rfl rfl (Zp F44_1 rfl x rfl (Za rfl rfl (Zn (aS) A31 rfl rfl rfl (Za rfl rfl (Zm (v := z) rfl rfl (Za rfl rfl (Exec.buildSlice (Te := 22) (cs := [z]) aS rfl (parts_cons (c := [z]) (cells_of rfl (cells_one ((ax.mono o)).one)) parts_nil) (fun _ => by kernel_rfl) ?_)))))))))))
  intro c6 dq b3
  obtain ⟨cI, ca, h⟩ := Zg h
  refine Za rfl rfl (Exec.append_box (E := (encSlice (encInt .i64))) (ys := [c1]) (b3).f5 S31 Z22 rfl (by decide) rfl rfl rfl rfl ⟨[z], [], rfl, ⟨_, rfl, (ax.mono o)⟩, rfl⟩ rfl ca ?_)
  intro ay dr a9
  refine Za rfl rfl (Zp F44_1 rfl x rfl (Za rfl rfl (Exec.store_box (ds := [ay]) (es := [an, ay, ae, Vi (d)]) (a9).f1 A31 rfl rfl rfl (cells_one (((a9).f1).f1).arr_one) (Zj (((a9).f1).f1).arr_one one_nil) (Nat.le_of_ble_eq_true rfl) rfl ?_)))
  intro dt aA
  refine Zb (Ze (Zc (W_dl (n0 := 9) (qs 0 7 (.e 7 [0, 1] (.e 8 [] .done))) hmix (by kernel_rfl) (by kernel_rfl) (DL_q rfl rfl (Zp F44_2 rfl x rfl ⟨rfl, ?_⟩)))))
  refine DL_q rfl rfl (Zn (aA.drew) A42 rfl rfl rfl ⟨rfl, ?_⟩)
  refine DL_q rfl rfl (Exec.load_box_agg (ds := [q, l, t, u]) ((aA.drew).f3) A26 rfl av rfl ⟨rfl, ?_⟩)
  refine DL_q rfl rfl (Zm (v := y) rfl au ⟨rfl, ?_⟩)
  refine DL_q rfl rfl (Zm (v := Vi (az)) rfl rfl ⟨rfl, ?_⟩)
  refine DL_q rfl rfl (Zm (v := ad) rfl bb ⟨rfl, ?_⟩)
  refine DL_q rfl rfl (Zm (v := z) rfl rfl ⟨rfl, ?_⟩)
  obtain ⟨c3, cb, h⟩ := Zg h
  refine DL_e rfl rfl (Tc rfl rfl rfl (Zi rfl (Zi rfl (Zi rfl (Zi rfl (Zi rfl args_nil))))) (ref58_problems_sim cb aA.drew (af.mono (Zt (Zt (Zt (Zt (Zt a b) g) i) j) o)) (ab.mono (Zt (Zt (Zt (Zt (Zt a b) g) i) j) o)) (ac.mono (Zt (Zt (Zt (Zt (Zt a b) g) i) j) o)) (ag.mono (Zt (Zt (Zt (Zt (Zt a b) g) i) j) o)) (ah.mono (Zt (Zt (Zt (Zt (Zt a b) g) i) j) o)) (ar.mono (Zt j o)) (ax.mono o)).r ?_)
  rintro da du ⟨co, _, aX, aT, rfl, ci⟩
  refine ⟨(ag_cons (ag_r rfl rfl (Zp F44_2 rfl x rfl ⟨rfl, rfl⟩)) (ag_cons (ag_r rfl rfl (Zn (aT) A42 rfl rfl rfl ⟨rfl, rfl⟩)) ag_nil)), ?_⟩
  obtain ⟨cJ, cc, h⟩ := Zg h
  refine DL_e rfl rfl (Exec.append_rep (E := encref58_Problem) (ys := c3) (aT).f5 S42 Z53 rfl (by decide) rfl rfl rfl ci cc ?_)
  intro aJ dv aB
  refine ⟨ag_nil, ?_⟩
  refine DL_done (Za rfl rfl (Zp F44_2 rfl x rfl (Za rfl rfl (Exec.store_box (ds := [aJ]) (es := [an, ay, aJ, Vi (d)]) (aB).f1 A42 rfl rfl rfl (cells_one (((aB).f1).f1).arr_one) (Zj (((aB).f1).f1).arr_one one_nil) (Nat.le_of_ble_eq_true rfl) rfl ?_))))
  intro dw b4
  refine Zb (Ze (Zd (Za rfl rfl (Zm (v := z) rfl rfl (Za rfl rfl (Zo (v := z) rfl rfl (Zb (ib_normal (Ze (Zd (Za rfl rfl (Exec.add rfl aL rfl (Za rfl rfl (Zm (v := Vi (IntKind.i64.wrap ((bE : Int) + 1))) rfl rfl (Zb (Ze ?_))))))))))))))))
  have cA := Zu h
  subst cn
  exact ⟨co, z, an, ay, aJ, (Zt (Zt (Zt i j) o) aX), ((((((b4).f1).f2).f3).f3).f5).f5, au, av, bJ, x, rfl, bc, bd, (Eq.trans rfl (wrap_up bC (SliceRep.le aF))), (ax.mono (Zt o aX))⟩
 intro cE dx bs
 obtain ⟨aI, a2, a3, aN⟩ := ct
 replace hm := un4_eq hm
 obtain ⟨cU, ad, p, m, ae, aY, aU, cN, bK, bL, bM, bN, cO, bO, cx, ar⟩ := bs
 refine Zc (Zd (Za rfl rfl (Zq rfl cx bO (Zb (Ze (Zc (W_false (Zx (decide_eq_false (by omega))) (W_exit (at_exit (at_exit (ib_here (Ze (Zc (Zc (Zd (Za rfl rfl (Zp F26_2 rfl bK rfl (Za rfl rfl (Zn (aU) A23 rfl rfl rfl (Za rfl rfl (Zm (v := ad) rfl bN ?_)))))))))))))))))))))
 obtain ⟨c4, cd, hm⟩ := Zg hm
 refine Za rfl rfl (Tc rfl rfl rfl (Zi rfl (Zi rfl args_nil)) (ref58_lacking_sim cd aU (ac.mono (Zt (Zt (Zt a b) g) aY)) ar).r ?_)
 rintro cw dy ⟨bi, _, bG, b5, rfl, aG⟩
 refine Za rfl rfl (Zr S22 rfl rfl aG (Za rfl rfl (Zm (v := Vi (0)) rfl rfl (Zb (Ze ?_)))))
 obtain ⟨aD, bq, hm⟩ := Zg hm
 refine W_block (W_forS (fun k' s' f' w' => (fun (aD : (List ref58_Problem)) => ∃ (bj : PHeap) (aa : Value), PHeap.le bi bj ∧ St w0 bj (Res.box ao 44 [Value.slice none 0 0, Value.slice none 0 0, Value.slice none 0 0, Vi (0)] :: Res.box ap 44 [p, m, aa, Vi (d)] :: Res.arr encref58_Event 50 p a2 :: Res.arr (encSlice (encInt .i64)) 22 m a3 :: Res.arr encref58_Problem 53 aa aD :: H) w' ∧ f' 4 = Value.pointer (some ⟨ao, 0, none⟩) ∧ f' 7 = Value.pointer (some ⟨ap, 0, none⟩) ∧ f' 69 = cw ∧ f' 70 = Vi ((c4.length : Int)) ∧ f' 71 = Vi (k' : Int)) s') bq ?_ ?_ ?_)
 ·have b6 := (b5).drop
  exact ⟨bi, ae, (Zv _), (((((b6).f4).f4).f4).f4).f4, bL, bM, rfl, rfl, rfl⟩
 ·intro bF aD cp cF dz bD bt ak
  obtain ⟨cq, aa, aZ, aq, bP, aw, be, bf, aM⟩ := bt
  refine Zc (Zd (Za rfl rfl (Zq rfl aM bf (Zb (Ze (Zc (W_true (Zx (decide_eq_true (by omega))) (W_skip (Ze (Zc (W_block (Zc (Zd ?_)))))))))))))
  obtain ⟨n, ce, ak⟩ := Zg ak
  refine Za rfl rfl (Exec.index_rep S22 rfl be aM (aG.mono aZ) ce ?_)
  intro c7 cM bo
  refine Za rfl rfl (Zw (E := (encInt .i64)) aq A3 rfl rfl rfl bo ?_)
  intro db cf
  obtain rfl := encInt_val.1 cf
  refine Za rfl rfl (Zo (v := Vi (n)) rfl rfl (Zb (Ze (Zd (Za rfl rfl (Zp F44_2 rfl aw rfl (Za rfl rfl (Zn ((aq).f1) A42 rfl rfl rfl (Za rfl rfl (Zp F44_3 rfl aw rfl (Za rfl rfl (Zn ((aq).f1) A3 rfl rfl rfl (Za rfl rfl (Zm (v := Vi (n)) rfl rfl (Za rfl rfl (Exec.build rfl (parts_cons (c := [Vi (d)]) (cells_of rfl rfl) (parts_cons (c := [Vi (13)]) (cells_of rfl rfl) (parts_cons (c := [Vi ((-1))]) (cells_of rfl rfl) (parts_cons (c := [Vi ((-1))]) (cells_of rfl rfl) (parts_cons (c := [Vi (n)]) (cells_of rfl rfl) parts_nil))))) (v := Value.agg #[Vi (d), Vi (13), Vi ((-1)), Vi ((-1)), Vi (n)]) (fun _ => by kernel_rfl) (Za rfl rfl (Exec.buildSlice (Te := 53) (cs := [Vi (d), Vi (13), Vi ((-1)), Vi ((-1)), Vi (n)]) aq rfl (parts_cons (c := [Vi (d), Vi (13), Vi ((-1)), Vi ((-1)), Vi (n)]) (cells_of rfl rfl) parts_nil) (fun _ => by kernel_rfl) ?_))))))))))))))))))
  intro c8 d0 b7
  obtain ⟨cK, cg, ak⟩ := Zg ak
  refine Za rfl rfl (Exec.append_box (E := encref58_Problem) (ys := [(⟨d, 13, (-1), (-1), n⟩ : ref58_Problem)]) (b7).f5 S42 Z53 rfl (by decide) rfl rfl rfl rfl ⟨[Vi (d), Vi (13), Vi ((-1)), Vi ((-1)), Vi (n)], [], rfl, ⟨[Vi (d)], [Vi (13), Vi ((-1)), Vi ((-1)), Vi (n)], rfl, rfl, ⟨[Vi (13)], [Vi ((-1)), Vi ((-1)), Vi (n)], rfl, rfl, ⟨[Vi ((-1))], [Vi ((-1)), Vi (n)], rfl, rfl, ⟨[Vi ((-1))], [Vi (n)], rfl, rfl, rfl⟩⟩⟩⟩, rfl⟩ rfl cg ?_)
  intro aK d1 aC
  refine Za rfl rfl (Zp F44_2 rfl aw rfl (Za rfl rfl (Exec.store_box (ds := [aK]) (es := [p, m, aK, Vi (d)]) (aC).f2 A42 rfl rfl rfl (cells_one (((aC).f2).f1).arr_one) (Zj (((aC).f2).f1).arr_one one_nil) (Nat.le_of_ble_eq_true rfl) rfl ?_)))
  intro d2 b8
  refine Zb (ib_normal (Ze (Zd (Za rfl rfl (Exec.add rfl aM rfl (Za rfl rfl (Zm (v := Vi (IntKind.i64.wrap ((bF : Int) + 1))) rfl rfl (Zb (Ze ?_)))))))))
  have cB := Zu ak
  subst cp
  exact ⟨cq, aK, aZ, (((((b8).f1).f4).f4).f3).f4, bP, aw, be, bf, (Eq.trans rfl (wrap_up bD (SliceRep.le aG)))⟩
 intro cG d3 bu
 obtain ⟨cV, aa, bH, ai, bg, bQ, cP, bR, cy⟩ := bu
 refine Zc (Zd (Za rfl rfl (Zq rfl cy bR (Zb (Ze (Zc (W_false (Zx (decide_eq_false (by omega))) (W_exit (at_exit (at_exit (ib_here (Ze (Zc (Zd (Za rfl rfl (Exec.load_box_agg (ds := [p, m, aa, Vi (d)]) ((ai).f1) A44 rfl bQ rfl (Za rfl rfl (Exec.store_box (ds := [p, m, aa, Vi (d)]) (es := [p, m, aa, Vi (d)]) ai A44 rfl bg rfl rfl (Zj ((ai).f2).arr_one (Zj ((ai).f3).arr_one (Zj ((ai).f4).arr_one (Zj rfl one_nil)))) (Nat.le_of_ble_eq_true rfl) rfl ?_))))))))))))))))))
 intro d4 aV
 refine Za rfl rfl (Zo (v := Vi (0)) rfl rfl (Zb (Ze (W_ret ?_))))
 have cC := Zu hm
 subst r
 refine ⟨_, retG2 rfl ⟨_, _, bg, cellRes (aV) A44⟩ rfl, ?_⟩
 obtain ⟨cW, bI, b9, cj⟩ := (aV).f2.freezeArr
 obtain ⟨cX, ba, bA, ck⟩ := (b9).f2.freezeArr
 obtain ⟨cr, aE, bB, cl⟩ := (bA).f2.freezeArr
 exact ⟨cr, p, m, aa, (Zt (Zt (Zt (Zt (Zt (Zt (Zt (Zt a b) g) aY) bG) bH) bI) ba) aE), ((bB).drop).drop, (tup2 rfl rfl), (cj.mono (Zt ba aE)), (ck.mono aE), cl⟩
theorem base_Ints_sim {w0 w : World} {s : PHeap} {H : List Res} {j : (List Int)} {q : (List Int)} {b : Value} {c : Value} {r : Bool} (hm : base_Ints_p j q = some r) (hS : St w0 s (H) w) (l : SliceRep (encInt .i64) s b j) (p : SliceRep (encInt .i64) s c q) :
  Calls Tryz.prog 33 #[b, c] w fun e w' => ∃ v, e = .returned v ∧ ((fun (a8 : Bool) => ∃ (ac : PHeap) , PHeap.le s ac ∧ St w0 ac (H) w' ∧ v = Value.bool (a8)) r) := by
 unfold base_Ints_p at hm
 refine calls_of_W Tryz.func33 rfl rfl (Zc (Zd (Za rfl rfl (Zo (v := Value.bool (false)) rfl rfl (Zb (Ze (Zc (Zc (Zd (Za rfl rfl (Zm (v := b) rfl rfl (Za rfl rfl (Zr S22 rfl rfl l (Za rfl rfl (Zm (v := c) rfl rfl (Za rfl rfl (Zr S22 rfl rfl p (Za rfl rfl (Exec.neq rfl rfl rfl (Zb (Ze ?_)))))))))))))))))))))
 rcases ite_some hm with ⟨d, hm⟩ | ⟨d, hm⟩
 ·refine W_cond_t rfl d (Zc (Zd (Za rfl rfl (Zo (v := Value.bool (false)) rfl rfl (Zb (Ze (W_ret (at_ret ?_))))))))
  have aB := Zu hm
  subst r
  refine ⟨_, ret1 rfl, ?_⟩
  exact ⟨s, (Zv _), hS, rfl⟩
 refine W_cond_f rfl d ?_
 replace d := Zk d
 refine W_skip (Ze (Zc (Zc (Zd (Za rfl rfl (Zm (v := b) rfl rfl (Za rfl rfl (Zr S22 rfl rfl l (Za rfl rfl (Zm (v := Vi (0)) rfl rfl (Zb (Ze ?_))))))))))))
 obtain ⟨t, ai, au, aq, ao⟩ := ctl_some hm
 refine W_mid (M := fun f' w' => ∃ s', (t = .next s' ∨ t = .brk s') ∧ (fun (_ : Unit) => ∃ (ad : PHeap) , PHeap.le s ad ∧ St w0 ad (H) w' ∧ f' 0 = b ∧ f' 1 = c ∧ f' 12 = Vi ((j.length : Int))) s') ?_ ?_
 ·refine W_block (W_forC (fun k' s' f' w' => (fun (_ : Unit) => ∃ (ae : PHeap) , PHeap.le s ae ∧ St w0 ae (H) w' ∧ f' 0 = b ∧ f' 1 = c ∧ f' 12 = Vi ((j.length : Int)) ∧ f' 13 = Vi (k' : Int)) s') ai ?_ ?_ ?_)
  ·exact ⟨s, (Zv _), hS, rfl, rfl, rfl, rfl⟩
  ·intro i aQ u aI aV ap aj a av
   obtain ⟨af, n, m, y, z, aa, o⟩ := aj
   refine Zc (Zd (Za rfl rfl (Zq rfl o aa (Zb (Ze (Zc (W_true (Zx (decide_eq_true (by omega))) (W_skip (Ze (Zc (W_block (Zc (Zd (Za rfl rfl (Zm (v := Vi ((i : Int))) rfl o (Za rfl rfl (Zo (v := Vi ((i : Int))) rfl rfl (Zb (Ze (Zc (W_dl (n0 := 9) (qs 0 9 .done) hmix (by kernel_rfl) (by kernel_rfl) (DL_q rfl rfl (Zm (v := b) rfl y ⟨rfl, ?_⟩)))))))))))))))))))))))
   refine DL_q rfl rfl (Zm (v := Vi ((i : Int))) rfl rfl ⟨rfl, ?_⟩)
   obtain ⟨aY, a1, a⟩ := Zg a
   refine DL_q rfl rfl (Exec.index_repE S22 rfl rfl rfl (l.mono n) a1 ?_)
   intro a9 aL ag aC
   refine ⟨rfl, ?_⟩
   refine DL_q rfl rfl (Zw (E := (encInt .i64)) m.drew A3 rfl rfl rfl ag ?_)
   intro aT a2
   obtain rfl := encInt_val.1 a2
   refine ⟨rfl, ?_⟩
   refine DL_q rfl rfl (Zm (v := c) rfl z ⟨rfl, ?_⟩)
   refine DL_q rfl rfl (Zm (v := Vi ((i : Int))) rfl rfl ⟨rfl, ?_⟩)
   obtain ⟨aZ, a3, a⟩ := Zg a
   refine DL_q rfl rfl (Exec.index_repE S22 rfl rfl rfl (p.mono n) a3 ?_)
   intro aA aM ah aD
   refine ⟨rfl, ?_⟩
   refine DL_q rfl rfl (Zw (E := (encInt .i64)) m.drew A3 rfl rfl rfl ah ?_)
   intro aU a4
   obtain rfl := encInt_val.1 a4
   refine ⟨rfl, ?_⟩
   refine DL_q rfl rfl (Exec.neq rfl rfl rfl ⟨rfl, ?_⟩)
   refine DL_done (Zb (Ze ?_))
   rcases ite_some a with ⟨g, a⟩ | ⟨g, a⟩
   ·refine W_cond_t rfl g (Zc (Zd (Za rfl rfl (Zo (v := Value.bool (false)) rfl rfl (Zb (Ze (W_ret (ib_ret (at_ret (at_ret (ib_ret (at_ret (at_ret ?_)))))))))))))
    have aE := Zu a
    subst u
    have ar := au _ (av (by intro _ h; cases h))
    have aF := Zu ar
    subst r
    refine ⟨_, ret1 rfl, ?_⟩
    exact ⟨af, n, m.drew, rfl⟩
   refine W_cond_f rfl g ?_
   replace g := Zk g
   refine W_skip (ib_normal (Ze (Zd (Za rfl rfl (Exec.add rfl o rfl (Za rfl rfl (Zm (v := Vi (IntKind.i64.wrap ((i : Int) + 1))) rfl rfl (Zb (Ze ?_)))))))))
   have aG := Zu a
   subst u
   refine ⟨_, rfl, ?_⟩; exact ⟨af, n, m.drew, y, z, aa, (Eq.trans rfl (wrap_up ap (SliceRep.le l)))⟩
  intro aR aJ aW ak aw
  obtain ⟨a5, ax, am, az, a0, ab, a7⟩ := ak
  refine Zc (Zd (Za rfl rfl (Zq rfl a7 ab (Zb (Ze (Zc (W_false (Zx (decide_eq_false (by omega))) (W_exit (at_exit (at_exit (ib_here (Ze ?_))))))))))))
  refine ⟨_, .inl aw, ?_⟩; exact ⟨a5, ax, am, az, a0, ab⟩
 rintro aK aX ⟨aS, x, al⟩
 have hm := x.elim (aq _) (ao _)
 clear x
 obtain ⟨a6, ay, an, aN, aO, aP⟩ := al
 refine (Ze (Zc (Zd (Za rfl rfl (Zo (v := Value.bool (true)) rfl rfl (Zb (Ze (W_ret ?_))))))))
 have aH := Zu hm
 subst r
 refine ⟨_, ret1 rfl, ?_⟩
 exact ⟨a6, ay, an, rfl⟩
theorem ref58_Same_sim {w0 w : World} {s : PHeap} {H : List Res} {j : (List (List Int))} {t : (List (List Int))} {b : Value} {c : Value} {r : Bool} (hm : ref58_Same_p j t = some r) (hS : St w0 s (H) w) (l : SliceRep (encSlice (encInt .i64)) s b j) (p : SliceRep (encSlice (encInt .i64)) s c t) :
  Calls Tryz.prog 11 #[b, c] w fun e w' => ∃ v, e = .returned v ∧ ((fun (aE : Bool) => ∃ (af : PHeap) , PHeap.le s af ∧ St w0 af (H) w' ∧ v = Value.bool (aE)) r) := by
 unfold ref58_Same_p at hm
 refine calls_of_W Tryz.func11 rfl rfl (Zc (Zd (Za rfl rfl (Zo (v := Value.bool (false)) rfl rfl (Zb (Ze (Zc (Zc (Zd (Za rfl rfl (Zm (v := b) rfl rfl (Za rfl rfl (Zr S31 rfl rfl l (Za rfl rfl (Zm (v := c) rfl rfl (Za rfl rfl (Zr S31 rfl rfl p (Za rfl rfl (Exec.neq rfl rfl rfl (Zb (Ze ?_)))))))))))))))))))))
 rcases ite_some hm with ⟨d, hm⟩ | ⟨d, hm⟩
 ·refine W_cond_t rfl d (Zc (Zd (Za rfl rfl (Zo (v := Value.bool (false)) rfl rfl (Zb (Ze (W_ret (at_ret ?_))))))))
  have aH := Zu hm
  subst r
  refine ⟨_, ret1 rfl, ?_⟩
  exact ⟨s, (Zv _), hS, rfl⟩
 refine W_cond_f rfl d ?_
 replace d := Zk d
 refine W_skip (Ze (Zc (Zc (Zd (Za rfl rfl (Zm (v := b) rfl rfl (Za rfl rfl (Zr S31 rfl rfl l (Za rfl rfl (Zm (v := Vi (0)) rfl rfl (Zb (Ze ?_))))))))))))
 obtain ⟨u, al, ax, av, ar⟩ := ctl_some hm
 refine W_mid (M := fun f' w' => ∃ s', (u = .next s' ∨ u = .brk s') ∧ (fun (_ : Unit) => ∃ (ag : PHeap) , PHeap.le s ag ∧ St w0 ag (H) w' ∧ f' 0 = b ∧ f' 1 = c ∧ f' 12 = Vi ((j.length : Int))) s') ?_ ?_
 ·refine W_block (W_forC (fun k' s' f' w' => (fun (_ : Unit) => ∃ (ah : PHeap) , PHeap.le s ah ∧ St w0 ah (H) w' ∧ f' 0 = b ∧ f' 1 = c ∧ f' 12 = Vi ((j.length : Int)) ∧ f' 13 = Vi (k' : Int)) s') al ?_ ?_ ?_)
  ·exact ⟨s, (Zv _), hS, rfl, rfl, rfl, rfl⟩
  ·intro i aX x aO bc au am a ay
   obtain ⟨aW, m, n, ab, ac, ad, o⟩ := am
   refine Zc (Zd (Za rfl rfl (Zq rfl o ad (Zb (Ze (Zc (W_true (Zx (decide_eq_true (by omega))) (W_skip (Ze (Zc (W_block (Zc (Zd (Za rfl rfl (Zm (v := Vi ((i : Int))) rfl o (Za rfl rfl (Zo (v := Vi ((i : Int))) rfl rfl (Zb (Ze (Zc (W_dl (n0 := 10) (qs 0 8 (.e 8 [] (.q 9 .done))) hmix (by kernel_rfl) (by kernel_rfl) (DL_q rfl rfl (Zm (v := b) rfl ab ⟨rfl, ?_⟩)))))))))))))))))))))))
   refine DL_q rfl rfl (Zm (v := Vi ((i : Int))) rfl rfl ⟨rfl, ?_⟩)
   obtain ⟨bg, a4, a⟩ := Zg a
   refine DL_q rfl rfl (Exec.index_repE S31 rfl rfl rfl (l.mono m) a4 ?_)
   intro aF aR aj aI
   refine ⟨rfl, ?_⟩
   refine DL_q rfl rfl (Zw (E := (encSlice (encInt .i64))) n.drew A22 rfl rfl rfl aj ?_)
   intro ba a5
   have a9 := encSlice_val.1 a5
   refine ⟨rfl, ?_⟩
   refine DL_q rfl rfl (Zm (v := c) rfl ac ⟨rfl, ?_⟩)
   refine DL_q rfl rfl (Zm (v := Vi ((i : Int))) rfl rfl ⟨rfl, ?_⟩)
   obtain ⟨bh, a6, a⟩ := Zg a
   refine DL_q rfl rfl (Exec.index_repE S31 rfl rfl rfl (p.mono m) a6 ?_)
   intro aG aS ak aJ
   refine ⟨rfl, ?_⟩
   refine DL_q rfl rfl (Zw (E := (encSlice (encInt .i64))) n.drew A22 rfl rfl rfl ak ?_)
   intro bb a7
   have aA := encSlice_val.1 a7
   refine ⟨rfl, ?_⟩
   obtain ⟨bi, a8, a⟩ := Zg a
   refine DL_e rfl rfl (Tc rfl rfl rfl (Zi rfl (Zi rfl args_nil)) (base_Ints_sim a8 n.drew a9 aA).r ?_)
   rintro _ bd ⟨ai, aa, y, rfl⟩
   refine ⟨ag_nil, ?_⟩
   refine DL_q rfl rfl (Exec.not rfl rfl ⟨rfl, ?_⟩)
   refine DL_done (Zb (Ze ?_))
   rcases ite_some a with ⟨g, a⟩ | ⟨g, a⟩
   ·refine W_cond_t rfl g (Zc (Zd (Za rfl rfl (Zo (v := Value.bool (false)) rfl rfl (Zb (Ze (W_ret (ib_ret (at_ret (at_ret (ib_ret (at_ret (at_ret ?_)))))))))))))
    have aK := Zu a
    subst x
    have aw := ax _ (ay (by intro _ h; cases h))
    have aL := Zu aw
    subst r
    refine ⟨_, ret1 rfl, ?_⟩
    exact ⟨ai, (Zt m aa), y, rfl⟩
   refine W_cond_f rfl g ?_
   replace g := Zk g
   refine W_skip (ib_normal (Ze (Zd (Za rfl rfl (Exec.add rfl o rfl (Za rfl rfl (Zm (v := Vi (IntKind.i64.wrap ((i : Int) + 1))) rfl rfl (Zb (Ze ?_)))))))))
   have aM := Zu a
   subst x
   refine ⟨_, rfl, ?_⟩; exact ⟨ai, (Zt m aa), y, ab, ac, ad, (Eq.trans rfl (wrap_up au (SliceRep.le l)))⟩
  intro aY aP be an az
  obtain ⟨aB, a0, ap, a2, a3, ae, aD⟩ := an
  refine Zc (Zd (Za rfl rfl (Zq rfl aD ae (Zb (Ze (Zc (W_false (Zx (decide_eq_false (by omega))) (W_exit (at_exit (at_exit (ib_here (Ze ?_))))))))))))
  refine ⟨_, .inl az, ?_⟩; exact ⟨aB, a0, ap, a2, a3, ae⟩
 rintro aQ bf ⟨aZ, z, ao⟩
 have hm := z.elim (av _) (ar _)
 clear z
 obtain ⟨aC, a1, aq, aT, aU, aV⟩ := ao
 refine (Ze (Zc (Zd (Za rfl rfl (Zo (v := Value.bool (true)) rfl rfl (Zb (Ze (W_ret ?_))))))))
 have aN := Zu hm
 subst r
 refine ⟨_, ret1 rfl, ?_⟩
 exact ⟨aC, a1, aq, rfl⟩
theorem F50_0 : tyField Tryz.prog 50 0 = some 0 := by kernel_rfl
theorem A53 : tyAgg Tryz.prog 53 = some (true, 5) := by kernel_rfl
theorem F52_0 : tyField Tryz.prog 52 0 = some 0 := by kernel_rfl
theorem F53_0 : tyField Tryz.prog 53 0 = some 0 := by kernel_rfl
theorem F52_1 : tyField Tryz.prog 52 1 = some 1 := by kernel_rfl
theorem F53_1 : tyField Tryz.prog 53 1 = some 1 := by kernel_rfl
theorem F52_2 : tyField Tryz.prog 52 2 = some 2 := by kernel_rfl
theorem F53_2 : tyField Tryz.prog 53 2 = some 2 := by kernel_rfl
theorem F52_3 : tyField Tryz.prog 52 3 = some 3 := by kernel_rfl
theorem F53_3 : tyField Tryz.prog 53 3 = some 3 := by kernel_rfl
theorem F52_4 : tyField Tryz.prog 52 4 = some 4 := by kernel_rfl
theorem F53_4 : tyField Tryz.prog 53 4 = some 4 := by kernel_rfl
theorem law58_SimulateRuns_sim {w0 w : World} {s : PHeap} {H : List Res} {fu : Nat} {t1 : Temporal} {l10 : (List Launch)} {v2 : Value} {v4 : Value} {v6 : Value} {v8 : Value} {v11 : Value} {r : Bool} (hm : law58_SimulateRuns_p fu t1 l10 = some r) (hS : St w0 s (H) w) (a3 : SliceRep (encInt .i64) s v2 t1.Vars) (a5 : SliceRep (encInt .i64) s v4 t1.Init) (a7 : SliceRep encFact s v6 t1.Goal) (a9 : SliceRep encJob s v8 t1.Jobs) (a12 : SliceRep encLaunch s v11 l10) :
  Calls Tryz.prog 3 #[Value.agg #[v2, v4, v6, v8], v11] w fun e w' => ∃ v, e = .returned v ∧ ((fun (y14 : Bool) => ∃ (bC : PHeap) , PHeap.le s bC ∧ St w0 bC (H) w' ∧ v = Value.bool (y14)) r) := by
 unfold law58_SimulateRuns_p at hm
 refine calls_of_W Tryz.func3 rfl rfl (Zc (Zd (Za rfl rfl (Exec.box (cs := [v2, v4, v6, v8]) hS rfl rfl rfl ?_))))
 intro bn eO ch
 refine Za rfl rfl (Zo (v := Value.bool (false)) rfl rfl (Zb (Ze (Zc (Zc ?_)))))
 obtain ⟨aV, ax, hm⟩ := Zg hm
 refine W_mid (M := fun f' w' => (fun (aV : Bool) => ∃ (bD : PHeap) , PHeap.le s bD ∧ St w0 bD (Res.box bn 26 [v2, v4, v6, v8] :: H) w' ∧ f' 1 = v11 ∧ f' 2 = Value.pointer (some ⟨bn, 0, none⟩) ∧ f' 22 = Value.bool (aV)) aV) ?_ ?_
 ·refine Zd ?_
  obtain ⟨dF, dg, ax⟩ := Zg ax
  refine Za rfl rfl (Tc rfl rfl rfl args_nil (law58_awake_sim dg ch ).r ?_)
  rintro _ eP ⟨dy, a8, bd, rfl⟩
  refine Za rfl rfl (Exec.not rfl rfl (Za rfl rfl (Zm (v := Value.bool (!dF)) rfl rfl ?_)))
  rcases ite_some ax with ⟨au, ax⟩ | ⟨au, ax⟩
  ·refine WL_passes 5 (by rw [au]; rfl) ?_
   refine Zb (Ze ?_)
   have dS := Zu ax
   subst aV
   exact ⟨dy, a8, bd, rfl, rfl, rfl⟩
  replace au := Zk au
  refine WL_run rfl (Zf rfl (Zx au)) rfl (Exec.load_box_agg (ds := [v2, v4, v6, v8]) (bd) A26 rfl rfl rfl (WL_run rfl (Zf rfl (Zx au)) rfl (Zm (v := v11) rfl rfl ?_)))
  obtain ⟨dG, dh, ax⟩ := Zg ax
  refine WL_run rfl (Zf rfl (Zx au)) rfl (Tc rfl rfl rfl (Zi rfl (Zi rfl args_nil)) (law58_few_sim dh bd (a3.mono a8) (a5.mono a8) (a7.mono a8) (a9.mono a8) (a12.mono a8)).r ?_)
  rintro _ eQ ⟨dz, cG, ci, rfl⟩
  refine WL_run rfl (Zf rfl (Zx au)) rfl (Exec.not rfl rfl (Za rfl rfl (Exec.pick_f (v := Value.bool (!dG)) rfl (Zx au) rfl (Zb (Ze ?_)))))
  have dT := Zu ax
  subst aV
  exact ⟨dz, (Zt a8 cG), ci, rfl, rfl, rfl⟩
 intro ep eR ca
 obtain ⟨eD, g, be, b3, bh, b4⟩ := ca
 refine (Ze ?_)
 rcases ite_some hm with ⟨aL, hm⟩ | ⟨aL, hm⟩
 ·refine W_cond_t b4 aL (Zc (Zd ?_))
  obtain ⟨dH, di, hm⟩ := Zg hm
  refine Za rfl rfl (Tc rfl rfl rfl args_nil (law58_awake_sim di be ).r ?_)
  rintro _ eS ⟨d0, cH, cj, rfl⟩
  refine Za rfl rfl (Zo (v := Value.bool (dH)) rfl rfl (Zb (Ze (W_ret (at_ret ?_)))))
  have dU := Zu hm
  subst r
  refine ⟨_, ret1 rfl, ?_⟩
  exact ⟨d0, (Zt g cH), (cj).drop, rfl⟩
 refine W_cond_f b4 aL ?_
 replace aL := Zk aL
 refine W_skip (Ze (Zc (Zd (Za rfl rfl (Exec.load_box_agg (ds := [v2, v4, v6, v8]) (be) A26 rfl bh rfl (Za rfl rfl (Zm (v := v11) rfl b3 ?_)))))))
 obtain ⟨d8, dj, hm⟩ := Zg hm
 obtain ⟨ay, a⟩ := d8
 replace hm := un2_eq hm
 refine Za rfl rfl (Tc rfl rfl rfl (Zi rfl (Zi rfl args_nil)) (simulate_Run_sim dj be (a3.mono g) (a5.mono g) (a7.mono g) (a9.mono g) (a12.mono g)).r ?_)
 rintro _ eT ⟨eE, aj, a0, ak, p, ck, rfl, aG, bk, aH⟩
 refine Za rfl rfl (Zm (v := Value.tuple #[Value.agg #[aj, a0, ak, Vi (a.Makespan)], errV 77 (ay)]) rfl rfl (Za rfl rfl (Exec.extract (v := Value.agg #[aj, a0, ak, Vi (a.Makespan)]) rfl rfl rfl (Za rfl rfl (Exec.extract (v := errV 77 (ay)) rfl rfl rfl (Za rfl rfl (Exec.alloc (cs := [Value.slice none 0 0, Value.slice none 0 0, Value.slice none 0 0, Vi (0)]) ck Z34 rfl rfl ?_)))))))
 intro az eU cl
 refine Za rfl rfl (Exec.store_box (ds := [aj, a0, ak, Vi (a.Makespan)]) (es := [aj, a0, ak, Vi (a.Makespan)]) cl A34 rfl rfl rfl rfl (Zj (aG).one (Zj (bk).one (Zj (aH).one (Zj rfl one_nil)))) (Nat.le_of_ble_eq_true rfl) rfl ?_)
 intro eV bs
 refine Za rfl rfl (Zo (v := errV 77 (ay)) rfl rfl (Zb (Ze (Zc (Zc (Zd (Za rfl rfl (Exec.load_box_agg (ds := [v2, v4, v6, v8]) ((bs).f1) A26 rfl bh rfl ?_))))))))
 obtain ⟨bc, dk, hm⟩ := Zg hm
 refine Za rfl rfl (Tc rfl rfl rfl (Zi rfl args_nil) (ref55_Check_sim dk bs (a3.mono (Zt g p)) (a5.mono (Zt g p)) (a7.mono (Zt g p)) (a9.mono (Zt g p))).r ?_)
 rintro _ eW ⟨aS, b, ae, rfl⟩
 refine Za rfl rfl (Zo (v := Vi (bc)) rfl rfl (Zb (Ze (Zc (Zd (Za rfl rfl (Zm (v := Vi (bc)) rfl rfl (Za rfl rfl (Exec.neq rfl rfl rfl (Zb (Ze ?_)))))))))))
 rcases ite_some hm with ⟨aM, hm⟩ | ⟨aM, hm⟩
 ·refine W_cond_t rfl aM (Zc (W_mid (M := fun f' w' => ∃ (bE : PHeap) , PHeap.le aS bE ∧ St w0 bE (H) w' ∧ f' 4 = Value.bool (((decide ((a.Events.length : Int) = 0)) && ((decide ((a.States.length : Int) = 0)) && ((decide ((a.Problems.length : Int) = 0)) && ((decide (a.Makespan = 0)) && decide ((base_Num_t ay) = bc))))))) ?_ ?_))
  ·refine Zd (Za rfl rfl (Zp F34_0 rfl rfl rfl (Za rfl rfl (Zn (ae) A30 rfl rfl rfl (Za rfl rfl (Zr S30 rfl rfl (aG.mono b) (Za rfl rfl (Exec.eql rfl rfl rfl (Za rfl rfl (Zm (v := Value.bool (decide ((a.Events.length : Int) = 0))) rfl rfl ?_))))))))))
   by_cases u : (decide ((a.Events.length : Int) = 0)) = true
   ·refine WL_run rfl (Zf rfl (Zx u)) rfl (Zp F34_1 rfl rfl rfl (WL_run rfl (Zf rfl (Zx u)) rfl (Zn (ae) A31 rfl rfl rfl (WL_run rfl (Zf rfl (Zx u)) rfl (Zr S31 rfl rfl (bk.mono b) (WL_run rfl (Zf rfl (Zx u)) rfl (Exec.eql rfl rfl rfl ?_)))))))
    refine WL_passes 2 (by rw [u]; rfl) ?_
    by_cases aa : (decide ((a.States.length : Int) = 0)) = true
    ·refine WL_run rfl (Zf rfl (Zx aa)) rfl (Zp F34_2 rfl rfl rfl (WL_run rfl (Zf rfl (Zx aa)) rfl (Zn (ae) A32 rfl rfl rfl (WL_run rfl (Zf rfl (Zx aa)) rfl (Zr S32 rfl rfl (aH.mono b) (WL_run rfl (Zf rfl (Zx aa)) rfl (Exec.eql rfl rfl rfl ?_)))))))
     refine WL_passes 2 (by rw [aa]; rfl) ?_
     by_cases ap : (decide ((a.Problems.length : Int) = 0)) = true
     ·refine WL_run rfl (Zf rfl (Zx ap)) rfl (Zp F34_3 rfl rfl rfl (WL_run rfl (Zf rfl (Zx ap)) rfl (Zn (ae) A3 rfl rfl rfl (WL_run rfl (Zf rfl (Zx ap)) rfl (Exec.eql rfl rfl rfl ?_)))))
      refine WL_passes 2 (by rw [ap]; rfl) ?_
      by_cases aq : (decide (a.Makespan = 0)) = true
      ·refine WL_run rfl (Zf rfl (Zx aq)) rfl (Zm (v := errV 77 (ay)) rfl rfl (WL_run rfl (Zf rfl (Zx aq)) rfl (Tc rfl rfl rfl (Zi rfl args_nil) (base_Num_sim (base_Num_tot ay) ae ).r ?_)))
       rintro _ eX ⟨d1, cI, cm, rfl⟩
       refine WL_run rfl (Zf rfl (Zx aq)) rfl (Zm (v := Vi (bc)) rfl rfl (WL_run rfl (Zf rfl (Zx aq)) rfl (Exec.eql rfl rfl rfl ?_)))
       refine WL_passes 2 (by rw [aq]; rfl) ?_
       refine Zb (Ze ?_)
       exact ⟨d1, cI, ((cm).drop).drop, (Zx (Eq.trans (and_t u) (Eq.trans (and_t aa) (Eq.trans (and_t ap) (and_t aq))))).symm⟩
      replace aq := Zk aq
      refine WL_passes 6 (by rw [aq]; rfl) ?_
      refine Zb (Ze ?_)
      exact ⟨aS, (Zv _), ((ae).drop).drop, (Zx (Eq.trans (and_t u) (Eq.trans (and_t aa) (Eq.trans (and_t ap) (and_f aq))))).symm⟩
     replace ap := Zk ap
     refine WL_passes 11 (by rw [ap]; rfl) ?_
     refine Zb (Ze ?_)
     exact ⟨aS, (Zv _), ((ae).drop).drop, (Zx (Eq.trans (and_t u) (Eq.trans (and_t aa) (and_f ap)))).symm⟩
    replace aa := Zk aa
    refine WL_passes 17 (by rw [aa]; rfl) ?_
    refine Zb (Ze ?_)
    exact ⟨aS, (Zv _), ((ae).drop).drop, (Zx (Eq.trans (and_t u) (and_f aa))).symm⟩
   replace u := Zk u
   refine WL_passes 23 (by rw [u]; rfl) ?_
   refine Zb (Ze ?_)
   exact ⟨aS, (Zv _), ((ae).drop).drop, (Zx (and_f u)).symm⟩
  intro er eY cb
  obtain ⟨d2, cJ, cn, cO⟩ := cb
  refine (Ze (W_ret (at_ret ?_)))
  have dV := Zu hm
  subst r
  refine ⟨_, ret1 rfl, ?_⟩
  exact ⟨d2, (Zt (Zt (Zt g p) b) cJ), cn, cO⟩
 refine W_cond_f rfl aM ?_
 replace aM := Zk aM
 refine W_skip (Ze (Zc (Zd (Za rfl rfl (Exec.load_box_agg (ds := [v2, v4, v6, v8]) ((ae).f1) A26 rfl bh rfl (Za rfl rfl (Zm (v := v11) rfl b3 ?_)))))))
 obtain ⟨d9, dl, hm⟩ := Zg hm
 obtain ⟨aU, ao⟩ := d9
 replace hm := un2_eq hm
 refine Za rfl rfl (Tc rfl rfl rfl (Zi rfl (Zi rfl args_nil)) (ref58_Run_sim dl ae (a3.mono (Zt (Zt g p) b)) (a5.mono (Zt (Zt g p) b)) (a7.mono (Zt (Zt g p) b)) (a9.mono (Zt (Zt g p) b)) (a12.mono (Zt (Zt g p) b))).r ?_)
 rintro _ eZ ⟨d3, al, am, an, y, co, rfl, aR, bB, bl⟩
 refine Za rfl rfl (Zm (v := Value.tuple #[Value.agg #[al, am, an, Vi (ao.Makespan)], Vi (aU)]) rfl rfl (Za rfl rfl (Exec.extract (v := Value.agg #[al, am, an, Vi (ao.Makespan)]) rfl rfl rfl (Za rfl rfl (Exec.extract (v := Vi (aU)) rfl rfl rfl (Za rfl rfl (Exec.alloc (cs := [Value.slice none 0 0, Value.slice none 0 0, Value.slice none 0 0, Vi (0)]) co Z44 rfl rfl ?_)))))))
 intro l fa cp
 refine Za rfl rfl (Exec.store_box (ds := [al, am, an, Vi (ao.Makespan)]) (es := [al, am, an, Vi (ao.Makespan)]) cp A44 rfl rfl rfl rfl (Zj (aR).one (Zj (bB).one (Zj (bl).one (Zj rfl one_nil)))) (Nat.le_of_ble_eq_true rfl) rfl ?_)
 intro fb cq
 refine Za rfl rfl (Zo (v := Vi (aU)) rfl rfl (Zb (Ze (Zc (Zc ?_)))))
 obtain ⟨a4, i, hm⟩ := Zg hm
 refine W_mid (M := fun f' w' => (fun (a4 : Bool) => ∃ (bF : PHeap) , PHeap.le d3 bF ∧ St w0 bF (Res.box az 34 [aj, a0, ak, Vi (a.Makespan)] :: Res.box l 44 [al, am, an, Vi (ao.Makespan)] :: H) w' ∧ f' 5 = Value.pointer (some ⟨az, 0, none⟩) ∧ f' 8 = Value.pointer (some ⟨l, 0, none⟩) ∧ f' 103 = Value.bool (a4)) a4) ?_ ?_
 ·refine Zd (Za rfl rfl (Zm (v := errV 77 (ay)) rfl rfl (Za rfl rfl (Tc rfl rfl rfl (Zi rfl args_nil) (base_Num_sim (base_Num_tot ay) cq ).r ?_))))
  rintro _ fc ⟨aZ, ai, t, rfl⟩
  refine Za rfl rfl (Zm (v := Vi (aU)) rfl rfl (Za rfl rfl (Exec.neq rfl rfl rfl (Za rfl rfl (Zm (v := Value.bool (!decide ((base_Num_t ay) = aU))) rfl rfl ?_)))))
  rcases ite_some i with ⟨ar, i⟩ | ⟨ar, i⟩
  ·refine WL_passes 32 (by rw [ar]; rfl) ?_
   refine Zb (Ze ?_)
   have dW := Zu i
   subst a4
   exact ⟨aZ, ai, (((t).f2).drop).f1, rfl, rfl, rfl⟩
  replace ar := Zk ar
  refine WL_run rfl (Zf rfl (Zx ar)) rfl (Zp F34_3 rfl rfl rfl (WL_run rfl (Zf rfl (Zx ar)) rfl (Zn ((t).f1) A3 rfl rfl rfl (WL_run rfl (Zf rfl (Zx ar)) rfl (Zp F44_3 rfl rfl rfl (WL_run rfl (Zf rfl (Zx ar)) rfl (Zn (t) A3 rfl rfl rfl (WL_run rfl (Zf rfl (Zx ar)) rfl (Exec.neq rfl rfl rfl ?_)))))))))
  refine WL_passes 2 (by rw [ar]; rfl) ?_
  rcases ite_some i with ⟨ab, i⟩ | ⟨ab, i⟩
  ·refine WL_passes 25 (by rw [ab]; rfl) ?_
   refine Zb (Ze ?_)
   have dX := Zu i
   subst a4
   exact ⟨aZ, ai, (((t).f2).drop).f1, rfl, rfl, rfl⟩
  replace ab := Zk ab
  refine WL_run rfl (Zf rfl (Zx ab)) rfl (Zp F34_0 rfl rfl rfl (WL_run rfl (Zf rfl (Zx ab)) rfl (Zn ((t).f1) A30 rfl rfl rfl (WL_run rfl (Zf rfl (Zx ab)) rfl (Zr S30 rfl rfl (aG.mono (Zt (Zt b y) ai)) (WL_run rfl (Zf rfl (Zx ab)) rfl (Zp F44_0 rfl rfl rfl (WL_run rfl (Zf rfl (Zx ab)) rfl (Zn (t) A41 rfl rfl rfl (WL_run rfl (Zf rfl (Zx ab)) rfl (Zr S41 rfl rfl (aR.mono ai) (WL_run rfl (Zf rfl (Zx ab)) rfl (Exec.neq rfl rfl rfl ?_)))))))))))))
  refine WL_passes 2 (by rw [ab]; rfl) ?_
  rcases ite_some i with ⟨ac, i⟩ | ⟨ac, i⟩
  ·refine WL_passes 16 (by rw [ac]; rfl) ?_
   refine Zb (Ze ?_)
   have dY := Zu i
   subst a4
   exact ⟨aZ, ai, (((t).f2).drop).f1, rfl, rfl, rfl⟩
  replace ac := Zk ac
  refine WL_run rfl (Zf rfl (Zx ac)) rfl (Zp F34_2 rfl rfl rfl (WL_run rfl (Zf rfl (Zx ac)) rfl (Zn ((t).f1) A32 rfl rfl rfl (WL_run rfl (Zf rfl (Zx ac)) rfl (Zr S32 rfl rfl (aH.mono (Zt (Zt b y) ai)) (WL_run rfl (Zf rfl (Zx ac)) rfl (Zp F44_2 rfl rfl rfl (WL_run rfl (Zf rfl (Zx ac)) rfl (Zn (t) A42 rfl rfl rfl (WL_run rfl (Zf rfl (Zx ac)) rfl (Zr S42 rfl rfl (bl.mono ai) (WL_run rfl (Zf rfl (Zx ac)) rfl (Exec.neq rfl rfl rfl ?_)))))))))))))
  refine WL_passes 2 (by rw [ac]; rfl) ?_
  rcases ite_some i with ⟨af, i⟩ | ⟨af, i⟩
  ·refine WL_passes 7 (by rw [af]; rfl) ?_
   refine Zb (Ze ?_)
   have dZ := Zu i
   subst a4
   exact ⟨aZ, ai, (((t).f2).drop).f1, rfl, rfl, rfl⟩
  replace af := Zk af
  refine WL_run rfl (Zf rfl (Zx af)) rfl (Zp F34_1 rfl rfl rfl (WL_run rfl (Zf rfl (Zx af)) rfl (Zn ((t).f1) A31 rfl rfl rfl (WL_run rfl (Zf rfl (Zx af)) rfl (Zp F44_1 rfl rfl rfl (WL_run rfl (Zf rfl (Zx af)) rfl (Zn (t) A31 rfl rfl rfl ?_)))))))
  obtain ⟨dI, dm, i⟩ := Zg i
  refine WL_run rfl (Zf rfl (Zx af)) rfl (Tc rfl rfl rfl (Zi rfl (Zi rfl args_nil)) (ref58_Same_sim dm t (bk.mono (Zt (Zt b y) ai)) (bB.mono ai)).r ?_)
  rintro _ fd ⟨d4, cK, cr, rfl⟩
  refine WL_run rfl (Zf rfl (Zx af)) rfl (Exec.not rfl rfl (Za rfl rfl (Exec.pick_f (v := Value.bool (!dI)) rfl (Zx af) rfl (Zb (Ze ?_)))))
  have ea := Zu i
  subst a4
  exact ⟨d4, (Zt ai cK), (((cr).f2).drop).f1, rfl, rfl, rfl⟩
 intro et fe cc
 obtain ⟨ba, q, bf, b5, cP, b6⟩ := cc
 refine (Ze ?_)
 rcases ite_some hm with ⟨aN, hm⟩ | ⟨aN, hm⟩
 ·refine W_cond_t b6 aN (Zc (Zd (Za rfl rfl (Zo (v := Value.bool (false)) rfl rfl (Zb (Ze (W_ret (at_ret ?_))))))))
  have eb := Zu hm
  subst r
  refine ⟨_, ret1 rfl, ?_⟩
  exact ⟨ba, (Zt (Zt (Zt (Zt g p) b) y) q), ((bf).drop).drop, rfl⟩
 refine W_cond_f b6 aN ?_
 replace aN := Zk aN
 refine W_skip (Ze (Zc (Zc (Zd (Za rfl rfl (Zp F34_0 rfl b5 rfl (Za rfl rfl (Zn (bf) A30 rfl rfl rfl (Za rfl rfl (Zr S30 rfl rfl (aG.mono (Zt (Zt b y) q)) (Za rfl rfl (Zm (v := Vi (0)) rfl rfl (Zb (Ze ?_))))))))))))))
 obtain ⟨bo, bU, cA, c6, c2⟩ := ctl_some hm
 refine W_mid (M := fun f' w' => ∃ s', (bo = .next s' ∨ bo = .brk s') ∧ (fun (_ : Unit) => ∃ (bG : PHeap) , PHeap.le ba bG ∧ St w0 bG (Res.box az 34 [aj, a0, ak, Vi (a.Makespan)] :: Res.box l 44 [al, am, an, Vi (ao.Makespan)] :: H) w' ∧ f' 5 = Value.pointer (some ⟨az, 0, none⟩) ∧ f' 8 = Value.pointer (some ⟨l, 0, none⟩) ∧ f' 105 = aj ∧ f' 106 = Vi ((a.Events.length : Int))) s') ?_ ?_
 ·refine W_block (W_forC (fun k' s' f' w' => (fun (_ : Unit) => ∃ (bH : PHeap) , PHeap.le ba bH ∧ St w0 bH (Res.box az 34 [aj, a0, ak, Vi (a.Makespan)] :: Res.box l 44 [al, am, an, Vi (ao.Makespan)] :: H) w' ∧ f' 5 = Value.pointer (some ⟨az, 0, none⟩) ∧ f' 8 = Value.pointer (some ⟨l, 0, none⟩) ∧ f' 105 = aj ∧ f' 106 = Vi ((a.Events.length : Int)) ∧ f' 107 = Vi (k' : Int)) s') bU ?_ ?_ ?_)
  ·have ct := (bf).f1
   exact ⟨ba, (Zv _), (ct).f1, b5, cP, rfl, rfl, rfl⟩
  ·intro a6 eF bp eu ff c4 bW av cC
   obtain ⟨bb, aA, bt, bi, aC, aX, aY, aJ⟩ := bW
   refine Zc (Zd (Za rfl rfl (Zq rfl aJ aY (Zb (Ze (Zc (W_true (Zx (decide_eq_true (by omega))) (W_skip (Ze (Zc (W_block (Zc (Zd (Za rfl rfl (Zm (v := Vi ((a6 : Int))) rfl aJ ?_)))))))))))))))
   obtain ⟨a1, dn, av⟩ := Zg av
   refine Za rfl rfl (Exec.index_rep S30 rfl aX aJ (aG.mono (Zt (Zt (Zt b y) q) aA)) dn ?_)
   intro dJ e2 bO
   refine Za rfl rfl (Zw (E := encsimulate_Event) bt A49 rfl rfl rfl bO ?_)
   intro eL dp
   obtain rfl := encsimulate_Event_val.1 dp
   refine Za rfl rfl (Exec.alloc (cs := [Vi (0), Vi (0), Value.bool (false)]) bt Z49 rfl rfl ?_)
   intro dK fg cu
   refine Za rfl rfl (Zo (v := Vi ((a6 : Int))) rfl rfl (Za rfl rfl (Exec.store_box (ds := [Vi (a1.At), Vi (a1.Launch), Value.bool (a1.End)]) (es := [Vi (a1.At), Vi (a1.Launch), Value.bool (a1.End)]) cu A49 rfl rfl rfl rfl (Zj rfl (Zj rfl (Zj rfl one_nil))) (Nat.le_of_ble_eq_true rfl) rfl ?_)))
   intro fh cv
   refine Zb (Ze (Zc ?_))
   obtain ⟨aK, ah, av⟩ := Zg av
   refine W_mid (M := fun f' w' => (fun (aK : Bool) => ∃ (bI : PHeap) , PHeap.le bb bI ∧ St w0 bI (Res.box az 34 [aj, a0, ak, Vi (a.Makespan)] :: Res.box l 44 [al, am, an, Vi (ao.Makespan)] :: H) w' ∧ f' 5 = Value.pointer (some ⟨az, 0, none⟩) ∧ f' 8 = Value.pointer (some ⟨l, 0, none⟩) ∧ f' 105 = aj ∧ f' 106 = Vi ((a.Events.length : Int)) ∧ f' 107 = Vi ((a6 : Int)) ∧ f' 142 = Value.bool (aK)) aK) ?_ ?_
   ·refine W_dl (n0 := 31) (qs 0 31 .done) hmix (by kernel_rfl) (by kernel_rfl) ?_
    have z := cv.drew
    refine DL_q rfl rfl (Zp F49_0 rfl rfl rfl ⟨rfl, ?_⟩)
    refine DL_q rfl rfl (Zn (z) A3 rfl rfl rfl ⟨rfl, ?_⟩)
    refine DL_q rfl rfl (Zp F44_0 rfl aC rfl ⟨rfl, ?_⟩)
    refine DL_q rfl rfl (Zn ((z).f2) A41 rfl rfl rfl ⟨rfl, ?_⟩)
    refine DL_q rfl rfl (Zm (v := Vi ((a6 : Int))) rfl rfl ⟨rfl, ?_⟩)
    obtain ⟨aT, bj, ah⟩ := Zg ah
    refine DL_q rfl rfl (Exec.index_repE S41 rfl rfl rfl (aR.mono (Zt q aA)) bj ?_)
    intro dL e3 bP ec
    refine ⟨rfl, ?_⟩
    refine DL_q rfl rfl (Zp F50_0 rfl rfl rfl ⟨rfl, ?_⟩)
    refine DL_q rfl rfl (Zw (E := (encInt .i64)) z A3 rfl rfl rfl (bP.sub (Sub.iso (Sub.fst (Sub.refl _))) rfl) ?_)
    intro dA dq
    obtain rfl : dA = Vi (aT.At) := encInt_val.1 dq
    refine ⟨rfl, ?_⟩
    refine DL_q rfl rfl (Exec.neq rfl rfl rfl ⟨rfl, ?_⟩)
    refine DL_q rfl rfl (Zm (v := Value.bool (!decide (a1.At = aT.At))) rfl rfl ⟨rfl, ?_⟩)
    rcases ite_some ah with ⟨m, ah⟩ | ⟨m, ah⟩
    ·refine DL_passes 21 (by rw [m]; rfl) ?_
     refine DL_done (Zb (Ze ?_))
     have ed := Zu ah
     subst aK
     exact ⟨bb, (Zv _), (((z).drop).f1).f1, bi, aC, aX, aY, aJ, rfl⟩
    replace m := Zk m
    refine DL_qg rfl rfl (Zf rfl (Zx m)) (Zp F49_1 rfl rfl rfl ⟨rfl, ?_⟩)
    refine DL_qg rfl rfl (Zf rfl (Zx m)) (Zn (z) A3 rfl rfl rfl ⟨rfl, ?_⟩)
    refine DL_qg rfl rfl (Zf rfl (Zx m)) (Zp F44_0 rfl aC rfl ⟨rfl, ?_⟩)
    refine DL_qg rfl rfl (Zf rfl (Zx m)) (Zn ((z).f2) A41 rfl rfl rfl ⟨rfl, ?_⟩)
    refine DL_qg rfl rfl (Zf rfl (Zx m)) (Zm (v := Vi ((a6 : Int))) rfl rfl ⟨rfl, ?_⟩)
    refine DL_qg rfl rfl (Zf rfl (Zx m)) (Exec.index_repE S41 rfl rfl rfl (aR.mono (Zt q aA)) bj ?_)
    intro dM e4 bQ ee
    refine ⟨rfl, ?_⟩
    refine DL_qg rfl rfl (Zf rfl (Zx m)) (Zp F50_1 rfl rfl rfl ⟨rfl, ?_⟩)
    refine DL_qg rfl rfl (Zf rfl (Zx m)) (Zw (E := (encInt .i64)) z A3 rfl rfl rfl (bQ.sub (Sub.iso (Sub.snd (Sub.fst (Sub.refl _)) rfl)) rfl) ?_)
    intro dB dr
    obtain rfl : dB = Vi (aT.Launch) := encInt_val.1 dr
    refine ⟨rfl, ?_⟩
    refine DL_qg rfl rfl (Zf rfl (Zx m)) (Exec.neq rfl rfl rfl ⟨rfl, ?_⟩)
    refine DL_passes 2 (by rw [m]; rfl) ?_
    rcases ite_some ah with ⟨n, ah⟩ | ⟨n, ah⟩
    ·refine DL_passes 10 (by rw [n]; rfl) ?_
     refine DL_done (Zb (Ze ?_))
     have ef := Zu ah
     subst aK
     exact ⟨bb, (Zv _), (((z).drop).f1).f1, bi, aC, aX, aY, aJ, rfl⟩
    replace n := Zk n
    refine DL_qg rfl rfl (Zf rfl (Zx n)) (Zp F49_2 rfl rfl rfl ⟨rfl, ?_⟩)
    refine DL_qg rfl rfl (Zf rfl (Zx n)) (Zn (z) A4 rfl rfl rfl ⟨rfl, ?_⟩)
    refine DL_qg rfl rfl (Zf rfl (Zx n)) (Zp F44_0 rfl aC rfl ⟨rfl, ?_⟩)
    refine DL_qg rfl rfl (Zf rfl (Zx n)) (Zn ((z).f2) A41 rfl rfl rfl ⟨rfl, ?_⟩)
    refine DL_qg rfl rfl (Zf rfl (Zx n)) (Zm (v := Vi ((a6 : Int))) rfl rfl ⟨rfl, ?_⟩)
    refine DL_qg rfl rfl (Zf rfl (Zx n)) (Exec.index_repE S41 rfl rfl rfl (aR.mono (Zt q aA)) bj ?_)
    intro dN e5 bR eg
    refine ⟨rfl, ?_⟩
    refine DL_qg rfl rfl (Zf rfl (Zx n)) (Zp F50_2 rfl rfl rfl ⟨rfl, ?_⟩)
    refine DL_qg rfl rfl (Zf rfl (Zx n)) (Zw (E := encBool) z A4 rfl rfl rfl (bR.sub (Sub.iso (Sub.snd (Sub.snd (Sub.refl _) rfl) rfl)) rfl) ?_)
    intro dC dt
    obtain rfl : dC = Value.bool (aT.End) := encBool_val.1 dt
    refine ⟨rfl, ?_⟩
    refine DL_qg rfl rfl (Zf rfl (Zx n)) (Exec.bool_neq Tryz.underlying4 rfl rfl rfl ⟨rfl, ?_⟩)
    refine DL_q rfl rfl (Exec.pick_f (v := Value.bool (!(a1.End == aT.End))) rfl (Zx n) rfl ⟨rfl, ?_⟩)
    refine DL_done (Zb (Ze ?_))
    have eh := Zu ah
    subst aK
    exact ⟨bb, (Zv _), (((z).drop).f1).f1, bi, aC, aX, aY, aJ, rfl⟩
   intro ev fi cd
   obtain ⟨bJ, b1, bu, cQ, cR, cS, cT, cU, b7⟩ := cd
   refine (Ze ?_)
   rcases ite_some av with ⟨aO, av⟩ | ⟨aO, av⟩
   ·refine W_cond_t b7 aO (Zc (Zd (Za rfl rfl (Zo (v := Value.bool (false)) rfl rfl (Zb (Ze (W_ret (ib_ret (at_ret (at_ret (ib_ret (at_ret (at_ret ?_)))))))))))))
    have ei := Zu av
    subst bp
    have c8 := cA _ (cC (by intro _ h; cases h))
    have ej := Zu c8
    subst r
    refine ⟨_, ret1 rfl, ?_⟩
    exact ⟨bJ, (Zt (Zt (Zt (Zt (Zt (Zt g p) b) y) q) aA) b1), ((bu).drop).drop, rfl⟩
   refine W_cond_f b7 aO ?_
   replace aO := Zk aO
   refine W_skip (ib_normal (Ze (Zd (Za rfl rfl (Exec.add rfl cU rfl (Za rfl rfl (Zm (v := Vi (IntKind.i64.wrap ((a6 : Int) + 1))) rfl rfl (Zb (Ze ?_)))))))))
   have ek := Zu av
   subst bp
   refine ⟨_, rfl, ?_⟩; exact ⟨bJ, (Zt aA b1), ((bu).f1).f1, cQ, cR, cS, cT, (Eq.trans rfl (wrap_up c4 (SliceRep.le (aG.mono (Zt (Zt b y) q)))))⟩
  intro eG ew fj bX cD
  obtain ⟨d5, cL, cw, cV, cW, cX, b8, dD⟩ := bX
  refine Zc (Zd (Za rfl rfl (Zq rfl dD b8 (Zb (Ze (Zc (W_false (Zx (decide_eq_false (by omega))) (W_exit (at_exit (at_exit (ib_here (Ze ?_))))))))))))
  refine ⟨_, .inl cD, ?_⟩; exact ⟨d5, cL, ((cw).f1).f1, cV, cW, cX, b8⟩
 rintro ex fk ⟨eH, bz, ce⟩
 have hm := bz.elim (c6 _) (c2 _)
 clear bz
 obtain ⟨bm, aB, bv, cY, cZ, e8, e9⟩ := ce
 refine (Ze (Zc (Zc (Zd (Za rfl rfl (Zp F34_2 rfl cY rfl (Za rfl rfl (Zn (bv) A32 rfl rfl rfl (Za rfl rfl (Zr S32 rfl rfl (aH.mono (Zt (Zt (Zt b y) q) aB)) (Za rfl rfl (Zm (v := Vi (0)) rfl rfl (Zb (Ze ?_))))))))))))))
 obtain ⟨bq, bV, cB, c7, c3⟩ := ctl_some hm
 refine W_mid (M := fun f' w' => ∃ s', (bq = .next s' ∨ bq = .brk s') ∧ (fun (_ : Unit) => ∃ (bK : PHeap) , PHeap.le bm bK ∧ St w0 bK (Res.box l 44 [al, am, an, Vi (ao.Makespan)] :: H) w' ∧ f' 8 = Value.pointer (some ⟨l, 0, none⟩) ∧ f' 145 = ak ∧ f' 146 = Vi ((a.Problems.length : Int))) s') ?_ ?_
 ·refine W_block (W_forC (fun k' s' f' w' => (fun (_ : Unit) => ∃ (bL : PHeap) , PHeap.le bm bL ∧ St w0 bL (Res.box l 44 [al, am, an, Vi (ao.Makespan)] :: H) w' ∧ f' 8 = Value.pointer (some ⟨l, 0, none⟩) ∧ f' 145 = ak ∧ f' 146 = Vi ((a.Problems.length : Int)) ∧ f' 147 = Vi (k' : Int)) s') bV ?_ ?_ ?_)
  ·have cx := (bv).drop
   exact ⟨bm, (Zv _), cx, cZ, rfl, rfl, rfl⟩
  ·intro aQ eI br ey fl c5 bY aw cE
   obtain ⟨aI, aW, bw, aD, aE, aF, a2⟩ := bY
   refine Zc (Zd (Za rfl rfl (Zq rfl a2 aF (Zb (Ze (Zc (W_true (Zx (decide_eq_true (by omega))) (W_skip (Ze (Zc (W_block (Zc (Zd (Za rfl rfl (Zm (v := Vi ((aQ : Int))) rfl a2 ?_)))))))))))))))
   obtain ⟨c, du, aw⟩ := Zg aw
   refine Za rfl rfl (Exec.index_rep S32 rfl aE a2 (aH.mono (Zt (Zt (Zt (Zt b y) q) aB) aW)) du ?_)
   intro dO e6 bS
   refine Za rfl rfl (Zw (E := encsimulate_Problem) bw A52 rfl rfl rfl bS ?_)
   intro eM dv
   obtain rfl := encsimulate_Problem_val.1 dv
   refine Za rfl rfl (Exec.alloc (cs := [Vi (0), Vi (0), Vi (0), Vi (0), Vi (0)]) bw Z52 rfl rfl ?_)
   intro dP fm cy
   refine Za rfl rfl (Zo (v := Vi ((aQ : Int))) rfl rfl (Za rfl rfl (Exec.store_box (ds := [Vi (c.At), Vi (c.Kind), Vi (c.Launch), Vi (c.Other), Vi (c.Var)]) (es := [Vi (c.At), Vi (c.Kind), Vi (c.Launch), Vi (c.Other), Vi (c.Var)]) cy A52 rfl rfl rfl rfl (Zj rfl (Zj rfl (Zj rfl (Zj rfl (Zj rfl one_nil))))) (Nat.le_of_ble_eq_true rfl) rfl ?_)))
   intro fn bg
   refine Zb (Ze (Zc (Zd (Za rfl rfl (Zp F44_2 rfl aD rfl (Za rfl rfl (Zn ((bg).f1) A42 rfl rfl rfl (Za rfl rfl (Zm (v := Vi ((aQ : Int))) rfl rfl ?_)))))))))
   obtain ⟨d, dw, aw⟩ := Zg aw
   refine Za rfl rfl (Exec.index_rep S42 rfl rfl rfl (bl.mono (Zt (Zt q aB) aW)) dw ?_)
   intro dQ e7 bT
   refine Za rfl rfl (Zw (E := encref58_Problem) bg A53 rfl rfl rfl bT ?_)
   intro eN dx
   obtain rfl := encref58_Problem_val.1 dx
   refine Za rfl rfl (Exec.alloc (cs := [Vi (0), Vi (0), Vi (0), Vi (0), Vi (0)]) bg Z53 rfl rfl ?_)
   intro dR fo cz
   refine Za rfl rfl (Exec.store_box (ds := [Vi (d.At), Vi (d.Kind), Vi (d.Launch), Vi (d.Other), Vi (d.Var)]) (es := [Vi (d.At), Vi (d.Kind), Vi (d.Launch), Vi (d.Other), Vi (d.Var)]) cz A53 rfl rfl rfl rfl (Zj rfl (Zj rfl (Zj rfl (Zj rfl (Zj rfl one_nil))))) (Nat.le_of_ble_eq_true rfl) rfl ?_)
   intro fp j
   refine Zb (Ze (Zc (W_mid (M := fun f' w' => ∃ (bM : PHeap) , PHeap.le aI bM ∧ St w0 bM (Res.box l 44 [al, am, an, Vi (ao.Makespan)] :: H) w' ∧ f' 8 = Value.pointer (some ⟨l, 0, none⟩) ∧ f' 145 = ak ∧ f' 146 = Vi ((a.Problems.length : Int)) ∧ f' 147 = Vi ((aQ : Int)) ∧ f' 189 = Value.bool (((!decide (c.At = d.At)) || ((!decide (c.Kind = d.Kind)) || ((!decide (c.Launch = d.Launch)) || ((!decide (c.Other = d.Other)) || !decide (c.Var = d.Var))))))) ?_ ?_)))
   ·refine Zd (Za rfl rfl (Zp F52_0 rfl rfl rfl (Za rfl rfl (Zn ((j).f1) A3 rfl rfl rfl (Za rfl rfl (Zp F53_0 rfl rfl rfl (Za rfl rfl (Zn (j) A3 rfl rfl rfl (Za rfl rfl (Exec.neq rfl rfl rfl (Za rfl rfl (Zm (v := Value.bool (!decide (c.At = d.At))) rfl rfl ?_))))))))))))
    by_cases o : (!decide (c.At = d.At)) = true
    ·refine WL_passes 27 (by rw [o]; rfl) ?_
     refine Zb (Ze ?_)
     exact ⟨aI, (Zv _), ((j).drop).drop, aD, aE, aF, a2, (Zx (or_t o)).symm⟩
    replace o := Zk o
    refine WL_run rfl (Zf rfl (Zx o)) rfl (Zp F52_1 rfl rfl rfl (WL_run rfl (Zf rfl (Zx o)) rfl (Zn ((j).f1) A3 rfl rfl rfl (WL_run rfl (Zf rfl (Zx o)) rfl (Zp F53_1 rfl rfl rfl (WL_run rfl (Zf rfl (Zx o)) rfl (Zn (j) A3 rfl rfl rfl (WL_run rfl (Zf rfl (Zx o)) rfl (Exec.neq rfl rfl rfl ?_)))))))))
    refine WL_passes 2 (by rw [o]; rfl) ?_
    by_cases x : (!decide (c.Kind = d.Kind)) = true
    ·refine WL_passes 20 (by rw [x]; rfl) ?_
     refine Zb (Ze ?_)
     exact ⟨aI, (Zv _), ((j).drop).drop, aD, aE, aF, a2, (Zx (Eq.trans (or_f o) (or_t x))).symm⟩
    replace x := Zk x
    refine WL_run rfl (Zf rfl (Zx x)) rfl (Zp F52_2 rfl rfl rfl (WL_run rfl (Zf rfl (Zx x)) rfl (Zn ((j).f1) A3 rfl rfl rfl (WL_run rfl (Zf rfl (Zx x)) rfl (Zp F53_2 rfl rfl rfl (WL_run rfl (Zf rfl (Zx x)) rfl (Zn (j) A3 rfl rfl rfl (WL_run rfl (Zf rfl (Zx x)) rfl (Exec.neq rfl rfl rfl ?_)))))))))
    refine WL_passes 2 (by rw [x]; rfl) ?_
    by_cases ad : (!decide (c.Launch = d.Launch)) = true
    ·refine WL_passes 13 (by rw [ad]; rfl) ?_
     refine Zb (Ze ?_)
     exact ⟨aI, (Zv _), ((j).drop).drop, aD, aE, aF, a2, (Zx (Eq.trans (or_f o) (Eq.trans (or_f x) (or_t ad)))).symm⟩
    replace ad := Zk ad
    refine WL_run rfl (Zf rfl (Zx ad)) rfl (Zp F52_3 rfl rfl rfl (WL_run rfl (Zf rfl (Zx ad)) rfl (Zn ((j).f1) A3 rfl rfl rfl (WL_run rfl (Zf rfl (Zx ad)) rfl (Zp F53_3 rfl rfl rfl (WL_run rfl (Zf rfl (Zx ad)) rfl (Zn (j) A3 rfl rfl rfl (WL_run rfl (Zf rfl (Zx ad)) rfl (Exec.neq rfl rfl rfl ?_)))))))))
    refine WL_passes 2 (by rw [ad]; rfl) ?_
    by_cases ag : (!decide (c.Other = d.Other)) = true
    ·refine WL_passes 6 (by rw [ag]; rfl) ?_
     refine Zb (Ze ?_)
     exact ⟨aI, (Zv _), ((j).drop).drop, aD, aE, aF, a2, (Zx (Eq.trans (or_f o) (Eq.trans (or_f x) (Eq.trans (or_f ad) (or_t ag))))).symm⟩
    replace ag := Zk ag
    refine WL_run rfl (Zf rfl (Zx ag)) rfl (Zp F52_4 rfl rfl rfl (WL_run rfl (Zf rfl (Zx ag)) rfl (Zn ((j).f1) A3 rfl rfl rfl (WL_run rfl (Zf rfl (Zx ag)) rfl (Zp F53_4 rfl rfl rfl (WL_run rfl (Zf rfl (Zx ag)) rfl (Zn (j) A3 rfl rfl rfl (WL_run rfl (Zf rfl (Zx ag)) rfl (Exec.neq rfl rfl rfl (Za rfl rfl (Exec.pick_f (v := Value.bool (!decide (c.Var = d.Var))) rfl (Zx ag) rfl (Zb (Ze ?_)))))))))))))
    exact ⟨aI, (Zv _), ((j).drop).drop, aD, aE, aF, a2, (Zx (Eq.trans (or_f o) (Eq.trans (or_f x) (Eq.trans (or_f ad) (or_f ag))))).symm⟩
   intro ez fq cf
   obtain ⟨bN, b2, bx, da, db, dc, dd, b9⟩ := cf
   refine (Ze ?_)
   rcases ite_some aw with ⟨aP, aw⟩ | ⟨aP, aw⟩
   ·refine W_cond_t b9 aP (Zc (Zd (Za rfl rfl (Zo (v := Value.bool (false)) rfl rfl (Zb (Ze (W_ret (ib_ret (at_ret (at_ret (ib_ret (at_ret (at_ret ?_)))))))))))))
    have el := Zu aw
    subst br
    have c9 := cB _ (cE (by intro _ h; cases h))
    have em := Zu c9
    subst r
    refine ⟨_, ret1 rfl, ?_⟩
    exact ⟨bN, (Zt (Zt (Zt (Zt (Zt (Zt (Zt g p) b) y) q) aB) aW) b2), (bx).drop, rfl⟩
   refine W_cond_f b9 aP ?_
   replace aP := Zk aP
   refine W_skip (ib_normal (Ze (Zd (Za rfl rfl (Exec.add rfl dd rfl (Za rfl rfl (Zm (v := Vi (IntKind.i64.wrap ((aQ : Int) + 1))) rfl rfl (Zb (Ze ?_)))))))))
   have en := Zu aw
   subst br
   refine ⟨_, rfl, ?_⟩; exact ⟨bN, (Zt aW b2), bx, da, db, dc, (Eq.trans rfl (wrap_up c5 (SliceRep.le (aH.mono (Zt (Zt (Zt b y) q) aB)))))⟩
  intro eJ e0 fr bZ cF
  obtain ⟨d6, cM, c0, de, df, bA, dE⟩ := bZ
  refine Zc (Zd (Za rfl rfl (Zq rfl dE bA (Zb (Ze (Zc (W_false (Zx (decide_eq_false (by omega))) (W_exit (at_exit (at_exit (ib_here (Ze ?_))))))))))))
  refine ⟨_, .inl cF, ?_⟩; exact ⟨d6, cM, c0, de, df, bA⟩
 rintro e1 fs ⟨eK, b0, cg⟩
 have hm := b0.elim (c7 _) (c3 _)
 clear b0
 obtain ⟨d7, cN, c1, eA, eB, eC⟩ := cg
 refine (Ze (Zc (Zd (Za rfl rfl (Zo (v := Value.bool (true)) rfl rfl (Zb (Ze (W_ret ?_))))))))
 have eo := Zu hm
 subst r
 refine ⟨_, ret1 rfl, ?_⟩
 exact ⟨d7, (Zt (Zt (Zt (Zt (Zt (Zt g p) b) y) q) aB) cN), (c1).drop, rfl⟩
end Go.Pw
