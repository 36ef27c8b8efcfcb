/-
  The walks (printed by my generator).
-/
import Derived.Test.YtkfcbmecmdpilaaL29
import Derived.Test.YtkfcbmecmdpilaaL27
import Derived.Test.YtkfcbmecmdpilaaSx8
set_option maxRecDepth 100000
set_option maxHeartbeats 4000000
set_option linter.unusedVariables false
namespace Go.Pw
open Go.Proofs
theorem law19_SimplifyCosts_sim {w0 w : World} {s : PHeap} {H : List Res} {fu : Nat} {af : Ground} {l : Value} {m : Value} {n : Value} {o : Value} {p : Value} {r : Bool} (hm : law19_SimplifyCosts_p fu af = some r) (hS : St w0 s (H) w) (ai : SliceRep encAtom s l af.Atoms) (aj : SliceRep encGFluent s m af.Fluents) (ak : SliceRep (encInt .i64) s n af.Init) (al : SliceRep encCond s o af.Goal) (ae : SliceRep encGOp s p af.Ops) :
  Calls Try.prog 4 #[Value.agg #[l, m, n, o, p]] w fun e w' => ∃ v, e = .returned v ∧ ((fun (bv : Bool) => ∃ (aB : PHeap) , PHeap.le s aB ∧ St w0 aB (H) w' ∧ v = Value.bool (bv)) r) := by
 unfold law19_SimplifyCosts_p at hm
 refine calls_of_W Try.func4 rfl rfl (Zc (Zd (Za rfl rfl (Exec.box (cs := [l, m, n, o, p]) hS rfl rfl rfl ?_))))
 intro a5 bI a6
 refine Za rfl rfl (Zo (v := Value.bool (false)) rfl rfl (Zb (Ze (Zc (Zc ?_)))))
 obtain ⟨ad, a, hm⟩ := Zg hm
 refine W_mid (M := fun f' w' => (fun (ad : Bool) => ∃ (aC : PHeap) , PHeap.le s aC ∧ St w0 aC (Res.box a5 28 [l, m, n, o, p] :: H) w' ∧ f' 1 = Value.pointer (some ⟨a5, 0, none⟩) ∧ f' 22 = Value.bool (ad)) ad) ?_ ?_
 ·refine Zd (Za rfl rfl (Exec.load_box_agg (ds := [l, m, n, o, p]) (a6) A28 rfl rfl rfl ?_))
  obtain ⟨bw, aY, a⟩ := Zg a
  refine Za rfl rfl (Tc rfl rfl rfl (Zi rfl args_nil) (law18_Large_sim aY a6 ai aj ak al ae).r ?_)
  rintro _ bJ ⟨aD, j, am, rfl⟩
  refine Za rfl rfl (Zm (v := Value.bool (bw)) rfl rfl ?_)
  rcases ite_some a with ⟨k, a⟩ | ⟨k, a⟩
  ·refine WL_passes 14 (by rw [k]; rfl) ?_
   refine Zb (Ze ?_)
   have b4 := Zu a
   subst ad
   exact ⟨aD, j, am, rfl, rfl⟩
  replace k := Zk k
  refine WL_run rfl (Zf rfl (Zx k)) rfl (Zp F28_4 rfl rfl rfl (WL_run rfl (Zf rfl (Zx k)) rfl (Zn (am) A26 rfl rfl rfl (WL_run rfl (Zf rfl (Zx k)) rfl (Zr S26 rfl rfl (ae.mono j) (WL_run rfl (Zf rfl (Zx k)) rfl (Exec.gtr rfl rfl rfl ?_)))))))
  refine WL_passes 2 (by rw [k]; rfl) ?_
  rcases ite_some a with ⟨t, a⟩ | ⟨t, a⟩
  ·refine WL_passes 8 (by rw [t]; rfl) ?_
   refine Zb (Ze ?_)
   have b5 := Zu a
   subst ad
   exact ⟨aD, j, am, rfl, rfl⟩
  replace t := Zk t
  refine WL_run rfl (Zf rfl (Zx t)) rfl (Exec.load_box_agg (ds := [l, m, n, o, p]) (am) A28 rfl rfl rfl ?_)
  obtain ⟨bZ, aZ, a⟩ := Zg a
  refine WL_run rfl (Zf rfl (Zx t)) rfl (Tc rfl rfl rfl (Zi rfl args_nil) (law19_states_sim aZ am (ai.mono j) (aj.mono j) (ak.mono j) (al.mono j) (ae.mono j)).r ?_)
  rintro _ bK ⟨bl, a9, a7, rfl⟩
  refine WL_run rfl (Zf rfl (Zx t)) rfl (Exec.gtr rfl rfl rfl ?_)
  refine WL_passes 2 (by rw [t]; rfl) ?_
  rcases ite_some a with ⟨ac, a⟩ | ⟨ac, a⟩
  ·refine WL_passes 3 (by rw [ac]; rfl) ?_
   refine Zb (Ze ?_)
   have b6 := Zu a
   subst ad
   exact ⟨bl, (Zt j a9), a7, rfl, rfl⟩
  replace ac := Zk ac
  obtain ⟨bx, ba, a⟩ := Zg a
  refine WL_run rfl (Zf rfl (Zx ac)) rfl (Tc rfl rfl rfl args_nil (law19_awake_sim ba a7 ).r ?_)
  rintro _ bL ⟨bm, aS, aJ, rfl⟩
  refine WL_run rfl (Zf rfl (Zx ac)) rfl (Exec.not rfl rfl (Za rfl rfl (Exec.pick_f (v := Value.bool (!bx)) rfl (Zx ac) rfl (Zb (Ze ?_)))))
  have b7 := Zu a
  subst ad
  exact ⟨bm, (Zt (Zt j a9) aS), aJ, rfl, rfl⟩
 intro bE bM aH
 obtain ⟨bG, b, a2, a4, aA⟩ := aH
 refine (Ze ?_)
 rcases ite_some hm with ⟨an, hm⟩ | ⟨an, hm⟩
 ·refine W_cond_t aA an (Zc (Zd ?_))
  obtain ⟨bz, bb, hm⟩ := Zg hm
  refine Za rfl rfl (Tc rfl rfl rfl args_nil (law19_awake_sim bb a2 ).r ?_)
  rintro _ bN ⟨bn, aT, aK, rfl⟩
  refine Za rfl rfl (Zo (v := Value.bool (bz)) rfl rfl (Zb (Ze (W_ret (at_ret ?_)))))
  have b8 := Zu hm
  subst r
  refine ⟨_, ret1 rfl, ?_⟩
  exact ⟨bn, (Zt b aT), (aK).drop, rfl⟩
 refine W_cond_f aA an ?_
 replace an := Zk an
 refine W_skip (Ze (Zc (Zd (Za rfl rfl (Exec.load_box_agg (ds := [l, m, n, o, p]) (a2) A28 rfl a4 rfl ?_)))))
 obtain ⟨bu, bc, hm⟩ := Zg hm
 obtain ⟨a1, ca, cb⟩ := bu
 replace hm := un3_eq hm
 refine Za rfl rfl (Tc rfl rfl rfl (Zi rfl args_nil) (simplify_Simplify_sim bc a2 (ai.mono b) (aj.mono b) (ak.mono b) (al.mono b) (ae.mono b)).r ?_)
 rintro _ bO ⟨bo, x, y, z, aa, ab, ay, az, a0, g, aL, rfl, ar, au, av, aw, ax, bi, bj, bk⟩
 refine Za rfl rfl (Zm (v := Value.tuple #[Value.agg #[x, y, z, aa, ab], Value.agg #[ay, az, a0], errV 41 (a1)]) rfl rfl (Za rfl rfl (Exec.extract (v := Value.agg #[x, y, z, aa, ab]) rfl rfl rfl (Za rfl rfl (Exec.extract (v := Value.agg #[ay, az, a0]) rfl rfl rfl (Za rfl rfl (Exec.extract (v := errV 41 (a1)) rfl rfl rfl (Za rfl rfl (Exec.alloc (cs := [Value.slice none 0 0, Value.slice none 0 0, Value.slice none 0 0, Value.slice none 0 0, Value.slice none 0 0]) aL Z28 rfl rfl ?_)))))))))
 intro b2 bP aM
 refine Za rfl rfl (Exec.alloc (cs := [Value.slice none 0 0, Value.slice none 0 0, Value.slice none 0 0]) aM Z32 rfl rfl ?_)
 intro b3 bQ aN
 refine Za rfl rfl (Exec.store_box (ds := [x, y, z, aa, ab]) (es := [x, y, z, aa, ab]) (aN).f1 A28 rfl rfl rfl rfl (Zj (ar).one (Zj (au).one (Zj (av).one (Zj (aw).one (Zj (ax).one one_nil))))) (Nat.le_of_ble_eq_true rfl) rfl ?_)
 intro bR aO
 refine Za rfl rfl (Exec.store_box (ds := [ay, az, a0]) (es := [ay, az, a0]) (aO).f1 A32 rfl rfl rfl rfl (Zj (bi).one (Zj (bj).one (Zj (bk).one one_nil))) (Nat.le_of_ble_eq_true rfl) rfl ?_)
 intro bS ap
 refine Za rfl rfl (Zo (v := errV 41 (a1)) rfl rfl (Zb (Ze (Zc (Zc (Zd (Za rfl rfl (Zm (v := errV 41 (a1)) rfl rfl (Za rfl rfl (Exec.err_neq_nil (T := 41) Try.underlying34 rfl rfl rfl (Zb (Ze ?_))))))))))))
 rcases ite_some hm with ⟨ao, hm⟩ | ⟨ao, hm⟩
 ·refine W_cond_t rfl ao (Zc (Zd (Za rfl rfl (Exec.load_box_agg (ds := [l, m, n, o, p]) ((ap).f2) A28 rfl a4 rfl ?_))))
  obtain ⟨b0, bd, hm⟩ := Zg hm
  refine Za rfl rfl (Tc rfl rfl rfl (Zi rfl args_nil) (ground_Valid_sim bd ap (ai.mono (Zt b g)) (aj.mono (Zt b g)) (ak.mono (Zt b g)) (al.mono (Zt b g)) (ae.mono (Zt b g))).r ?_)
  rintro _ bT ⟨bp, aU, aP, rfl⟩
  refine Za rfl rfl (Exec.not rfl rfl (Za rfl rfl (Zo (v := Value.bool (!b0)) rfl rfl (Zb (Ze (W_ret (at_ret ?_)))))))
  have b9 := Zu hm
  subst r
  refine ⟨_, ret1 rfl, ?_⟩
  exact ⟨bp, (Zt (Zt b g) aU), (((aP).drop).drop).drop, rfl⟩
 refine W_cond_f rfl ao ?_
 replace ao := Zk ao
 refine W_skip (Ze (Zc ?_))
 obtain ⟨ah, d, hm⟩ := Zg hm
 refine W_mid (M := fun f' w' => (fun (ah : Bool) => ∃ (aE : PHeap) , PHeap.le bo aE ∧ St w0 aE (H) w' ∧ f' 2 = Value.bool (ah)) ah) ?_ ?_
 ·refine W_dl (n0 := 14) (.q 0 (.e 1 [] (.q 2 (.q 3 (.e 4 [] (qs 5 4 (.q 10 (.e 9 [10] (.e 11 [] (.q 12 (.q 13 .done))))))))))) hmix (by kernel_rfl) (by kernel_rfl) (DL_q rfl rfl (Exec.load_box_agg (ds := [x, y, z, aa, ab]) ((ap.drew).f1) A28 rfl rfl rfl ⟨rfl, ?_⟩))
  obtain ⟨b1, be, d⟩ := Zg d
  refine DL_e rfl rfl (Tc rfl rfl rfl (Zi rfl args_nil) (ground_Valid_sim be ap.drew ar au av aw ax).r ?_)
  rintro _ bU ⟨bq, c, a3, rfl⟩
  refine ⟨ag_nil, ?_⟩
  refine DL_q rfl rfl (Zm (v := Value.bool (b1)) rfl rfl ⟨rfl, ?_⟩)
  rcases ite_some d with ⟨u, d⟩ | ⟨u, d⟩
  ·refine DL_qg rfl rfl (Zf rfl (Zx u)) (Exec.load_box_agg (ds := [x, y, z, aa, ab]) ((a3).f1) A28 rfl rfl rfl ⟨rfl, ?_⟩)
   obtain ⟨cc, bf, d⟩ := Zg d
   refine DL_eg rfl rfl (Zf rfl (Zx u)) (Tc rfl rfl rfl (Zi rfl args_nil) (law19_states_sim bf a3 (ar.mono c) (au.mono c) (av.mono c) (aw.mono c) (ax.mono c)).r ?_)
   rintro _ bV ⟨br, h, aq, rfl⟩
   refine ⟨ag_nil, ?_⟩
   refine DL_qg rfl rfl (Zf rfl (Zx u)) (Exec.leq rfl rfl rfl ⟨rfl, ?_⟩)
   refine DL_passes 2 (by rw [u]; rfl) ?_
   rcases ite_some d with ⟨i, d⟩ | ⟨i, d⟩
   ·refine DL_qg rfl rfl (Zf rfl (Zx i)) (Exec.load_box_agg (ds := [l, m, n, o, p]) ((aq).f2) A28 rfl a4 rfl ⟨rfl, ?_⟩)
    refine DL_qg rfl rfl (Zf rfl (Zx i)) (Exec.load_box_agg (ds := [x, y, z, aa, ab]) ((aq).f1) A28 rfl rfl rfl ⟨rfl, ?_⟩)
    obtain ⟨aF, bg, d⟩ := Zg d
    refine DL_eg rfl rfl (Zf rfl (Zx i)) (Tc rfl rfl rfl (Zi rfl args_nil) (law19_Best_sim bg aq (ai.mono (Zt (Zt (Zt b g) c) h)) (aj.mono (Zt (Zt (Zt b g) c) h)) (ak.mono (Zt (Zt (Zt b g) c) h)) (al.mono (Zt (Zt (Zt b g) c) h)) (ae.mono (Zt (Zt (Zt b g) c) h))).r ?_)
    rintro _ bW ⟨bH, ag, a8, rfl⟩
    refine ⟨(ag_cons (ag_g rfl rfl (Zf rfl (Zx i)) (Exec.load_box_agg (ds := [x, y, z, aa, ab]) ((a8).f1) A28 rfl rfl rfl ⟨rfl, rfl⟩)) ag_nil), ?_⟩
    obtain ⟨aG, bh, d⟩ := Zg d
    refine DL_eg rfl rfl (Zf rfl (Zx i)) (Tc rfl rfl rfl (Zi rfl args_nil) (law19_Best_sim bh a8 (ar.mono (Zt (Zt c h) ag)) (au.mono (Zt (Zt c h) ag)) (av.mono (Zt (Zt c h) ag)) (aw.mono (Zt (Zt c h) ag)) (ax.mono (Zt (Zt c h) ag))).r ?_)
    rintro _ bX ⟨bs, aV, aQ, rfl⟩
    refine ⟨ag_nil, ?_⟩
    refine DL_qg rfl rfl (Zf rfl (Zx i)) (Exec.eql rfl rfl rfl ⟨rfl, ?_⟩)
    refine DL_q rfl rfl (Zs (v := Value.bool (decide (aF = aG))) rfl (Zx i) rfl ⟨rfl, ?_⟩)
    refine DL_done (Za rfl rfl (Zo (v := Value.bool (decide (aF = aG))) rfl rfl (Zb (Ze ?_))))
    have bA := Zu d
    subst ah
    exact ⟨bs, (Zt (Zt (Zt c h) ag) aV), (((aQ).drop).drop).drop, rfl⟩
   replace i := Zk i
   refine DL_passes 6 (by rw [i]; rfl) ?_
   refine DL_done (Za rfl rfl (Zo (v := Value.bool (false)) rfl rfl (Zb (Ze ?_))))
   have bB := Zu d
   subst ah
   exact ⟨br, (Zt c h), (((aq).drop).drop).drop, rfl⟩
  replace u := Zk u
  refine DL_passes 11 (by rw [u]; rfl) ?_
  refine DL_done (Za rfl rfl (Zo (v := Value.bool (false)) rfl rfl (Zb (Ze ?_))))
  have bC := Zu d
  subst ah
  exact ⟨bq, c, (((a3).drop).drop).drop, rfl⟩
 intro bF bY aI
 obtain ⟨bt, aW, aR, aX⟩ := aI
 refine (Ze (W_ret ?_))
 have bD := Zu hm
 subst r
 refine ⟨_, ret1 rfl, ?_⟩
 exact ⟨bt, (Zt (Zt b g) aW), aR, aX⟩
end Go.Pw
