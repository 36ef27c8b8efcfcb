/-
  The walks (printed by my generator).
-/
import Derived.Test.YtkfcbmecmdpilaaL29
import Derived.Test.YtkfcbmecmdpilaaL27
import Derived.Test.YtkfcbmecmdpilaaSs6
set_option maxRecDepth 100000
set_option maxHeartbeats 4000000
set_option linter.unusedVariables false
namespace Go.Pw
open Go.Proofs
theorem law19_SimplifyTwice_sim {w0 w : World} {s : PHeap} {H : List Res} {fu : Nat} {av : Ground} {af : Value} {ag : Value} {ah : Value} {ai : Value} {aj : Value} {r : Bool} (hm : law19_SimplifyTwice_p fu av = some r) (hS : St w0 s (H) w) (bj : SliceRep encAtom s af av.Atoms) (bk : SliceRep encGFluent s ag av.Fluents) (bl : SliceRep (encInt .i64) s ah av.Init) (bm : SliceRep encCond s ai av.Goal) (aN : SliceRep encGOp s aj av.Ops) :
  Calls Try.prog 8 #[Value.agg #[af, ag, ah, ai, aj]] w fun e w' => ∃ v, e = .returned v ∧ ((fun (dy : Bool) => ∃ (bR : PHeap) , PHeap.le s bR ∧ St w0 bR (H) w' ∧ v = Value.bool (dy)) r) := by
 unfold law19_SimplifyTwice_p at hm
 refine calls_of_W Try.func8 rfl rfl (Zc (Zd (Za rfl rfl (Exec.box (cs := [af, ag, ah, ai, aj]) hS rfl rfl rfl ?_))))
 intro b0 ex b4
 refine Za rfl rfl (Zo (v := Value.bool (false)) rfl rfl (Zb (Ze (Zc (Zc ?_)))))
 obtain ⟨az, g, hm⟩ := Zg hm
 refine W_mid (M := fun f' w' => (fun (az : Bool) => ∃ (bS : PHeap) , PHeap.le s bS ∧ St w0 bS (Res.box b0 28 [af, ag, ah, ai, aj] :: H) w' ∧ f' 1 = Value.pointer (some ⟨b0, 0, none⟩) ∧ f' 26 = Value.bool (az)) az) ?_ ?_
 ·refine Zd (Za rfl rfl (Exec.load_box_agg (ds := [af, ag, ah, ai, aj]) (b4) A28 rfl rfl rfl ?_))
  obtain ⟨dz, cS, g⟩ := Zg g
  refine Za rfl rfl (Tc rfl rfl rfl (Zi rfl args_nil) (law18_Large_sim cS b4 bj bk bl bm aN).r ?_)
  rintro _ ey ⟨bT, aT, aP, rfl⟩
  refine Za rfl rfl (Zm (v := Value.bool (dz)) rfl rfl ?_)
  rcases ite_some g with ⟨x, g⟩ | ⟨x, g⟩
  ·refine WL_passes 9 (by rw [x]; rfl) ?_
   refine Zb (Ze ?_)
   have dB := Zu g
   subst az
   exact ⟨bT, aT, aP, rfl, rfl⟩
  replace x := Zk x
  refine WL_run rfl (Zf rfl (Zx x)) rfl (Zp F28_4 rfl rfl rfl (WL_run rfl (Zf rfl (Zx x)) rfl (Zn (aP) A26 rfl rfl rfl (WL_run rfl (Zf rfl (Zx x)) rfl (Zr S26 rfl rfl (aN.mono aT) (WL_run rfl (Zf rfl (Zx x)) rfl (Exec.gtr rfl rfl rfl ?_)))))))
  refine WL_passes 2 (by rw [x]; rfl) ?_
  rcases ite_some g with ⟨ab, g⟩ | ⟨ab, g⟩
  ·refine WL_passes 3 (by rw [ab]; rfl) ?_
   refine Zb (Ze ?_)
   have dC := Zu g
   subst az
   exact ⟨bT, aT, aP, rfl, rfl⟩
  replace ab := Zk ab
  obtain ⟨d0, cT, g⟩ := Zg g
  refine WL_run rfl (Zf rfl (Zx ab)) rfl (Tc rfl rfl rfl args_nil (law19_awake_sim cT aP ).r ?_)
  rintro _ ez ⟨dl, cI, cq, rfl⟩
  refine WL_run rfl (Zf rfl (Zx ab)) rfl (Exec.not rfl rfl (Za rfl rfl (Exec.pick_f (v := Value.bool (!d0)) rfl (Zx ab) rfl (Zb (Ze ?_)))))
  have dD := Zu g
  subst az
  exact ⟨dl, (Zt aT cI), cq, rfl, rfl⟩
 intro ea e0 cl
 obtain ⟨et, d, bq, bG, bH⟩ := cl
 refine (Ze ?_)
 rcases ite_some hm with ⟨a1, hm⟩ | ⟨a1, hm⟩
 ·refine W_cond_t bH a1 (Zc (Zd ?_))
  obtain ⟨d1, cU, hm⟩ := Zg hm
  refine Za rfl rfl (Tc rfl rfl rfl args_nil (law19_awake_sim cU bq ).r ?_)
  rintro _ e1 ⟨dm, cJ, cr, rfl⟩
  refine Za rfl rfl (Zo (v := Value.bool (d1)) rfl rfl (Zb (Ze (W_ret (at_ret ?_)))))
  have dE := Zu hm
  subst r
  refine ⟨_, ret1 rfl, ?_⟩
  exact ⟨dm, (Zt d cJ), (cr).drop, rfl⟩
 refine W_cond_f bH a1 ?_
 replace a1 := Zk a1
 refine W_skip (Ze (Zc (Zd (Za rfl rfl (Exec.load_box_agg (ds := [af, ag, ah, ai, aj]) (bq) A28 rfl bG rfl ?_)))))
 obtain ⟨dq, cV, hm⟩ := Zg hm
 obtain ⟨bi, d2, eN⟩ := dq
 replace hm := un3_eq hm
 refine Za rfl rfl (Tc rfl rfl rfl (Zi rfl args_nil) (simplify_Simplify_sim cV bq (bj.mono d) (bk.mono d) (bl.mono d) (bm.mono d) (aN.mono d)).r ?_)
 rintro _ e2 ⟨eu, ak, al, am, an, ao, bf, bg, bh, p, ct, rfl, aE, aF, ba, bb, aG, dg, dh, di⟩
 refine Za rfl rfl (Zm (v := Value.tuple #[Value.agg #[ak, al, am, an, ao], Value.agg #[bf, bg, bh], errV 41 (bi)]) rfl rfl (Za rfl rfl (Exec.extract (v := Value.agg #[ak, al, am, an, ao]) rfl rfl rfl (Za rfl rfl (Exec.extract (v := Value.agg #[bf, bg, bh]) rfl rfl rfl (Za rfl rfl (Exec.extract (v := errV 41 (bi)) rfl rfl rfl (Za rfl rfl (Exec.alloc (cs := [Value.slice none 0 0, Value.slice none 0 0, Value.slice none 0 0, Value.slice none 0 0, Value.slice none 0 0]) ct Z28 rfl rfl ?_)))))))))
 intro d5 e3 cu
 refine Za rfl rfl (Exec.alloc (cs := [Value.slice none 0 0, Value.slice none 0 0, Value.slice none 0 0]) cu Z32 rfl rfl ?_)
 intro d6 e4 cv
 refine Za rfl rfl (Exec.store_box (ds := [ak, al, am, an, ao]) (es := [ak, al, am, an, ao]) (cv).f1 A28 rfl rfl rfl rfl (Zj (aE).one (Zj (aF).one (Zj (ba).one (Zj (bb).one (Zj (aG).one one_nil))))) (Nat.le_of_ble_eq_true rfl) rfl ?_)
 intro e5 cw
 refine Za rfl rfl (Exec.store_box (ds := [bf, bg, bh]) (es := [bf, bg, bh]) (cw).f1 A32 rfl rfl rfl rfl (Zj (dg).one (Zj (dh).one (Zj (di).one one_nil))) (Nat.le_of_ble_eq_true rfl) rfl ?_)
 intro e6 aQ
 refine Za rfl rfl (Zo (v := errV 41 (bi)) rfl rfl (Zb (Ze (Zc (Zc (Zd (Za rfl rfl (Zm (v := errV 41 (bi)) rfl rfl (Za rfl rfl (Exec.err_neq_nil (T := 41) Try.underlying34 rfl rfl rfl (Zb (Ze ?_))))))))))))
 rcases ite_some hm with ⟨a2, hm⟩ | ⟨a2, hm⟩
 ·refine W_cond_t rfl a2 (Zc (Zd (Za rfl rfl (Exec.load_box_agg (ds := [af, ag, ah, ai, aj]) ((aQ).f2) A28 rfl bG rfl ?_))))
  obtain ⟨d3, cW, hm⟩ := Zg hm
  refine Za rfl rfl (Tc rfl rfl rfl (Zi rfl args_nil) (ground_Valid_sim cW aQ (bj.mono (Zt d p)) (bk.mono (Zt d p)) (bl.mono (Zt d p)) (bm.mono (Zt d p)) (aN.mono (Zt d p))).r ?_)
  rintro _ e7 ⟨dn, cK, cx, rfl⟩
  refine Za rfl rfl (Exec.not rfl rfl (Za rfl rfl (Zo (v := Value.bool (!d3)) rfl rfl (Zb (Ze (W_ret (at_ret ?_)))))))
  have dF := Zu hm
  subst r
  refine ⟨_, ret1 rfl, ?_⟩
  exact ⟨dn, (Zt (Zt d p) cK), (((cx).drop).drop).drop, rfl⟩
 refine W_cond_f rfl a2 ?_
 replace a2 := Zk a2
 refine W_skip (Ze (Zc (Zd (Za rfl rfl (Exec.load_box_agg (ds := [ak, al, am, an, ao]) ((aQ).f1) A28 rfl rfl rfl ?_)))))
 obtain ⟨dr, cX, hm⟩ := Zg hm
 obtain ⟨aM, eO, eP⟩ := dr
 replace hm := un3_eq hm
 refine Za rfl rfl (Tc rfl rfl rfl (Zi rfl args_nil) (simplify_Simplify_sim cX aQ aE aF ba bb aG).r ?_)
 rintro _ e8 ⟨ev, aH, aI, aJ, aK, aL, ap, aq, ar, c, cy, rfl, bM, bN, bO, bP, bQ, dj, dk, bc⟩
 refine Za rfl rfl (Zm (v := Value.tuple #[Value.agg #[aH, aI, aJ, aK, aL], Value.agg #[ap, aq, ar], errV 41 (aM)]) rfl rfl (Za rfl rfl (Exec.extract (v := Value.agg #[aH, aI, aJ, aK, aL]) rfl rfl rfl (Za rfl rfl (Exec.extract (v := Value.agg #[ap, aq, ar]) rfl rfl rfl (Za rfl rfl (Exec.extract (v := errV 41 (aM)) rfl rfl rfl (Za rfl rfl (Exec.alloc (cs := [Value.slice none 0 0, Value.slice none 0 0, Value.slice none 0 0, Value.slice none 0 0, Value.slice none 0 0]) cy Z28 rfl rfl ?_)))))))))
 intro d7 e9 cz
 refine Za rfl rfl (Exec.alloc (cs := [Value.slice none 0 0, Value.slice none 0 0, Value.slice none 0 0]) cz Z32 rfl rfl ?_)
 intro au eA c0
 refine Za rfl rfl (Exec.store_box (ds := [aH, aI, aJ, aK, aL]) (es := [aH, aI, aJ, aK, aL]) (c0).f1 A28 rfl rfl rfl rfl (Zj (bM).one (Zj (bN).one (Zj (bO).one (Zj (bP).one (Zj (bQ).one one_nil))))) (Nat.le_of_ble_eq_true rfl) rfl ?_)
 intro eB c1
 refine Za rfl rfl (Exec.store_box (ds := [ap, aq, ar]) (es := [ap, aq, ar]) (c1).f1 A32 rfl rfl rfl rfl (Zj (dj).one (Zj (dk).one (Zj (bc).one one_nil))) (Nat.le_of_ble_eq_true rfl) rfl ?_)
 intro eC b5
 refine Za rfl rfl (Zo (v := errV 41 (aM)) rfl rfl (Zb (Ze (Zc (Zd (Za rfl rfl (Exec.load_box_agg (ds := [ak, al, am, an, ao]) ((b5).f3) A28 rfl rfl rfl ?_)))))))
 obtain ⟨dt, cY, hm⟩ := Zg hm
 obtain ⟨d4, ce, aO⟩ := dt
 replace hm := un3_eq hm
 refine Za rfl rfl (Tc rfl rfl rfl (Zi rfl args_nil) (simplify_Relevant_sim cY b5 (aE.mono c) (aF.mono c) (ba.mono c) (bb.mono c) (aG.mono c)).r ?_)
 rintro _ eD ⟨bt, t, i, b, a0, rfl, br, bs⟩
 refine Za rfl rfl (Zm (v := Value.tuple #[t, i, errV 41 (aO)]) rfl rfl (Za rfl rfl (Exec.extract (v := t) rfl rfl rfl (Za rfl rfl (Exec.extract (v := i) rfl rfl rfl (Za rfl rfl (Exec.extract (v := errV 41 (aO)) rfl rfl rfl (Za rfl rfl (Zo (v := t) rfl rfl (Za rfl rfl (Zo (v := i) rfl rfl (Za rfl rfl (Zo (v := errV 41 (aO)) rfl rfl (Zb (Ze (Zc (Zc ?_)))))))))))))))))
 obtain ⟨z, a, hm⟩ := Zg hm
 refine W_mid (M := fun f' w' => (fun (z : Bool) => ∃ (bU : PHeap) , PHeap.le bt bU ∧ St w0 bU (Res.box au 32 [ap, aq, ar] :: H) w' ∧ f' 7 = Value.pointer (some ⟨au, 0, none⟩) ∧ f' 9 = t ∧ f' 10 = i ∧ f' 87 = Value.bool (z)) z) ?_ ?_
 ·refine Zd (Za rfl rfl (Zm (v := errV 41 (aM)) rfl rfl (Za rfl rfl (Exec.err_neq_nil (T := 41) Try.underlying34 rfl rfl rfl (Za rfl rfl (Zm (v := Value.bool (aM.isSome)) rfl rfl ?_))))))
  rcases ite_some a with ⟨ac, a⟩ | ⟨ac, a⟩
  ·refine WL_passes 34 (by rw [ac]; rfl) ?_
   refine Zb (Ze ?_)
   have dG := Zu a
   subst z
   exact ⟨bt, (Zv _), ((((((((a0).f1).drop).f1).drop).f1).drop).f1).drop, rfl, rfl, rfl, rfl⟩
  replace ac := Zk ac
  refine WL_run rfl (Zf rfl (Zx ac)) rfl (Zm (v := errV 41 (aO)) rfl rfl (WL_run rfl (Zf rfl (Zx ac)) rfl (Exec.err_neq_nil (T := 41) Try.underlying34 rfl rfl rfl ?_)))
  refine WL_passes 2 (by rw [ac]; rfl) ?_
  rcases ite_some a with ⟨y, a⟩ | ⟨y, a⟩
  ·refine WL_passes 30 (by rw [y]; rfl) ?_
   refine Zb (Ze ?_)
   have dH := Zu a
   subst z
   exact ⟨bt, (Zv _), ((((((((a0).f1).drop).f1).drop).f1).drop).f1).drop, rfl, rfl, rfl, rfl⟩
  replace y := Zk y
  refine WL_run rfl (Zf rfl (Zx y)) rfl (Exec.load_box_agg (ds := [aH, aI, aJ, aK, aL]) ((a0).f1) A28 rfl rfl rfl (WL_run rfl (Zf rfl (Zx y)) rfl (Exec.load_box_agg (ds := [ak, al, am, an, ao]) ((a0).f3) A28 rfl rfl rfl ?_)))
  obtain ⟨eQ, cZ, a⟩ := Zg a
  refine WL_run rfl (Zf rfl (Zx y)) rfl (Tc rfl rfl rfl (Zi rfl (Zi rfl args_nil)) (ref18_Same_sim cZ a0 (bM.mono b) (bN.mono b) (bO.mono b) (bP.mono b) (bQ.mono b) (aE.mono (Zt c b)) (aF.mono (Zt c b)) (ba.mono (Zt c b)) (bb.mono (Zt c b)) (aG.mono (Zt c b))).r ?_)
  rintro _ eE ⟨bd, u, aa, rfl⟩
  refine WL_run rfl (Zf rfl (Zx y)) rfl (Exec.not rfl rfl ?_)
  refine WL_passes 2 (by rw [y]; rfl) ?_
  rcases ite_some a with ⟨j, a⟩ | ⟨j, a⟩
  ·refine WL_passes 24 (by rw [j]; rfl) ?_
   refine Zb (Ze ?_)
   have dI := Zu a
   subst z
   exact ⟨bd, u, ((((((((aa).f1).drop).f1).drop).f1).drop).f1).drop, rfl, rfl, rfl, rfl⟩
  replace j := Zk j
  refine WL_run rfl (Zf rfl (Zx j)) rfl (Zp F32_2 rfl rfl rfl (WL_run rfl (Zf rfl (Zx j)) rfl (Zn (aa) A24 rfl rfl rfl (WL_run rfl (Zf rfl (Zx j)) rfl (Zr S24 rfl rfl (bc.mono (Zt b u)) (WL_run rfl (Zf rfl (Zx j)) rfl (Zp F28_4 rfl rfl rfl (WL_run rfl (Zf rfl (Zx j)) rfl (Zn ((aa).f3) A26 rfl rfl rfl (WL_run rfl (Zf rfl (Zx j)) rfl (Zr S26 rfl rfl (aG.mono (Zt (Zt c b) u)) (WL_run rfl (Zf rfl (Zx j)) rfl (Exec.neq rfl rfl rfl ?_)))))))))))))
  refine WL_passes 2 (by rw [j]; rfl) ?_
  rcases ite_some a with ⟨k, a⟩ | ⟨k, a⟩
  ·refine WL_passes 15 (by rw [k]; rfl) ?_
   refine Zb (Ze ?_)
   have dJ := Zu a
   subst z
   exact ⟨bd, u, ((((((((aa).f1).drop).f1).drop).f1).drop).f1).drop, rfl, rfl, rfl, rfl⟩
  replace k := Zk k
  refine WL_run rfl (Zf rfl (Zx k)) rfl (Zm (v := t) rfl rfl (WL_run rfl (Zf rfl (Zx k)) rfl (Zr S60 rfl rfl (br.mono u) (WL_run rfl (Zf rfl (Zx k)) rfl (Zp F28_0 rfl rfl rfl (WL_run rfl (Zf rfl (Zx k)) rfl (Zn ((aa).f3) A22 rfl rfl rfl (WL_run rfl (Zf rfl (Zx k)) rfl (Zr S22 rfl rfl (aE.mono (Zt (Zt c b) u)) (WL_run rfl (Zf rfl (Zx k)) rfl (Exec.neq rfl rfl rfl ?_)))))))))))
  refine WL_passes 2 (by rw [k]; rfl) ?_
  rcases ite_some a with ⟨l, a⟩ | ⟨l, a⟩
  ·refine WL_passes 7 (by rw [l]; rfl) ?_
   refine Zb (Ze ?_)
   have dK := Zu a
   subst z
   exact ⟨bd, u, ((((((((aa).f1).drop).f1).drop).f1).drop).f1).drop, rfl, rfl, rfl, rfl⟩
  replace l := Zk l
  refine WL_run rfl (Zf rfl (Zx l)) rfl (Zm (v := i) rfl rfl (WL_run rfl (Zf rfl (Zx l)) rfl (Zr S60 rfl rfl (bs.mono u) (WL_run rfl (Zf rfl (Zx l)) rfl (Zp F28_1 rfl rfl rfl (WL_run rfl (Zf rfl (Zx l)) rfl (Zn ((aa).f3) A23 rfl rfl rfl (WL_run rfl (Zf rfl (Zx l)) rfl (Zr S23 rfl rfl (aF.mono (Zt (Zt c b) u)) (WL_run rfl (Zf rfl (Zx l)) rfl (Exec.neq rfl rfl rfl (Za rfl rfl (Exec.pick_f (v := Value.bool (!decide ((ce.length : Int) = (d2.Fluents.length : Int)))) rfl (Zx l) rfl (Zb (Ze ?_)))))))))))))))
  have dL := Zu a
  subst z
  exact ⟨bd, u, ((((((((aa).f1).drop).f1).drop).f1).drop).f1).drop, rfl, rfl, rfl, rfl⟩
 intro eb eF cm
 obtain ⟨be, q, b6, cM, cN, cO, bI⟩ := cm
 refine (Ze ?_)
 rcases ite_some hm with ⟨a3, hm⟩ | ⟨a3, hm⟩
 ·refine W_cond_t bI a3 (Zc (Zd (Za rfl rfl (Zo (v := Value.bool (false)) rfl rfl (Zb (Ze (W_ret (at_ret ?_))))))))
  have dM := Zu hm
  subst r
  refine ⟨_, ret1 rfl, ?_⟩
  exact ⟨be, (Zt (Zt (Zt (Zt d p) c) b) q), (b6).drop, rfl⟩
 refine W_cond_f bI a3 ?_
 replace a3 := Zk a3
 refine W_skip (Ze (Zc (Zc (Zd (Za rfl rfl (Zo (v := Vi (0)) rfl rfl (Zb (Ze ?_))))))))
 obtain ⟨b1, cf, cF, c9, c6⟩ := ctl_some hm
 refine W_mid (M := fun f' w' => ∃ s', (b1 = .next s' ∨ b1 = .brk s') ∧ (fun (bD : Int) => ∃ (bV : PHeap) , PHeap.le be bV ∧ St w0 bV (Res.box au 32 [ap, aq, ar] :: H) w' ∧ f' 7 = Value.pointer (some ⟨au, 0, none⟩) ∧ f' 9 = t ∧ f' 10 = i ∧ f' 12 = Vi (bD)) s') ?_ ?_
 ·refine W_block (W_while (fun s' f' w' => (fun (ad : Int) => ∃ (bW : PHeap) , PHeap.le be bW ∧ St w0 bW (Res.box au 32 [ap, aq, ar] :: H) w' ∧ f' 7 = Value.pointer (some ⟨au, 0, none⟩) ∧ f' 9 = t ∧ f' 10 = i ∧ f' 12 = Vi (ad)) s') cf ?_ ?_)
  ·exact ⟨be, (Zv _), b6, cM, cN, cO, rfl⟩
  intro ad bn ec eG ci m bA
  obtain ⟨bu, aA, aw, aV, bJ, bK, aD⟩ := ci
  refine Zc (Zc (Zd (Za rfl rfl (Zm (v := Vi (ad)) rfl aD (Za rfl rfl (Zp F32_2 rfl aV rfl (Za rfl rfl (Zn (aw) A24 rfl rfl rfl (Za rfl rfl (Zr S24 rfl rfl (bc.mono (Zt (Zt b q) aA)) (Za rfl rfl (Zq rfl rfl rfl (Zb (Ze ?_))))))))))))))
  rcases ite_some m with ⟨a4, m⟩ | ⟨a4, m⟩
  ·refine W_cond_t rfl a4 (W_skip (Ze (Zc (W_block (Zc (Zd (Za rfl rfl (Zp F32_2 rfl aV rfl (Za rfl rfl (Zn (aw) A24 rfl rfl rfl (Za rfl rfl (Zm (v := Vi (ad)) rfl aD ?_))))))))))))
   obtain ⟨eM, da, m⟩ := Zg m
   refine Za rfl rfl (Exec.index_rep S24 rfl rfl rfl (bc.mono (Zt (Zt b q) aA)) da ?_)
   intro d8 ei cb
   refine Za rfl rfl (Zw (E := (encInt .i64)) aw A3 rfl rfl rfl cb ?_)
   intro ew db
   obtain rfl := encInt_val.1 db
   refine Za rfl rfl (Zm (v := Vi (ad)) rfl aD (Za rfl rfl (Exec.neq rfl rfl rfl (Zb (Ze ?_)))))
   rcases ite_some m with ⟨a5, m⟩ | ⟨a5, m⟩
   ·refine W_cond_t rfl a5 (Zc (Zd (Za rfl rfl (Zo (v := Value.bool (false)) rfl rfl (Zb (Ze (W_ret (ib_ret (at_ret (at_ret (ib_ret (at_ret (at_ret ?_)))))))))))))
    have dN := Zu m
    subst bn
    have cC := cF _ (bA (by intro _ h; cases h))
    have dO := Zu cC
    subst r
    refine ⟨_, ret1 rfl, ?_⟩
    exact ⟨bu, (Zt (Zt (Zt (Zt (Zt d p) c) b) q) aA), (aw).drop, rfl⟩
   refine W_cond_f rfl a5 ?_
   replace a5 := Zk a5
   refine W_skip (ib_normal (Ze (Zd (Za rfl rfl (Zm (v := Vi (ad)) rfl aD (Za rfl rfl (Exec.add rfl rfl rfl (Za rfl rfl (Zo (v := Vi (IntKind.i64.wrap (ad + 1))) rfl rfl (Zb (Ze ?_)))))))))))
   have dP := Zu m
   subst bn
   refine ⟨_, rfl, ?_⟩; exact ⟨bu, aA, aw, aV, bJ, bK, rfl⟩
  refine W_cond_f rfl a4 ?_
  replace a4 := Zk a4
  refine W_exit (at_exit (at_exit (ib_here (Ze ?_))))
  have dQ := Zu m
  subst bn
  refine ⟨_, .inr (bA (by intro _ h; cases h)), ?_⟩; exact ⟨bu, aA, aw, aV, bJ, bK, aD⟩
 rintro ed eH ⟨bD, b7, cn⟩
 have hm := b7.elim (c9 _) (c6 _)
 clear b7
 obtain ⟨bv, ae, c2, el, cP, cQ, em⟩ := cn
 refine (Ze (Zc (Zc (Zd (Za rfl rfl (Zo (v := Vi (0)) rfl rfl (Zb (Ze ?_))))))))
 obtain ⟨b2, cg, cG, cA, c7⟩ := ctl_some hm
 refine W_mid (M := fun f' w' => ∃ s', (b2 = .next s' ∨ b2 = .brk s') ∧ (fun (bE : Int) => ∃ (bX : PHeap) , PHeap.le bv bX ∧ St w0 bX (H) w' ∧ f' 9 = t ∧ f' 10 = i ∧ f' 13 = Vi (bE)) s') ?_ ?_
 ·refine W_block (W_while (fun s' f' w' => (fun (ax : Int) => ∃ (bY : PHeap) , PHeap.le bv bY ∧ St w0 bY (H) w' ∧ f' 9 = t ∧ f' 10 = i ∧ f' 13 = Vi (ax)) s') cg ?_ ?_)
  ·have c3 := (c2).drop
   exact ⟨bv, (Zv _), c3, cP, cQ, rfl⟩
  intro ax bo ee eI cj n bB
  obtain ⟨bw, aB, aR, aW, bL, aX⟩ := cj
  refine Zc (Zc (Zd (Za rfl rfl (Zm (v := Vi (ax)) rfl aX (Za rfl rfl (Zm (v := t) rfl aW (Za rfl rfl (Zr S60 rfl rfl (br.mono (Zt (Zt q ae) aB)) (Za rfl rfl (Zq rfl rfl rfl (Zb (Ze ?_))))))))))))
  rcases ite_some n with ⟨a6, n⟩ | ⟨a6, n⟩
  ·refine W_cond_t rfl a6 (W_skip (Ze (Zc (W_block (Zc (Zd (Za rfl rfl (Zm (v := t) rfl aW (Za rfl rfl (Zm (v := Vi (ax)) rfl aX ?_))))))))))
   obtain ⟨dw, dc, n⟩ := Zg n
   refine Za rfl rfl (Exec.index_rep S60 rfl rfl rfl (br.mono (Zt (Zt q ae) aB)) dc ?_)
   intro d9 ej cc
   refine Za rfl rfl (Zw (E := encBool) aR A4 rfl rfl rfl cc ?_)
   intro du dd
   obtain rfl : du = Value.bool (dw) := encBool_val.1 dd
   refine Za rfl rfl (Exec.not rfl rfl (Zb (Ze ?_)))
   rcases ite_some n with ⟨a7, n⟩ | ⟨a7, n⟩
   ·refine W_cond_t rfl a7 (Zc (Zd (Za rfl rfl (Zo (v := Value.bool (false)) rfl rfl (Zb (Ze (W_ret (ib_ret (at_ret (at_ret (ib_ret (at_ret (at_ret ?_)))))))))))))
    have dR := Zu n
    subst bo
    have cD := cG _ (bB (by intro _ h; cases h))
    have dS := Zu cD
    subst r
    refine ⟨_, ret1 rfl, ?_⟩
    exact ⟨bw, (Zt (Zt (Zt (Zt (Zt (Zt d p) c) b) q) ae) aB), aR, rfl⟩
   refine W_cond_f rfl a7 ?_
   replace a7 := Zk a7
   refine W_skip (ib_normal (Ze (Zd (Za rfl rfl (Zm (v := Vi (ax)) rfl aX (Za rfl rfl (Exec.add rfl rfl rfl (Za rfl rfl (Zo (v := Vi (IntKind.i64.wrap (ax + 1))) rfl rfl (Zb (Ze ?_)))))))))))
   have dT := Zu n
   subst bo
   refine ⟨_, rfl, ?_⟩; exact ⟨bw, aB, aR, aW, bL, rfl⟩
  refine W_cond_f rfl a6 ?_
  replace a6 := Zk a6
  refine W_exit (at_exit (at_exit (ib_here (Ze ?_))))
  have dU := Zu n
  subst bo
  refine ⟨_, .inr (bB (by intro _ h; cases h)), ?_⟩; exact ⟨bw, aB, aR, aW, bL, aX⟩
 rintro ef eJ ⟨bE, b8, co⟩
 have hm := b8.elim (cA _) (c7 _)
 clear b8
 obtain ⟨bx, aU, c4, en, cR, eo⟩ := co
 refine (Ze (Zc (Zc (Zd (Za rfl rfl (Zo (v := Vi (0)) rfl rfl (Zb (Ze ?_))))))))
 obtain ⟨b3, ch, cH, cB, c8⟩ := ctl_some hm
 refine W_mid (M := fun f' w' => ∃ s', (b3 = .next s' ∨ b3 = .brk s') ∧ (fun (bF : Int) => ∃ (bZ : PHeap) , PHeap.le bx bZ ∧ St w0 bZ (H) w' ∧ f' 10 = i ∧ f' 14 = Vi (bF)) s') ?_ ?_
 ·refine W_block (W_while (fun s' f' w' => (fun (ay : Int) => ∃ (ca : PHeap) , PHeap.le bx ca ∧ St w0 ca (H) w' ∧ f' 10 = i ∧ f' 14 = Vi (ay)) s') ch ?_ ?_)
  ·exact ⟨bx, (Zv _), c4, cR, rfl⟩
  intro ay bp eg eK ck o bC
  obtain ⟨bz, aC, aS, aY, aZ⟩ := ck
  refine Zc (Zc (Zd (Za rfl rfl (Zm (v := Vi (ay)) rfl aZ (Za rfl rfl (Zm (v := i) rfl aY (Za rfl rfl (Zr S60 rfl rfl (bs.mono (Zt (Zt (Zt q ae) aU) aC)) (Za rfl rfl (Zq rfl rfl rfl (Zb (Ze ?_))))))))))))
  rcases ite_some o with ⟨a8, o⟩ | ⟨a8, o⟩
  ·refine W_cond_t rfl a8 (W_skip (Ze (Zc (W_block (Zc (Zd (Za rfl rfl (Zm (v := i) rfl aY (Za rfl rfl (Zm (v := Vi (ay)) rfl aZ ?_))))))))))
   obtain ⟨dx, de, o⟩ := Zg o
   refine Za rfl rfl (Exec.index_rep S60 rfl rfl rfl (bs.mono (Zt (Zt (Zt q ae) aU) aC)) de ?_)
   intro dA ek cd
   refine Za rfl rfl (Zw (E := encBool) aS A4 rfl rfl rfl cd ?_)
   intro dv df
   obtain rfl : dv = Value.bool (dx) := encBool_val.1 df
   refine Za rfl rfl (Exec.not rfl rfl (Zb (Ze ?_)))
   rcases ite_some o with ⟨a9, o⟩ | ⟨a9, o⟩
   ·refine W_cond_t rfl a9 (Zc (Zd (Za rfl rfl (Zo (v := Value.bool (false)) rfl rfl (Zb (Ze (W_ret (ib_ret (at_ret (at_ret (ib_ret (at_ret (at_ret ?_)))))))))))))
    have dV := Zu o
    subst bp
    have cE := cH _ (bC (by intro _ h; cases h))
    have dW := Zu cE
    subst r
    refine ⟨_, ret1 rfl, ?_⟩
    exact ⟨bz, (Zt (Zt (Zt (Zt (Zt (Zt (Zt d p) c) b) q) ae) aU) aC), aS, rfl⟩
   refine W_cond_f rfl a9 ?_
   replace a9 := Zk a9
   refine W_skip (ib_normal (Ze (Zd (Za rfl rfl (Zm (v := Vi (ay)) rfl aZ (Za rfl rfl (Exec.add rfl rfl rfl (Za rfl rfl (Zo (v := Vi (IntKind.i64.wrap (ay + 1))) rfl rfl (Zb (Ze ?_)))))))))))
   have dX := Zu o
   subst bp
   refine ⟨_, rfl, ?_⟩; exact ⟨bz, aC, aS, aY, rfl⟩
  refine W_cond_f rfl a8 ?_
  replace a8 := Zk a8
  refine W_exit (at_exit (at_exit (ib_here (Ze ?_))))
  have dY := Zu o
  subst bp
  refine ⟨_, .inr (bC (by intro _ h; cases h)), ?_⟩; exact ⟨bz, aC, aS, aY, aZ⟩
 rintro eh eL ⟨bF, b9, cp⟩
 have hm := b9.elim (cB _) (c8 _)
 clear b9
 obtain ⟨dp, cL, c5, ep, er⟩ := cp
 refine (Ze (Zc (Zd (Za rfl rfl (Zo (v := Value.bool (true)) rfl rfl (Zb (Ze (W_ret ?_))))))))
 have dZ := Zu hm
 subst r
 refine ⟨_, ret1 rfl, ?_⟩
 exact ⟨dp, (Zt (Zt (Zt (Zt (Zt (Zt (Zt d p) c) b) q) ae) aU) cL), c5, rfl⟩
end Go.Pw
