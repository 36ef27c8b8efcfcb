/-
  The walks (printed by my generator).
-/
import Derived.Test.YthbgcahoknmmmaaGreatL29
import Derived.Test.YthbgcahoknmmmaaGreatL27
import Derived.Test.YthbgcahoknmmmaaGreatRz5
set_option maxRecDepth 100000
set_option maxHeartbeats 4000000
set_option linter.unusedVariables false
namespace Go.Pw
open Go.Proofs
theorem simulate_conflict_sim {w0 w : World} {s : PHeap} {H : List Res} {a : Job} {b : Job} {q : Value} {t : Value} {u : Value} {x : Value} {y : Value} {z : Value} {aa : Value} {ab : Value} {ac : Value} {ad : Value} {r : Bool} (hm : simulate_conflict_p a b = some r) (hS : St w0 s (H) w) (aG : SliceRep encFact s q a.Start) (a1 : SliceRep encFact s t a.Over) (aH : SliceRep encFact s u a.End) (aI : SliceRep encFact s x a.AtStart) (aJ : SliceRep encFact s y a.AtEnd) (aK : SliceRep encFact s z b.Start) (a2 : SliceRep encFact s aa b.Over) (aL : SliceRep encFact s ab b.End) (aM : SliceRep encFact s ac b.AtStart) (aN : SliceRep encFact s ad b.AtEnd) :
  Calls Tryz.prog 35 #[Value.agg #[Value.string (a.Name), Vi (a.Duration), q, t, u, x, y], Value.agg #[Value.string (b.Name), Vi (b.Duration), z, aa, ab, ac, ad]] w fun e w' => ∃ v, e = .returned v ∧ ((fun (d1 : Bool) => ∃ (bt : PHeap) , PHeap.le s bt ∧ St w0 bt (H) w' ∧ v = Value.bool (d1)) r) := by
 unfold simulate_conflict_p at hm
 refine calls_of_W Tryz.func35 rfl rfl (Zc (Zd (Za rfl rfl (Exec.box (cs := [Value.string (a.Name), Vi (a.Duration), q, t, u, x, y]) hS rfl rfl rfl ?_))))
 intro l ey bL
 refine Za rfl rfl (Exec.box (cs := [Value.string (b.Name), Vi (b.Duration), z, aa, ab, ac, ad]) bL rfl rfl rfl ?_)
 intro m ez bM
 refine Za rfl rfl (Zo (v := Value.bool (false)) rfl rfl (Zb (Ze (Zc (Zc (Zd (Za rfl rfl (Exec.buildSlice (Te := 4) (cs := [Value.bool (false), Value.bool (true)]) bM rfl (parts_cons (c := [Value.bool (false)]) (cells_of rfl rfl) (parts_cons (c := [Value.bool (true)]) (cells_of rfl rfl) parts_nil)) (fun _ => by kernel_rfl) ?_))))))))
 intro aq e0 bN
 have bO := St.boxArr (E := encBool) (xs := [false, true]) bN ⟨[Value.bool (false)], [Value.bool (true)], rfl, rfl, ⟨[Value.bool (true)], [], rfl, rfl, rfl⟩⟩ (by simp [maxLen])
 obtain ⟨a9, d, bP, an⟩ := bO.freezeArr
 refine Za rfl rfl (Zr S91 rfl rfl an (Za rfl rfl (Zm (v := Vi (0)) rfl rfl (Zb (Ze ?_)))))
 obtain ⟨aP, b8, ct, cm, cg⟩ := ctl_some hm
 refine W_mid (M := fun f' w' => ∃ s', (aP = .next s' ∨ aP = .brk s') ∧ (fun (_ : Unit) => ∃ (bu : PHeap) , PHeap.le a9 bu ∧ St w0 bu (Res.box l 59 [Value.string (a.Name), Vi (a.Duration), q, t, u, x, y] :: Res.box m 59 [Value.string (b.Name), Vi (b.Duration), z, aa, ab, ac, ad] :: H) w' ∧ f' 2 = Value.pointer (some ⟨l, 0, none⟩) ∧ f' 3 = Value.pointer (some ⟨m, 0, none⟩) ∧ f' 15 = Value.slice (some ⟨aq, 0, none⟩) 2 2 ∧ f' 16 = Vi (([false, true].length : Int))) s') ?_ ?_
 ·refine W_block (W_forC (fun k' s' f' w' => (fun (_ : Unit) => ∃ (bv : PHeap) , PHeap.le a9 bv ∧ St w0 bv (Res.box l 59 [Value.string (a.Name), Vi (a.Duration), q, t, u, x, y] :: Res.box m 59 [Value.string (b.Name), Vi (b.Duration), z, aa, ab, ac, ad] :: H) w' ∧ f' 2 = Value.pointer (some ⟨l, 0, none⟩) ∧ f' 3 = Value.pointer (some ⟨m, 0, none⟩) ∧ f' 15 = Value.slice (some ⟨aq, 0, none⟩) 2 2 ∧ f' 16 = Vi (([false, true].length : Int)) ∧ f' 17 = Vi (k' : Int)) s') b8 ?_ ?_ ?_)
  ·have bQ := (bP).f1
   exact ⟨a9, (Zv _), bQ, rfl, rfl, rfl, rfl, rfl⟩
  ·intro a6 el aQ dI e1 cj bB al cw
   obtain ⟨eg, n, aV, c9, cA, bg, bh, aE⟩ := bB
   refine Zc (Zd (Za rfl rfl (Zq rfl aE bh (Zb (Ze (Zc (W_true (Zx (decide_eq_true (by omega))) (W_skip (Ze (Zc (W_block (Zc (Zd ?_)))))))))))))
   obtain ⟨az, dd, al⟩ := Zg al
   refine Za rfl rfl (Exec.index_rep S91 rfl bg aE (an.mono n) dd ?_)
   intro d4 dS b5
   refine Za rfl rfl (Zw (E := encBool) aV A4 rfl rfl rfl b5 ?_)
   intro ev de
   obtain rfl := encBool_val.1 de
   refine Za rfl rfl (Zo (v := Value.bool (az)) rfl rfl (Zb (Ze (Zc (Zd (Za rfl rfl (Exec.buildSlice (Te := 4) (cs := [Value.bool (false), Value.bool (true)]) aV rfl (parts_cons (c := [Value.bool (false)]) (cells_of rfl rfl) (parts_cons (c := [Value.bool (true)]) (cells_of rfl rfl) parts_nil)) (fun _ => by kernel_rfl) ?_)))))))
   intro aO e2 bR
   have bS := St.boxArr (E := encBool) (xs := [false, true]) bR ⟨[Value.bool (false)], [Value.bool (true)], rfl, rfl, ⟨[Value.bool (true)], [], rfl, rfl, rfl⟩⟩ (by simp [maxLen])
   obtain ⟨aA, o, bT, br⟩ := bS.freezeArr
   refine Za rfl rfl (Zr S91 rfl rfl br (Za rfl rfl (Zm (v := Vi (0)) rfl rfl (Zb (Ze ?_)))))
   obtain ⟨aR, b9, cu, cn, ch⟩ := ctl_some al
   refine W_mid (M := fun f' w' => ∃ s', (aR = .next s' ∨ aR = .brk s') ∧ (fun (_ : Unit) => ∃ (bw : PHeap) , PHeap.le aA bw ∧ St w0 bw (Res.box l 59 [Value.string (a.Name), Vi (a.Duration), q, t, u, x, y] :: Res.box m 59 [Value.string (b.Name), Vi (b.Duration), z, aa, ab, ac, ad] :: H) w' ∧ f' 2 = Value.pointer (some ⟨l, 0, none⟩) ∧ f' 3 = Value.pointer (some ⟨m, 0, none⟩) ∧ f' 6 = Value.bool (az) ∧ f' 15 = Value.slice (some ⟨aq, 0, none⟩) 2 2 ∧ f' 16 = Vi (([false, true].length : Int)) ∧ f' 17 = Vi ((a6 : Int)) ∧ f' 21 = Value.slice (some ⟨aO, 0, none⟩) 2 2 ∧ f' 22 = Vi (([false, true].length : Int))) s') ?_ ?_
   ·refine W_block (W_forC (fun k' s' f' w' => (fun (_ : Unit) => ∃ (bx : PHeap) , PHeap.le aA bx ∧ St w0 bx (Res.box l 59 [Value.string (a.Name), Vi (a.Duration), q, t, u, x, y] :: Res.box m 59 [Value.string (b.Name), Vi (b.Duration), z, aa, ab, ac, ad] :: H) w' ∧ f' 2 = Value.pointer (some ⟨l, 0, none⟩) ∧ f' 3 = Value.pointer (some ⟨m, 0, none⟩) ∧ f' 6 = Value.bool (az) ∧ f' 15 = Value.slice (some ⟨aq, 0, none⟩) 2 2 ∧ f' 16 = Vi (([false, true].length : Int)) ∧ f' 17 = Vi ((a6 : Int)) ∧ f' 21 = Value.slice (some ⟨aO, 0, none⟩) 2 2 ∧ f' 22 = Vi (([false, true].length : Int)) ∧ f' 23 = Vi (k' : Int)) s') b9 ?_ ?_ ?_)
    ·have bU := (bT).f1
     exact ⟨aA, (Zv _), (bU).f1, c9, cA, rfl, bg, bh, aE, rfl, rfl, rfl⟩
    ·intro c2 em aS dJ e3 ck bC af cx
     obtain ⟨eh, p, ar, bi, bj, bk, cB, cC, cD, bl, bm, aF⟩ := bC
     refine Zc (Zd (Za rfl rfl (Zq rfl aF bm (Zb (Ze (Zc (W_true (Zx (decide_eq_true (by omega))) (W_skip (Ze (Zc (W_block (Zc (Zd ?_)))))))))))))
     obtain ⟨b4, df, af⟩ := Zg af
     refine Za rfl rfl (Exec.index_rep S91 rfl bl aF (br.mono p) df ?_)
     intro d5 dT b6
     refine Za rfl rfl (Zw (E := encBool) ar A4 rfl rfl rfl b6 ?_)
     intro ew dg
     obtain rfl := encBool_val.1 dg
     refine Za rfl rfl (Zo (v := Value.bool (b4)) rfl rfl (Zb (Ze (Zc (Zd (Za rfl rfl (Exec.load_box_agg (ds := [Value.string (a.Name), Vi (a.Duration), q, t, u, x, y]) (ar) A59 rfl bi rfl (Za rfl rfl (Zm (v := Value.bool (az)) rfl bk (Za rfl rfl (Exec.load_box_agg (ds := [Value.string (b.Name), Vi (b.Duration), z, aa, ab, ac, ad]) ((ar).f1) A59 rfl bj rfl (Za rfl rfl (Zm (v := Value.bool (b4)) rfl rfl ?_)))))))))))))
     obtain ⟨eI, dh, af⟩ := Zg af
     refine Za rfl rfl (Tc rfl rfl rfl (Zi rfl (Zi rfl (Zi rfl (Zi rfl args_nil)))) (simulate_meeting_sim dh ar (aG.mono (Zt (Zt (Zt d n) o) p)) (a1.mono (Zt (Zt (Zt d n) o) p)) (aH.mono (Zt (Zt (Zt d n) o) p)) (aI.mono (Zt (Zt (Zt d n) o) p)) (aJ.mono (Zt (Zt (Zt d n) o) p)) (aK.mono (Zt (Zt (Zt d n) o) p)) (a2.mono (Zt (Zt (Zt d n) o) p)) (aL.mono (Zt (Zt (Zt d n) o) p)) (aM.mono (Zt (Zt (Zt d n) o) p)) (aN.mono (Zt (Zt (Zt d n) o) p))).r ?_)
     rintro _ e4 ⟨bz, be, aW, rfl⟩
     refine Za rfl rfl (Exec.geq rfl rfl rfl (Zb (Ze ?_)))
     rcases ite_some af with ⟨aj, af⟩ | ⟨aj, af⟩
     ·refine W_cond_t rfl aj (Zc (Zd (Za rfl rfl (Zo (v := Value.bool (true)) rfl rfl (Zb (Ze (W_ret (ib_ret (at_ret (at_ret (ib_ret (at_ret (ib_ret (at_ret (at_ret (ib_ret (at_ret (at_ret ?_))))))))))))))))))
      have d7 := Zu af
      subst aS
      have cp := cu _ (cx (by intro _ h; cases h))
      have d8 := Zu cp
      subst aQ
      have cq := ct _ (cw (by intro _ h; cases h))
      have d9 := Zu cq
      subst r
      refine ⟨_, ret1 rfl, ?_⟩
      exact ⟨bz, (Zt (Zt (Zt (Zt d n) o) p) be), ((aW).drop).drop, rfl⟩
     refine W_cond_f rfl aj ?_
     replace aj := Zk aj
     refine W_skip (ib_normal (Ze (Zd (Za rfl rfl (Exec.add rfl aF rfl (Za rfl rfl (Zm (v := Vi (IntKind.i64.wrap ((c2 : Int) + 1))) rfl rfl (Zb (Ze ?_)))))))))
     have dA := Zu af
     subst aS
     refine ⟨_, rfl, ?_⟩; exact ⟨bz, (Zt p be), ((aW).f1).f1, bi, bj, bk, cB, cC, cD, bl, bm, (Eq.trans rfl (wrap_up ck (SliceRep.le (an.mono (Zt n o)))))⟩
    intro en dK e5 bD cy
    obtain ⟨dp, c3, bV, cE, cF, cG, cH, cI, cJ, cK, bn, dy⟩ := bD
    refine Zc (Zd (Za rfl rfl (Zq rfl dy bn (Zb (Ze (Zc (W_false (Zx (decide_eq_false (by omega))) (W_exit (at_exit (at_exit (ib_here (Ze ?_))))))))))))
    refine ⟨_, .inl cy, ?_⟩; exact ⟨dp, c3, ((bV).f1).f1, cE, cF, cG, cH, cI, cJ, cK, bn⟩
   rintro dL e6 ⟨eo, ba, bH⟩
   have al := ba.elim (cn _) (ch _)
   clear ba
   obtain ⟨dq, c4, bW, cL, cM, dV, cN, cO, cP, dW, dX⟩ := bH
   refine (ib_normal (Ze (Zd (Za rfl rfl (Exec.add rfl cP rfl (Za rfl rfl (Zm (v := Vi (IntKind.i64.wrap ((a6 : Int) + 1))) rfl rfl (Zb (Ze ?_)))))))))
   have dB := Zu al
   subst aQ
   refine ⟨_, rfl, ?_⟩; exact ⟨dq, (Zt (Zt n o) c4), ((bW).f1).f1, cL, cM, cN, cO, (Eq.trans rfl (wrap_up cj (SliceRep.le an)))⟩
  intro ep dM e7 bE cz
  obtain ⟨dr, c5, bX, cQ, cR, cS, bo, dz⟩ := bE
  refine Zc (Zd (Za rfl rfl (Zq rfl dz bo (Zb (Ze (Zc (W_false (Zx (decide_eq_false (by omega))) (W_exit (at_exit (at_exit (ib_here (Ze ?_))))))))))))
  refine ⟨_, .inl cz, ?_⟩; exact ⟨dr, c5, ((bX).f1).f1, cQ, cR, cS, bo⟩
 rintro dN e8 ⟨er, bb, bI⟩
 have hm := bb.elim (cm _) (cg _)
 clear bb
 obtain ⟨ei, g, bY, cT, cU, dY, dZ⟩ := bI
 refine (Ze (Zc (Zc (Zd (Za rfl rfl (Exec.buildSlice (Te := 4) (cs := [Value.bool (false), Value.bool (true)]) bY rfl (parts_cons (c := [Value.bool (false)]) (cells_of rfl rfl) (parts_cons (c := [Value.bool (true)]) (cells_of rfl rfl) parts_nil)) (fun _ => by kernel_rfl) ?_))))))
 intro a3 e9 bZ
 have ca := St.boxArr (E := encBool) (xs := [false, true]) bZ ⟨[Value.bool (false)], [Value.bool (true)], rfl, rfl, ⟨[Value.bool (true)], [], rfl, rfl, rfl⟩⟩ (by simp [maxLen])
 obtain ⟨aB, i, cb, bs⟩ := ca.freezeArr
 refine Za rfl rfl (Zr S91 rfl rfl bs (Za rfl rfl (Zm (v := Vi (0)) rfl rfl (Zb (Ze ?_)))))
 obtain ⟨aT, bA, cv, co, ci⟩ := ctl_some hm
 refine W_mid (M := fun f' w' => ∃ s', (aT = .next s' ∨ aT = .brk s') ∧ (fun (_ : Unit) => ∃ (b0 : PHeap) , PHeap.le aB b0 ∧ St w0 b0 (Res.box l 59 [Value.string (a.Name), Vi (a.Duration), q, t, u, x, y] :: Res.box m 59 [Value.string (b.Name), Vi (b.Duration), z, aa, ab, ac, ad] :: H) w' ∧ f' 2 = Value.pointer (some ⟨l, 0, none⟩) ∧ f' 3 = Value.pointer (some ⟨m, 0, none⟩) ∧ f' 35 = Value.slice (some ⟨a3, 0, none⟩) 2 2 ∧ f' 36 = Vi (([false, true].length : Int))) s') ?_ ?_
 ·refine W_block (W_forC (fun k' s' f' w' => (fun (_ : Unit) => ∃ (b1 : PHeap) , PHeap.le aB b1 ∧ St w0 b1 (Res.box l 59 [Value.string (a.Name), Vi (a.Duration), q, t, u, x, y] :: Res.box m 59 [Value.string (b.Name), Vi (b.Duration), z, aa, ab, ac, ad] :: H) w' ∧ f' 2 = Value.pointer (some ⟨l, 0, none⟩) ∧ f' 3 = Value.pointer (some ⟨m, 0, none⟩) ∧ f' 35 = Value.slice (some ⟨a3, 0, none⟩) 2 2 ∧ f' 36 = Vi (([false, true].length : Int)) ∧ f' 37 = Vi (k' : Int)) s') bA ?_ ?_ ?_)
  ·have cc := (cb).f1
   exact ⟨aB, (Zv _), (cc).f1, cT, cU, rfl, rfl, rfl⟩
  ·intro bd es aU dO eA cl bF ag c0
   obtain ⟨ej, j, a4, av, aw, a7, a8, a0⟩ := bF
   refine Zc (Zd (Za rfl rfl (Zq rfl a0 a8 (Zb (Ze (Zc (W_true (Zx (decide_eq_true (by omega))) (W_skip (Ze (Zc (W_block (Zc (Zd ?_)))))))))))))
   obtain ⟨ao, di, ag⟩ := Zg ag
   refine Za rfl rfl (Exec.index_rep S91 rfl a7 a0 (bs.mono j) di ?_)
   intro d6 dU b7
   refine Za rfl rfl (Zw (E := encBool) a4 A4 rfl rfl rfl b7 ?_)
   intro ex dj
   obtain rfl := encBool_val.1 dj
   refine Za rfl rfl (Zo (v := Value.bool (ao)) rfl rfl (Zb (Ze (Zc (Zd (Za rfl rfl (Exec.load_box_agg (ds := [Value.string (a.Name), Vi (a.Duration), q, t, u, x, y]) (a4) A59 rfl av rfl (Za rfl rfl (Zm (v := Value.bool (ao)) rfl rfl (Za rfl rfl (Tc rfl rfl rfl (Zi rfl (Zi rfl args_nil)) (simulate_happening_sim (simulate_happening_tot a ao) a4 (aG.mono (Zt (Zt (Zt d g) i) j)) (a1.mono (Zt (Zt (Zt d g) i) j)) (aH.mono (Zt (Zt (Zt d g) i) j)) (aI.mono (Zt (Zt (Zt d g) i) j)) (aJ.mono (Zt (Zt (Zt d g) i) j))).r ?_)))))))))))
   rintro _ eB ⟨ek, aC, ax, ai, aX, rfl, ee, dm⟩
   refine Za rfl rfl (Zm (v := Value.tuple #[aC, ax]) rfl rfl (Za rfl rfl (Exec.extract (v := aC) rfl rfl rfl (Za rfl rfl (Exec.extract (v := ax) rfl rfl rfl (Za rfl rfl (Zo (v := aC) rfl rfl (Za rfl rfl (Zo (v := ax) rfl rfl (Zb (Ze (Zc (Zd (Za rfl rfl (Exec.load_box_agg (ds := [Value.string (b.Name), Vi (b.Duration), z, aa, ab, ac, ad]) ((aX).f1) A59 rfl aw rfl (Za rfl rfl (Zm (v := Value.bool (ao)) rfl rfl (Za rfl rfl (Tc rfl rfl rfl (Zi rfl (Zi rfl args_nil)) (simulate_happening_sim (simulate_happening_tot b ao) aX (aK.mono (Zt (Zt (Zt (Zt d g) i) j) ai)) (a2.mono (Zt (Zt (Zt (Zt d g) i) j) ai)) (aL.mono (Zt (Zt (Zt (Zt d g) i) j) ai)) (aM.mono (Zt (Zt (Zt (Zt d g) i) j) ai)) (aN.mono (Zt (Zt (Zt (Zt d g) i) j) ai))).r ?_)))))))))))))))))))
   rintro _ eC ⟨dt, aD, ay, am, aY, rfl, ef, dn⟩
   refine Za rfl rfl (Zm (v := Value.tuple #[aD, ay]) rfl rfl (Za rfl rfl (Exec.extract (v := aD) rfl rfl rfl (Za rfl rfl (Exec.extract (v := ay) rfl rfl rfl (Za rfl rfl (Zo (v := aD) rfl rfl (Za rfl rfl (Zo (v := ay) rfl rfl (Zb (Ze (Zc ?_))))))))))))
   obtain ⟨ap, ah, ag⟩ := Zg ag
   refine W_mid (M := fun f' w' => (fun (ap : Bool) => ∃ (b2 : PHeap) , PHeap.le dt b2 ∧ St w0 b2 (Res.box l 59 [Value.string (a.Name), Vi (a.Duration), q, t, u, x, y] :: Res.box m 59 [Value.string (b.Name), Vi (b.Duration), z, aa, ab, ac, ad] :: H) w' ∧ f' 2 = Value.pointer (some ⟨l, 0, none⟩) ∧ f' 3 = Value.pointer (some ⟨m, 0, none⟩) ∧ f' 35 = Value.slice (some ⟨a3, 0, none⟩) 2 2 ∧ f' 36 = Vi (([false, true].length : Int)) ∧ f' 37 = Vi ((bd : Int)) ∧ f' 64 = Value.bool (ap)) ap) ?_ ?_
   ·refine Zd (Za rfl rfl (Zm (v := ax) rfl rfl (Za rfl rfl (Zp F59_3 rfl aw rfl (Za rfl rfl (Zn ((aY).f1) A23 rfl rfl rfl ?_))))))
    obtain ⟨d2, dk, ah⟩ := Zg ah
    refine Za rfl rfl (Tc rfl rfl rfl (Zi rfl (Zi rfl args_nil)) (simulate_shared_sim dk aY (dm.mono am) (a2.mono (Zt (Zt (Zt (Zt (Zt d g) i) j) ai) am))).r ?_)
    rintro _ eD ⟨du, au, a5, rfl⟩
    refine Za rfl rfl (Exec.geq rfl rfl rfl (Za rfl rfl (Zm (v := Value.bool (decide (0 ≤ d2))) rfl rfl ?_)))
    rcases ite_some ah with ⟨ae, ah⟩ | ⟨ae, ah⟩
    ·refine WL_passes 6 (by rw [ae]; rfl) ?_
     refine Zb (Ze ?_)
     have dC := Zu ah
     subst ap
     exact ⟨du, au, ((a5).f1).f1, av, aw, a7, a8, a0, rfl⟩
    replace ae := Zk ae
    refine WL_run rfl (Zf rfl (Zx ae)) rfl (Zm (v := ay) rfl rfl (WL_run rfl (Zf rfl (Zx ae)) rfl (Zp F59_3 rfl av rfl (WL_run rfl (Zf rfl (Zx ae)) rfl (Zn (a5) A23 rfl rfl rfl ?_)))))
    obtain ⟨d3, dl, ah⟩ := Zg ah
    refine WL_run rfl (Zf rfl (Zx ae)) rfl (Tc rfl rfl rfl (Zi rfl (Zi rfl args_nil)) (simulate_shared_sim dl a5 (dn.mono au) (a1.mono (Zt (Zt (Zt (Zt (Zt (Zt d g) i) j) ai) am) au))).r ?_)
    rintro _ eE ⟨dv, c6, cd, rfl⟩
    refine WL_run rfl (Zf rfl (Zx ae)) rfl (Exec.geq rfl rfl rfl (Za rfl rfl (Exec.pick_f (v := Value.bool (decide (0 ≤ d3))) rfl (Zx ae) rfl (Zb (Ze ?_)))))
    have dD := Zu ah
    subst ap
    exact ⟨dv, (Zt au c6), ((cd).f1).f1, av, aw, a7, a8, a0, rfl⟩
   intro dP eF bJ
   obtain ⟨b3, bf, aZ, cV, cW, cX, cY, cZ, bp⟩ := bJ
   refine (Ze ?_)
   rcases ite_some ag with ⟨ak, ag⟩ | ⟨ak, ag⟩
   ·refine W_cond_t bp ak (Zc (Zd (Za rfl rfl (Zo (v := Value.bool (true)) rfl rfl (Zb (Ze (W_ret (ib_ret (at_ret (at_ret (ib_ret (at_ret (at_ret ?_)))))))))))))
    have dE := Zu ag
    subst aU
    have cr := cv _ (c0 (by intro _ h; cases h))
    have dF := Zu cr
    subst r
    refine ⟨_, ret1 rfl, ?_⟩
    exact ⟨b3, (Zt (Zt (Zt (Zt (Zt (Zt d g) i) j) ai) am) bf), ((aZ).drop).drop, rfl⟩
   refine W_cond_f bp ak ?_
   replace ak := Zk ak
   refine W_skip (ib_normal (Ze (Zd (Za rfl rfl (Exec.add rfl cZ rfl (Za rfl rfl (Zm (v := Vi (IntKind.i64.wrap ((bd : Int) + 1))) rfl rfl (Zb (Ze ?_)))))))))
   have dG := Zu ag
   subst aU
   refine ⟨_, rfl, ?_⟩; exact ⟨b3, (Zt (Zt (Zt j ai) am) bf), ((aZ).f1).f1, cV, cW, cX, cY, (Eq.trans rfl (wrap_up cl (SliceRep.le (an.mono (Zt g i)))))⟩
  intro et dQ eG bG c1
  obtain ⟨dw, c7, ce, da, db, dc, bq, d0⟩ := bG
  refine Zc (Zd (Za rfl rfl (Zq rfl d0 bq (Zb (Ze (Zc (W_false (Zx (decide_eq_false (by omega))) (W_exit (at_exit (at_exit (ib_here (Ze ?_))))))))))))
  refine ⟨_, .inl c1, ?_⟩; exact ⟨dw, c7, ((ce).f1).f1, da, db, dc, bq⟩
 rintro dR eH ⟨eu, bc, bK⟩
 have hm := bc.elim (co _) (ci _)
 clear bc
 obtain ⟨dx, c8, cf, ea, eb, ec, ed⟩ := bK
 refine (Ze (Zc (Zd (Za rfl rfl (Zo (v := Value.bool (false)) rfl rfl (Zb (Ze (W_ret ?_))))))))
 have dH := Zu hm
 subst r
 refine ⟨_, ret1 rfl, ?_⟩
 exact ⟨dx, (Zt (Zt (Zt d g) i) c8), ((cf).drop).drop, rfl⟩
theorem S54 : tySlice Tryz.prog 54 = some (60, 2, 16) := by kernel_rfl
theorem Z60 : tyZero Tryz.prog 60 = some (Value.agg #[Vi (0), Vi (0)]) := by kernel_rfl
theorem simulate_Conflicts_sim {w0 w : World} {s : PHeap} {H : List Res} {g : Temporal} {j : Value} {l : Value} {m : Value} {n : Value} {r : (List Arr2_int) × (Option Int)} (hm : simulate_Conflicts_p g = some r) (hS : St w0 s (H) w) (aC : SliceRep (encInt .i64) s j g.Vars) (aD : SliceRep (encInt .i64) s l g.Init) (aE : SliceRep encFact s m g.Goal) (u : SliceRep encJob s n g.Jobs) :
  Calls Tryz.prog 12 #[Value.agg #[j, l, m, n]] w fun e w' => ∃ v, e = .returned v ∧ ((un2 fun (bL : (List Arr2_int)) (bM : (Option Int)) => ∃ (aq : PHeap) (aA : Value), PHeap.le s aq ∧ St w0 aq (H) w' ∧ v = Value.tuple #[aA, errV 77 (bM)] ∧ SliceRep encArr2_int aq aA bL) r) := by
 unfold simulate_Conflicts_p at hm
 refine calls_of_W Tryz.func12 rfl rfl (Zc (Zd (Za rfl rfl (Exec.box (cs := [j, l, m, n]) hS rfl rfl rfl ?_))))
 intro i cz a0
 refine Za rfl rfl (Zo (v := Value.slice none 0 0) rfl rfl (Za rfl rfl (Zo (v := errV 77 (none)) rfl rfl (Zb (Ze (Zc (Zc (Zd (Za rfl rfl (Exec.load_box_agg (ds := [j, l, m, n]) (a0) A26 rfl rfl rfl ?_))))))))))
 obtain ⟨ak, bu, hm⟩ := Zg hm
 refine Za rfl rfl (Tc rfl rfl rfl (Zi rfl args_nil) (temporal_Check_sim bu a0 aC aD aE u).r ?_)
 rintro _ c0 ⟨ar, t, al, rfl⟩
 refine Za rfl rfl (Zo (v := errV 77 (ak)) rfl rfl (Zb (Ze (Zc (Zd (Za rfl rfl (Zm (v := errV 77 (ak)) rfl rfl (Za rfl rfl (Exec.err_neq_nil (T := 77) Tryz.underlying36 rfl rfl rfl (Zb (Ze ?_)))))))))))
 rcases ite_some hm with ⟨aa, hm⟩ | ⟨aa, hm⟩
 ·refine W_cond_t rfl aa (Zc (Zd (Za rfl rfl (Zm (v := errV 77 (ak)) rfl rfl (Za rfl rfl (Zo (v := Value.slice none 0 0) rfl rfl (Za rfl rfl (Zo (v := errV 77 (ak)) rfl rfl (Zb (Ze (W_ret (at_ret ?_))))))))))))
  have bQ := Zu hm
  subst r
  refine ⟨_, ret2 rfl, ?_⟩
  exact ⟨ar, (Value.slice none 0 0), t, (al).drop, (tup2 rfl rfl), (SliceRep.nil _ _)⟩
 refine W_cond_f rfl aa ?_
 replace aa := Zk aa
 refine W_skip (Ze (Zc (Zd (Za rfl rfl (Zo (v := Value.slice none 0 0) rfl rfl (Zb (Ze (Zc (Zc (Zd (Za rfl rfl (Zp F26_3 rfl rfl rfl (Za rfl rfl (Zn (al) A24 rfl rfl rfl (Za rfl rfl (Zr S24 rfl rfl (u.mono t) (Za rfl rfl (Zm (v := Vi (0)) rfl rfl (Zb (Ze ?_))))))))))))))))))))
 obtain ⟨am, aH, hm⟩ := Zg hm
 refine W_block (W_forS (fun k' s' f' w' => (fun (am : (List Arr2_int)) => ∃ (a6 : PHeap) (o : Value), PHeap.le ar a6 ∧ St w0 a6 (Res.box i 26 [j, l, m, n] :: Res.arr encArr2_int 60 o am :: H) w' ∧ f' 1 = Value.pointer (some ⟨i, 0, none⟩) ∧ f' 5 = o ∧ f' 15 = Vi ((g.Jobs.length : Int)) ∧ f' 16 = Vi (k' : Int)) s') aH ?_ ?_ ?_)
 ·have aO := al.nilArr encArr2_int 60
  exact ⟨ar, (Value.slice none 0 0), (Zv _), (aO).f1, rfl, rfl, rfl, rfl⟩
 ·intro a am bD bZ c1 aY aJ ad
  obtain ⟨au, o, ah, aP, bg, bh, a5, aw⟩ := aJ
  refine Zc (Zd (Za rfl rfl (Zq rfl aw a5 (Zb (Ze (Zc (W_true (Zx (decide_eq_true (by omega))) (W_skip (Ze (Zc (W_block (Zc (Zd (Za rfl rfl (Zm (v := Vi ((a : Int))) rfl aw (Za rfl rfl (Zo (v := Vi ((a : Int))) rfl rfl (Zb (Ze (Zc (Zd (Za rfl rfl (Zm (v := Vi ((a : Int))) rfl rfl (Za rfl rfl (Exec.add rfl rfl rfl (Za rfl rfl (Zo (v := Vi (IntKind.i64.wrap ((a : Int) + 1))) rfl rfl (Zb (Ze ?_)))))))))))))))))))))))))))))
  obtain ⟨ay, aI, ce, aZ, aX⟩ := ctl_some ad
  refine W_mid (M := fun f' w' => ∃ s', (ay = .next s' ∨ ay = .brk s') ∧ (un2 fun (ax : Int) (a3 : (List Arr2_int)) => ∃ (a7 : PHeap) (ai : Value), PHeap.le au a7 ∧ St w0 a7 (Res.box i 26 [j, l, m, n] :: Res.arr encArr2_int 60 ai a3 :: H) w' ∧ f' 1 = Value.pointer (some ⟨i, 0, none⟩) ∧ f' 5 = ai ∧ f' 6 = Vi ((a : Int)) ∧ f' 7 = Vi (ax) ∧ f' 15 = Vi ((g.Jobs.length : Int)) ∧ f' 16 = Vi ((a : Int))) s') ?_ ?_
  ·refine W_block (W_while (fun s' f' w' => (un2 fun (b : Int) (a4 : (List Arr2_int)) => ∃ (a8 : PHeap) (z : Value), PHeap.le au a8 ∧ St w0 a8 (Res.box i 26 [j, l, m, n] :: Res.arr encArr2_int 60 z a4 :: H) w' ∧ f' 1 = Value.pointer (some ⟨i, 0, none⟩) ∧ f' 5 = z ∧ f' 6 = Vi ((a : Int)) ∧ f' 7 = Vi (b) ∧ f' 15 = Vi ((g.Jobs.length : Int)) ∧ f' 16 = Vi ((a : Int))) s') aI ?_ ?_)
   ·have aQ := (aP).f1
    exact ⟨au, o, (Zv _), (aQ).f1, bg, bh, rfl, rfl, a5, aw⟩
   intro bI az ca c2 aK d ba
   obtain ⟨b, a4⟩ := bI
   replace d := un2_eq d
   obtain ⟨bE, z, ae, p, x, an, ag, y, ao, ap⟩ := aK
   refine Zc (Zc (Zd (Za rfl rfl (Zm (v := Vi (b)) rfl y (Za rfl rfl (Zp F26_3 rfl x rfl (Za rfl rfl (Zn (p) A24 rfl rfl rfl (Za rfl rfl (Zr S24 rfl rfl (u.mono (Zt (Zt t ah) ae)) (Za rfl rfl (Zq rfl rfl rfl (Zb (Ze ?_))))))))))))))
   rcases ite_some d with ⟨ab, d⟩ | ⟨ab, d⟩
   ·refine W_cond_t rfl ab (W_skip (Ze (Zc (W_block (Zc (W_dl (n0 := 11) (qs 0 10 (.e 10 [] .done)) hmix (by kernel_rfl) (by kernel_rfl) (DL_q rfl rfl (Zp F26_3 rfl x rfl ⟨rfl, ?_⟩))))))))
    refine DL_q rfl rfl (Zn (p.drew) A24 rfl rfl rfl ⟨rfl, ?_⟩)
    refine DL_q rfl rfl (Zm (v := Vi ((a : Int))) rfl ag ⟨rfl, ?_⟩)
    obtain ⟨c9, bv, d⟩ := Zg d
    refine DL_q rfl rfl (Exec.index_repE S24 rfl rfl rfl (u.mono (Zt (Zt t ah) ae)) bv ?_)
    intro bN cg aF bR
    refine ⟨rfl, ?_⟩
    refine DL_q rfl rfl (Zw (E := encJob) p.drew A59 rfl rfl rfl aF ?_)
    intro cx bw
    obtain ⟨cm, cn, co, cp, cq, rfl, b2, b3, b4, b5, b6⟩ := encJob_val.1 bw
    refine ⟨rfl, ?_⟩
    refine DL_q rfl rfl (Zp F26_3 rfl x rfl ⟨rfl, ?_⟩)
    refine DL_q rfl rfl (Zn (p.drew) A24 rfl rfl rfl ⟨rfl, ?_⟩)
    refine DL_q rfl rfl (Zm (v := Vi (b)) rfl y ⟨rfl, ?_⟩)
    obtain ⟨cA, bx, d⟩ := Zg d
    refine DL_q rfl rfl (Exec.index_repE S24 rfl rfl rfl (u.mono (Zt (Zt t ah) ae)) bx ?_)
    intro bO ch aG bS
    refine ⟨rfl, ?_⟩
    refine DL_q rfl rfl (Zw (E := encJob) p.drew A59 rfl rfl rfl aG ?_)
    intro cy bz
    obtain ⟨cr, ct, cu, cv, cw, rfl, b7, b8, b9, bA, bB⟩ := encJob_val.1 bz
    refine ⟨rfl, ?_⟩
    obtain ⟨cB, b0, d⟩ := Zg d
    refine DL_e rfl rfl (Tc rfl rfl rfl (Zi rfl (Zi rfl args_nil)) (simulate_conflict_sim b0 p.drew b2 b3 b4 b5 b6 b7 b8 b9 bA bB).r ?_)
    rintro _ c3 ⟨av, bb, a1, rfl⟩
    refine ⟨ag_nil, ?_⟩
    refine DL_done (Zb (Ze ?_))
    obtain ⟨af, q, d⟩ := Zg d
    refine W_mid (M := fun f' w' => (fun (af : (List Arr2_int)) => ∃ (a9 : PHeap) (aj : Value), PHeap.le av a9 ∧ St w0 a9 (Res.box i 26 [j, l, m, n] :: Res.arr encArr2_int 60 aj af :: H) w' ∧ f' 1 = Value.pointer (some ⟨i, 0, none⟩) ∧ f' 5 = aj ∧ f' 6 = Vi ((a : Int)) ∧ f' 7 = Vi (b) ∧ f' 15 = Vi ((g.Jobs.length : Int)) ∧ f' 16 = Vi ((a : Int))) af) ?_ ?_
    ·rcases ite_some q with ⟨ac, q⟩ | ⟨ac, q⟩
     ·refine W_cond_t rfl ac (Zd (Za rfl rfl (Zm (v := z) rfl an (Za rfl rfl (Zm (v := Vi ((a : Int))) rfl ag (Za rfl rfl (Zm (v := Vi (b)) rfl y (Za rfl rfl (Exec.build rfl (parts_cons (c := [Vi ((a : Int))]) (cells_of rfl rfl) (parts_cons (c := [Vi (b)]) (cells_of rfl rfl) parts_nil)) (v := Value.agg #[Vi ((a : Int)), Vi (b)]) (fun _ => by kernel_rfl) (Za rfl rfl (Exec.buildSlice (Te := 60) (cs := [Vi ((a : Int)), Vi (b)]) a1 rfl (parts_cons (c := [Vi ((a : Int)), Vi (b)]) (cells_of rfl rfl) parts_nil) (fun _ => by kernel_rfl) ?_)))))))))))
      intro bP c4 aR
      obtain ⟨cf, b1, q⟩ := Zg q
      refine Za rfl rfl (Exec.append_box (E := encArr2_int) (ys := [(⟨(a : Int), b⟩ : Arr2_int)]) (aR).f2 S54 Z60 rfl (by decide) rfl rfl rfl rfl ⟨[Vi ((a : Int)), Vi (b)], [], rfl, ⟨[Vi ((a : Int))], [Vi (b)], rfl, rfl, rfl⟩, rfl⟩ rfl b1 ?_)
      intro aB c5 aS
      refine Za rfl rfl (Zo (v := aB) rfl rfl (Zb (Ze ?_)))
      have bT := Zu q
      subst af
      exact ⟨av, aB, (Zv _), (aS).f1, x, rfl, ag, y, ao, ap⟩
     refine W_cond_f rfl ac ?_
     replace ac := Zk ac
     refine W_skip (Ze ?_)
     have bU := Zu q
     subst af
     exact ⟨av, z, (Zv _), ((a1).f1).f1, x, an, ag, y, ao, ap⟩
    intro cb c6 aM
    obtain ⟨bF, aj, bc, aT, bi, bj, bk, bl, bm, bn⟩ := aM
    refine (ib_normal (Ze (Zd (Za rfl rfl (Zm (v := Vi (b)) rfl bl (Za rfl rfl (Exec.add rfl rfl rfl (Za rfl rfl (Zo (v := Vi (IntKind.i64.wrap (b + 1))) rfl rfl (Zb (Ze ?_)))))))))))
    have bV := Zu d
    subst az
    refine ⟨_, rfl, ?_⟩; exact ⟨bF, aj, (Zt (Zt ae bb) bc), ((aT).f1).f1, bi, bj, bk, rfl, bm, bn⟩
   refine W_cond_f rfl ab ?_
   replace ab := Zk ab
   refine W_exit (at_exit (at_exit (ib_here (Ze ?_))))
   have bW := Zu d
   subst az
   refine ⟨_, .inr (ba (by intro _ h; cases h)), ?_⟩; exact ⟨bE, z, ae, ((p).f1).f1, x, an, ag, y, ao, ap⟩
  rintro cc c7 ⟨bJ, a2, aN⟩
  have ad := a2.elim (aZ _) (aX _)
  clear a2
  obtain ⟨ax, a3⟩ := bJ
  replace ad := un2_eq ad
  obtain ⟨bG, ai, bd, aU, bo, bp, ci, cj, bq, br⟩ := aN
  refine (ib_normal (Ze (Zd (Za rfl rfl (Exec.add rfl br rfl (Za rfl rfl (Zm (v := Vi (IntKind.i64.wrap ((a : Int) + 1))) rfl rfl (Zb (Ze ?_)))))))))
  have bX := Zu ad
  subst bD
  exact ⟨bG, ai, (Zt ah bd), ((aU).f1).f1, bo, bp, bq, (Eq.trans rfl (wrap_up aY (SliceRep.le (u.mono t))))⟩
 intro cd c8 aL
 obtain ⟨cl, o, be, aV, ck, bs, bt, bK⟩ := aL
 refine Zc (Zd (Za rfl rfl (Zq rfl bK bt (Zb (Ze (Zc (W_false (Zx (decide_eq_false (by omega))) (W_exit (at_exit (at_exit (ib_here (Ze (Zc (Zd (Za rfl rfl (Zm (v := o) rfl bs (Za rfl rfl (Zo (v := o) rfl rfl (Za rfl rfl (Zo (v := errV 77 (none)) rfl rfl (Zb (Ze (W_ret ?_)))))))))))))))))))))))
 have bY := Zu hm
 subst r
 refine ⟨_, ret2 rfl, ?_⟩
 obtain ⟨bH, bf, aW, bC⟩ := (aV).f1.freezeArr
 exact ⟨bH, o, (Zt (Zt t be) bf), (aW).drop, (tup2 rfl rfl), bC⟩
theorem ref55_meet_sim {w0 w : World} {s : PHeap} {H : List Res} {g : (List Fact)} {m : (List Fact)} {d : Value} {a : Value} {r : Bool} (hm : ref55_meet_p g m = some r) (hS : St w0 s (H) w) (q : SliceRep encFact s d g) (t : SliceRep encFact s a m) :
  Calls Tryz.prog 67 #[d, a] w fun e w' => ∃ v, e = .returned v ∧ ((fun (b0 : Bool) => ∃ (ar : PHeap) , PHeap.le s ar ∧ St w0 ar (H) w' ∧ v = Value.bool (b0)) r) := by
 unfold ref55_meet_p at hm
 refine calls_of_W Tryz.func67 rfl rfl (Zc (Zd (Za rfl rfl (Zo (v := Value.bool (false)) rfl rfl (Zb (Ze (Zc (Zc (Zd (Za rfl rfl (Zm (v := d) rfl rfl (Za rfl rfl (Zr S23 rfl rfl q (Za rfl rfl (Zm (v := Vi (0)) rfl rfl (Zb (Ze ?_)))))))))))))))))
 obtain ⟨ab, a1, aO, aK, aG⟩ := ctl_some hm
 refine W_mid (M := fun f' w' => ∃ s', (ab = .next s' ∨ ab = .brk s') ∧ (fun (_ : Unit) => ∃ (au : PHeap) , PHeap.le s au ∧ St w0 au (H) w' ∧ f' 1 = a ∧ f' 9 = d ∧ f' 10 = Vi ((g.length : Int))) s') ?_ ?_
 ·refine W_block (W_forC (fun k' s' f' w' => (fun (_ : Unit) => ∃ (av : PHeap) , PHeap.le s av ∧ St w0 av (H) w' ∧ f' 1 = a ∧ f' 9 = d ∧ f' 10 = Vi ((g.length : Int)) ∧ f' 11 = Vi (k' : Int)) s') a1 ?_ ?_ ?_)
  ·exact ⟨s, (Zv _), hS, rfl, rfl, rfl, rfl⟩
  ·intro u bO ac bA bW aI a3 l aQ
   obtain ⟨y, i, af, aj, ak, al, z⟩ := a3
   refine Zc (Zd (Za rfl rfl (Zq rfl z al (Zb (Ze (Zc (W_true (Zx (decide_eq_true (by omega))) (W_skip (Ze (Zc (W_block (Zc (Zd ?_)))))))))))))
   obtain ⟨b, bp, l⟩ := Zg l
   refine Za rfl rfl (Exec.index_rep S23 rfl ak z (q.mono i) bp ?_)
   intro b1 bG az
   refine Za rfl rfl (Zw (E := encFact) af A75 rfl rfl rfl az ?_)
   intro bU bq
   obtain rfl := encFact_val.1 bq
   refine Za rfl rfl (Exec.alloc (cs := [Vi (0), Vi (0)]) af Z75 rfl rfl ?_)
   intro n bX a9
   refine Za rfl rfl (Exec.store_box (ds := [Vi (b.Var), Vi (b.Val)]) (es := [Vi (b.Var), Vi (b.Val)]) a9 A75 rfl rfl rfl rfl (Zj rfl (Zj rfl one_nil)) (Nat.le_of_ble_eq_true rfl) rfl ?_)
   intro bY aA
   refine Zb (Ze (Zc (Zd (Za rfl rfl (Zm (v := a) rfl aj (Za rfl rfl (Zr S23 rfl rfl (t.mono i) (Za rfl rfl (Zm (v := Vi (0)) rfl rfl (Zb (Ze ?_)))))))))))
   obtain ⟨ad, a2, aP, aL, aH⟩ := ctl_some l
   refine W_mid (M := fun f' w' => ∃ s', (ad = .next s' ∨ ad = .brk s') ∧ (fun (_ : Unit) => ∃ (aw : PHeap) , PHeap.le y aw ∧ St w0 aw (Res.box n 75 [Vi (b.Var), Vi (b.Val)] :: H) w' ∧ f' 1 = a ∧ f' 6 = Value.pointer (some ⟨n, 0, none⟩) ∧ f' 9 = d ∧ f' 10 = Vi ((g.length : Int)) ∧ f' 11 = Vi ((u : Int)) ∧ f' 15 = a ∧ f' 16 = Vi ((m.length : Int))) s') ?_ ?_
   ·refine W_block (W_forC (fun k' s' f' w' => (fun (_ : Unit) => ∃ (ax : PHeap) , PHeap.le y ax ∧ St w0 ax (Res.box n 75 [Vi (b.Var), Vi (b.Val)] :: H) w' ∧ f' 1 = a ∧ f' 6 = Value.pointer (some ⟨n, 0, none⟩) ∧ f' 9 = d ∧ f' 10 = Vi ((g.length : Int)) ∧ f' 11 = Vi ((u : Int)) ∧ f' 15 = a ∧ f' 16 = Vi ((m.length : Int)) ∧ f' 17 = Vi (k' : Int)) s') a2 ?_ ?_ ?_)
    ·exact ⟨y, (Zv _), aA, aj, rfl, ak, al, z, rfl, rfl, rfl⟩
    ·intro aU bP ae bB bZ aJ a4 c aR
     obtain ⟨ay, x, ag, aZ, am, ba, bb, bc, an, ao, aa⟩ := a4
     refine Zc (Zd (Za rfl rfl (Zq rfl aa ao (Zb (Ze (Zc (W_true (Zx (decide_eq_true (by omega))) (W_skip (Ze (Zc (W_block (Zc (Zd ?_)))))))))))))
     obtain ⟨p, br, c⟩ := Zg c
     refine Za rfl rfl (Exec.index_rep S23 rfl an aa (t.mono (Zt i x)) br ?_)
     intro b2 bH a0
     refine Za rfl rfl (Zw (E := encFact) ag A75 rfl rfl rfl a0 ?_)
     intro bV bs
     obtain rfl := encFact_val.1 bs
     refine Za rfl rfl (Exec.alloc (cs := [Vi (0), Vi (0)]) ag Z75 rfl rfl ?_)
     intro b3 ca aB
     refine Za rfl rfl (Exec.store_box (ds := [Vi (p.Var), Vi (p.Val)]) (es := [Vi (p.Var), Vi (p.Val)]) aB A75 rfl rfl rfl rfl (Zj rfl (Zj rfl one_nil)) (Nat.le_of_ble_eq_true rfl) rfl ?_)
     intro cb o
     refine Zb (Ze (Zc (Zd (Za rfl rfl (Zp F75_0 rfl am rfl (Za rfl rfl (Zn ((o).f1) A3 rfl rfl rfl (Za rfl rfl (Zp F75_0 rfl rfl rfl (Za rfl rfl (Zn (o) A3 rfl rfl rfl (Za rfl rfl (Exec.eql rfl rfl rfl (Zb (Ze ?_)))))))))))))))
     rcases ite_some c with ⟨j, c⟩ | ⟨j, c⟩
     ·refine W_cond_t rfl j (Zc (Zd (Za rfl rfl (Zo (v := Value.bool (true)) rfl rfl (Zb (Ze (W_ret (ib_ret (at_ret (at_ret (ib_ret (at_ret (ib_ret (at_ret (at_ret (ib_ret (at_ret (at_ret ?_))))))))))))))))))
      have b4 := Zu c
      subst ae
      have aM := aP _ (aR (by intro _ h; cases h))
      have b5 := Zu aM
      subst ac
      have aN := aO _ (aQ (by intro _ h; cases h))
      have b6 := Zu aN
      subst r
      refine ⟨_, ret1 rfl, ?_⟩
      exact ⟨ay, (Zt i x), ((o).drop).drop, rfl⟩
     refine W_cond_f rfl j ?_
     replace j := Zk j
     refine W_skip (ib_normal (Ze (Zd (Za rfl rfl (Exec.add rfl aa rfl (Za rfl rfl (Zm (v := Vi (IntKind.i64.wrap ((aU : Int) + 1))) rfl rfl (Zb (Ze ?_)))))))))
     have b7 := Zu c
     subst ae
     refine ⟨_, rfl, ?_⟩; exact ⟨ay, x, (o).drop, aZ, am, ba, bb, bc, an, ao, (Eq.trans rfl (wrap_up aJ (SliceRep.le (t.mono i))))⟩
    intro bQ bC cc a5 aS
    obtain ⟨bt, aV, aC, bd, be, bf, bg, bh, bi, ap, bx⟩ := a5
    refine Zc (Zd (Za rfl rfl (Zq rfl bx ap (Zb (Ze (Zc (W_false (Zx (decide_eq_false (by omega))) (W_exit (at_exit (at_exit (ib_here (Ze ?_))))))))))))
    refine ⟨_, .inl aS, ?_⟩; exact ⟨bt, aV, aC, bd, be, bf, bg, bh, bi, ap⟩
   rintro bD cd ⟨bR, ah, a7⟩
   have l := ah.elim (aL _) (aH _)
   clear ah
   obtain ⟨bu, aW, aD, bj, bI, bk, bl, bm, bJ, bK⟩ := a7
   refine (ib_normal (Ze (Zd (Za rfl rfl (Exec.add rfl bm rfl (Za rfl rfl (Zm (v := Vi (IntKind.i64.wrap ((u : Int) + 1))) rfl rfl (Zb (Ze ?_)))))))))
   have b8 := Zu l
   subst ac
   refine ⟨_, rfl, ?_⟩; exact ⟨bu, (Zt i aW), (aD).drop, bj, bk, bl, (Eq.trans rfl (wrap_up aI (SliceRep.le q)))⟩
  intro bS bE ce a6 aT
  obtain ⟨bv, aX, aE, bn, bo, aq, bz⟩ := a6
  refine Zc (Zd (Za rfl rfl (Zq rfl bz aq (Zb (Ze (Zc (W_false (Zx (decide_eq_false (by omega))) (W_exit (at_exit (at_exit (ib_here (Ze ?_))))))))))))
  refine ⟨_, .inl aT, ?_⟩; exact ⟨bv, aX, aE, bn, bo, aq⟩
 rintro bF cf ⟨bT, ai, a8⟩
 have hm := ai.elim (aK _) (aG _)
 clear ai
 obtain ⟨bw, aY, aF, bL, bM, bN⟩ := a8
 refine (Ze (Zc (Zd (Za rfl rfl (Zo (v := Value.bool (false)) rfl rfl (Zb (Ze (W_ret ?_))))))))
 have b9 := Zu hm
 subst r
 refine ⟨_, ret1 rfl, ?_⟩
 exact ⟨bw, aY, aF, rfl⟩
theorem ref55_Interfere_sim {w0 w : World} {s : PHeap} {H : List Res} {g : Job} {b : Job} {y : Bool} {n : Bool} {aa : Value} {ab : Value} {ac : Value} {ad : Value} {ae : Value} {o : Value} {p : Value} {t : Value} {u : Value} {x : Value} {r : Bool} (hm : ref55_Interfere_p g b y n = some r) (hS : St w0 s (H) w) (ai : SliceRep encFact s aa g.Start) (aj : SliceRep encFact s ab g.Over) (ak : SliceRep encFact s ac g.End) (al : SliceRep encFact s ad g.AtStart) (am : SliceRep encFact s ae g.AtEnd) (an : SliceRep encFact s o b.Start) (ao : SliceRep encFact s p b.Over) (ap : SliceRep encFact s t b.End) (aq : SliceRep encFact s u b.AtStart) (ar : SliceRep encFact s x b.AtEnd) :
  Calls Tryz.prog 36 #[Value.agg #[Value.string (g.Name), Vi (g.Duration), aa, ab, ac, ad, ae], Value.agg #[Value.string (b.Name), Vi (b.Duration), o, p, t, u, x], Value.bool (y), Value.bool (n)] w fun e w' => ∃ v, e = .returned v ∧ ((fun (aP : Bool) => ∃ (az : PHeap) , PHeap.le s az ∧ St w0 az (H) w' ∧ v = Value.bool (aP)) r) := by
 unfold ref55_Interfere_p at hm
 refine calls_of_W Tryz.func36 rfl rfl (Zc (Zd (Za rfl rfl (Exec.box (cs := [Value.string (g.Name), Vi (g.Duration), aa, ab, ac, ad, ae]) hS rfl rfl rfl ?_))))
 intro aR bk a3
 refine Za rfl rfl (Exec.box (cs := [Value.string (b.Name), Vi (b.Duration), o, p, t, u, x]) a3 rfl rfl rfl ?_)
 intro aS bl au
 refine Za rfl rfl (Zo (v := Value.bool (false)) rfl rfl (Zb (Ze (Zc ?_))))
 obtain ⟨af, i, hm⟩ := Zg hm
 refine W_mid (M := fun f' w' => (fun (af : Bool) => ∃ (a0 : PHeap) , PHeap.le s a0 ∧ St w0 a0 (H) w' ∧ f' 8 = Value.bool (af)) af) ?_ ?_
 ·refine W_dl (n0 := 25) (.q 0 (.q 1 (.q 3 (.q 4 (.e 2 [3, 4] (.e 5 [] (.e 6 [] (qs 7 3 (.q 11 (.q 12 (.e 10 [11, 12] (.e 13 [] (.e 14 [] (qs 15 4 (.q 20 (.q 21 (.e 19 [20, 21] (.e 22 [] (.e 23 [] (.q 24 .done)))))))))))))))))))) hmix (by kernel_rfl) (by kernel_rfl) (DL_q rfl rfl (Exec.load_box_agg (ds := [Value.string (g.Name), Vi (g.Duration), aa, ab, ac, ad, ae]) ((au.drew).f1) A59 rfl rfl rfl ⟨rfl, ?_⟩))
  refine DL_q rfl rfl (Zm (v := Value.bool (y)) rfl rfl ⟨rfl, ?_⟩)
  refine DL_q rfl rfl (Exec.load_box_agg (ds := [Value.string (b.Name), Vi (b.Duration), o, p, t, u, x]) (au.drew) A59 rfl rfl rfl ⟨rfl, ?_⟩)
  refine DL_q rfl rfl (Zm (v := Value.bool (n)) rfl rfl ⟨rfl, ?_⟩)
  refine DL_e rfl rfl (Tc rfl rfl rfl (Zi rfl (Zi rfl args_nil)) (ref55_Writes_sim (ref55_Writes_tot g y) au.drew ai aj ak al am).r ?_)
  rintro be bm ⟨aY, _, a, av, rfl, aF⟩
  refine ⟨(ag_cons (ag_r rfl rfl (Exec.load_box_agg (ds := [Value.string (b.Name), Vi (b.Duration), o, p, t, u, x]) (av) A59 rfl rfl rfl ⟨rfl, rfl⟩)) (ag_cons (ag_r rfl rfl (Zm (v := Value.bool (n)) rfl rfl ⟨rfl, rfl⟩)) ag_nil)), ?_⟩
  refine DL_e rfl rfl (Tc rfl rfl rfl (Zi rfl (Zi rfl args_nil)) (ref55_Reads_sim (ref55_Reads_tot b n) av (an.mono a) (ao.mono a) (ap.mono a) (aq.mono a) (ar.mono a)).r ?_)
  rintro bf bn ⟨aZ, _, c, a4, rfl, aG⟩
  refine ⟨ag_nil, ?_⟩
  obtain ⟨aQ, aC, i⟩ := Zg i
  refine DL_e rfl rfl (Tc rfl rfl rfl (Zi rfl (Zi rfl args_nil)) (ref55_meet_sim aC a4 (aF.mono c) aG).r ?_)
  rintro _ bo ⟨aL, d, ag, rfl⟩
  refine ⟨ag_nil, ?_⟩
  refine DL_q rfl rfl (Zm (v := Value.bool (aQ)) rfl rfl ⟨rfl, ?_⟩)
  rcases ite_some i with ⟨j, i⟩ | ⟨j, i⟩
  ·refine DL_passes 17 (by rw [j]; rfl) ?_
   refine DL_done (Za rfl rfl (Zo (v := Value.bool (true)) rfl rfl (Zb (Ze ?_))))
   have aT := Zu i
   subst af
   exact ⟨aL, (Zt (Zt a c) d), ((ag).drop).drop, rfl⟩
  replace j := Zk j
  refine DL_qg rfl rfl (Zf rfl (Zx j)) (Exec.load_box_agg (ds := [Value.string (g.Name), Vi (g.Duration), aa, ab, ac, ad, ae]) ((ag).f1) A59 rfl rfl rfl ⟨rfl, ?_⟩)
  refine DL_qg rfl rfl (Zf rfl (Zx j)) (Zm (v := Value.bool (y)) rfl rfl ⟨rfl, ?_⟩)
  refine DL_qg rfl rfl (Zf rfl (Zx j)) (Exec.load_box_agg (ds := [Value.string (b.Name), Vi (b.Duration), o, p, t, u, x]) (ag) A59 rfl rfl rfl ⟨rfl, ?_⟩)
  refine DL_qg rfl rfl (Zf rfl (Zx j)) (Zm (v := Value.bool (n)) rfl rfl ⟨rfl, ?_⟩)
  refine DL_eg rfl rfl (Zf rfl (Zx j)) (Tc rfl rfl rfl (Zi rfl (Zi rfl args_nil)) (ref55_Writes_sim (ref55_Writes_tot g y) ag (ai.mono (Zt (Zt a c) d)) (aj.mono (Zt (Zt a c) d)) (ak.mono (Zt (Zt a c) d)) (al.mono (Zt (Zt a c) d)) (am.mono (Zt (Zt a c) d))).r ?_)
  rintro bg bp ⟨ba, _, h, aw, rfl, aH⟩
  refine ⟨(ag_cons (ag_g rfl rfl (Zf rfl (Zx j)) (Exec.load_box_agg (ds := [Value.string (b.Name), Vi (b.Duration), o, p, t, u, x]) (aw) A59 rfl rfl rfl ⟨rfl, rfl⟩)) (ag_cons (ag_g rfl rfl (Zf rfl (Zx j)) (Zm (v := Value.bool (n)) rfl rfl ⟨rfl, rfl⟩)) ag_nil)), ?_⟩
  refine DL_eg rfl rfl (Zf rfl (Zx j)) (Tc rfl rfl rfl (Zi rfl (Zi rfl args_nil)) (ref55_Writes_sim (ref55_Writes_tot b n) aw (an.mono (Zt (Zt (Zt a c) d) h)) (ao.mono (Zt (Zt (Zt a c) d) h)) (ap.mono (Zt (Zt (Zt a c) d) h)) (aq.mono (Zt (Zt (Zt a c) d) h)) (ar.mono (Zt (Zt (Zt a c) d) h))).r ?_)
  rintro bh bq ⟨bb, _, l, a5, rfl, aI⟩
  refine ⟨ag_nil, ?_⟩
  obtain ⟨bw, aD, i⟩ := Zg i
  refine DL_eg rfl rfl (Zf rfl (Zx j)) (Tc rfl rfl rfl (Zi rfl (Zi rfl args_nil)) (ref55_meet_sim aD a5 (aH.mono l) aI).r ?_)
  rintro _ br ⟨aM, m, ah, rfl⟩
  refine ⟨ag_nil, ?_⟩
  refine DL_passes 2 (by rw [j]; rfl) ?_
  rcases ite_some i with ⟨k, i⟩ | ⟨k, i⟩
  ·refine DL_passes 8 (by rw [k]; rfl) ?_
   refine DL_done (Za rfl rfl (Zo (v := Value.bool (true)) rfl rfl (Zb (Ze ?_))))
   have aU := Zu i
   subst af
   exact ⟨aM, (Zt (Zt (Zt (Zt (Zt a c) d) h) l) m), ((ah).drop).drop, rfl⟩
  replace k := Zk k
  refine DL_qg rfl rfl (Zf rfl (Zx k)) (Exec.load_box_agg (ds := [Value.string (g.Name), Vi (g.Duration), aa, ab, ac, ad, ae]) ((ah).f1) A59 rfl rfl rfl ⟨rfl, ?_⟩)
  refine DL_qg rfl rfl (Zf rfl (Zx k)) (Zm (v := Value.bool (y)) rfl rfl ⟨rfl, ?_⟩)
  refine DL_qg rfl rfl (Zf rfl (Zx k)) (Exec.load_box_agg (ds := [Value.string (b.Name), Vi (b.Duration), o, p, t, u, x]) (ah) A59 rfl rfl rfl ⟨rfl, ?_⟩)
  refine DL_qg rfl rfl (Zf rfl (Zx k)) (Zm (v := Value.bool (n)) rfl rfl ⟨rfl, ?_⟩)
  refine DL_eg rfl rfl (Zf rfl (Zx k)) (Tc rfl rfl rfl (Zi rfl (Zi rfl args_nil)) (ref55_Reads_sim (ref55_Reads_tot g y) ah (ai.mono (Zt (Zt (Zt (Zt (Zt a c) d) h) l) m)) (aj.mono (Zt (Zt (Zt (Zt (Zt a c) d) h) l) m)) (ak.mono (Zt (Zt (Zt (Zt (Zt a c) d) h) l) m)) (al.mono (Zt (Zt (Zt (Zt (Zt a c) d) h) l) m)) (am.mono (Zt (Zt (Zt (Zt (Zt a c) d) h) l) m))).r ?_)
  rintro bi bs ⟨bc, _, z, ax, rfl, aJ⟩
  refine ⟨(ag_cons (ag_g rfl rfl (Zf rfl (Zx k)) (Exec.load_box_agg (ds := [Value.string (b.Name), Vi (b.Duration), o, p, t, u, x]) (ax) A59 rfl rfl rfl ⟨rfl, rfl⟩)) (ag_cons (ag_g rfl rfl (Zf rfl (Zx k)) (Zm (v := Value.bool (n)) rfl rfl ⟨rfl, rfl⟩)) ag_nil)), ?_⟩
  refine DL_eg rfl rfl (Zf rfl (Zx k)) (Tc rfl rfl rfl (Zi rfl (Zi rfl args_nil)) (ref55_Writes_sim (ref55_Writes_tot b n) ax (an.mono (Zt (Zt (Zt (Zt (Zt (Zt a c) d) h) l) m) z)) (ao.mono (Zt (Zt (Zt (Zt (Zt (Zt a c) d) h) l) m) z)) (ap.mono (Zt (Zt (Zt (Zt (Zt (Zt a c) d) h) l) m) z)) (aq.mono (Zt (Zt (Zt (Zt (Zt (Zt a c) d) h) l) m) z)) (ar.mono (Zt (Zt (Zt (Zt (Zt (Zt a c) d) h) l) m) z))).r ?_)
  rintro bj bt ⟨bd, _, ay, a6, rfl, aK⟩
  refine ⟨ag_nil, ?_⟩
  obtain ⟨a1, aE, i⟩ := Zg i
  refine DL_eg rfl rfl (Zf rfl (Zx k)) (Tc rfl rfl rfl (Zi rfl (Zi rfl args_nil)) (ref55_meet_sim aE a6 (aJ.mono ay) aK).r ?_)
  rintro _ bu ⟨aN, a9, a7, rfl⟩
  refine ⟨ag_nil, ?_⟩
  refine DL_q rfl rfl (Exec.pick_f (v := Value.bool (a1)) rfl (Zx k) rfl ⟨rfl, ?_⟩)
  refine DL_done (Za rfl rfl (Zo (v := Value.bool (a1)) rfl rfl (Zb (Ze ?_))))
  have aV := Zu i
  subst af
  exact ⟨aN, (Zt (Zt (Zt (Zt (Zt (Zt (Zt (Zt a c) d) h) l) m) z) ay) a9), ((a7).drop).drop, rfl⟩
 intro aX bv a2
 obtain ⟨aO, aA, a8, aB⟩ := a2
 refine (Ze (W_ret ?_))
 have aW := Zu hm
 subst r
 refine ⟨_, ret1 rfl, ?_⟩
 exact ⟨aO, aA, a8, aB⟩
theorem ref58_spoils_sim {w0 w : World} {s : PHeap} {H : List Res} {a : Job} {q : (List Fact)} {i : Value} {j : Value} {l : Value} {m : Value} {n : Value} {o : Value} {r : Bool} (hm : ref58_spoils_p a q = some r) (hS : St w0 s (H) w) (bc : SliceRep encFact s i a.Start) (bd : SliceRep encFact s j a.Over) (be : SliceRep encFact s l a.End) (aw : SliceRep encFact s m a.AtStart) (ax : SliceRep encFact s n a.AtEnd) (ab : SliceRep encFact s o q) :
  Calls Tryz.prog 37 #[Value.agg #[Value.string (a.Name), Vi (a.Duration), i, j, l, m, n], o] w fun e w' => ∃ v, e = .returned v ∧ ((fun (aZ : Bool) => ∃ (ap : PHeap) , PHeap.le s ap ∧ St w0 ap (H) w' ∧ v = Value.bool (aZ)) r) := by
 unfold ref58_spoils_p at hm
 refine calls_of_W Tryz.func37 rfl rfl (Zc (Zd (Za rfl rfl (Exec.box (cs := [Value.string (a.Name), Vi (a.Duration), i, j, l, m, n]) hS rfl rfl rfl ?_))))
 intro g b0 a4
 refine Za rfl rfl (Zo (v := Value.bool (false)) rfl rfl (Zb (Ze (Zc (Zc (Zd (Za rfl rfl (Zm (v := o) rfl rfl (Za rfl rfl (Zr S23 rfl rfl ab (Za rfl rfl (Zm (v := Vi (0)) rfl rfl (Zb (Ze ?_))))))))))))))
 obtain ⟨ag, az, aD, aB, a9⟩ := ctl_some hm
 refine W_mid (M := fun f' w' => ∃ s', (ag = .next s' ∨ ag = .brk s') ∧ (fun (_ : Unit) => ∃ (aq : PHeap) , PHeap.le s aq ∧ St w0 aq (Res.box g 59 [Value.string (a.Name), Vi (a.Duration), i, j, l, m, n] :: H) w' ∧ f' 2 = Value.pointer (some ⟨g, 0, none⟩) ∧ f' 7 = o ∧ f' 8 = Vi ((q.length : Int))) s') ?_ ?_
 ·refine W_block (W_forC (fun k' s' f' w' => (fun (_ : Unit) => ∃ (ar : PHeap) , PHeap.le s ar ∧ St w0 ar (Res.box g 59 [Value.string (a.Name), Vi (a.Duration), i, j, l, m, n] :: H) w' ∧ f' 2 = Value.pointer (some ⟨g, 0, none⟩) ∧ f' 7 = o ∧ f' 8 = Vi ((q.length : Int)) ∧ f' 9 = Vi (k' : Int)) s') az ?_ ?_ ?_)
  ·exact ⟨s, (Zv _), a4, rfl, rfl, rfl, rfl⟩
  ·intro al bv ah bn b1 aA a0 c aE
   obtain ⟨aT, t, ai, y, ae, af, z⟩ := a0
   refine Zc (Zd (Za rfl rfl (Zq rfl z af (Zb (Ze (Zc (W_true (Zx (decide_eq_true (by omega))) (W_skip (Ze (Zc (W_block (Zc (Zd ?_)))))))))))))
   obtain ⟨aa, aP, c⟩ := Zg c
   refine Za rfl rfl (Exec.index_rep S23 rfl ae z (ab.mono t) aP ?_)
   intro bf br ay
   refine Za rfl rfl (Zw (E := encFact) ai A75 rfl rfl rfl ay ?_)
   intro bz aQ
   obtain rfl := encFact_val.1 aQ
   refine Za rfl rfl (Exec.alloc (cs := [Vi (0), Vi (0)]) ai Z75 rfl rfl ?_)
   intro bg b2 a5
   refine Za rfl rfl (Exec.store_box (ds := [Vi (aa.Var), Vi (aa.Val)]) (es := [Vi (aa.Var), Vi (aa.Val)]) a5 A75 rfl rfl rfl rfl (Zj rfl (Zj rfl one_nil)) (Nat.le_of_ble_eq_true rfl) rfl ?_)
   intro b3 ac
   refine Zb (Ze (Zc ?_))
   obtain ⟨u, d, c⟩ := Zg c
   refine W_mid (M := fun f' w' => (fun (u : Bool) => ∃ (au : PHeap) , PHeap.le aT au ∧ St w0 au (Res.box g 59 [Value.string (a.Name), Vi (a.Duration), i, j, l, m, n] :: H) w' ∧ f' 2 = Value.pointer (some ⟨g, 0, none⟩) ∧ f' 7 = o ∧ f' 8 = Vi ((q.length : Int)) ∧ f' 9 = Vi ((al : Int)) ∧ f' 24 = Value.bool (u)) u) ?_ ?_
   ·refine Zd (Za rfl rfl (Zp F59_5 rfl y rfl (Za rfl rfl (Zn ((ac).f1) A23 rfl rfl rfl (Za rfl rfl (Zp F75_0 rfl rfl rfl (Za rfl rfl (Zn (ac) A3 rfl rfl rfl ?_))))))))
    obtain ⟨ba, aR, d⟩ := Zg d
    refine Za rfl rfl (Tc rfl rfl rfl (Zi rfl (Zi rfl args_nil)) (ref58_touches_sim aR ac (aw.mono t)).r ?_)
    rintro _ b4 ⟨aU, ad, x, rfl⟩
    refine Za rfl rfl (Zm (v := Value.bool (ba)) rfl rfl ?_)
    rcases ite_some d with ⟨b, d⟩ | ⟨b, d⟩
    ·refine WL_passes 6 (by rw [b]; rfl) ?_
     refine Zb (Ze ?_)
     have bh := Zu d
     subst u
     exact ⟨aU, ad, (x).drop, y, ae, af, z, rfl⟩
    replace b := Zk b
    refine WL_run rfl (Zf rfl (Zx b)) rfl (Zp F59_6 rfl y rfl (WL_run rfl (Zf rfl (Zx b)) rfl (Zn ((x).f1) A23 rfl rfl rfl (WL_run rfl (Zf rfl (Zx b)) rfl (Zp F75_0 rfl rfl rfl (WL_run rfl (Zf rfl (Zx b)) rfl (Zn (x) A3 rfl rfl rfl ?_)))))))
    obtain ⟨bb, aS, d⟩ := Zg d
    refine WL_run rfl (Zf rfl (Zx b)) rfl (Tc rfl rfl rfl (Zi rfl (Zi rfl args_nil)) (ref58_touches_sim aS x (ax.mono (Zt t ad))).r ?_)
    rintro _ b5 ⟨aV, aG, a6, rfl⟩
    refine Za rfl rfl (Exec.pick_f (v := Value.bool (bb)) rfl (Zx b) rfl (Zb (Ze ?_)))
    have bi := Zu d
    subst u
    exact ⟨aV, (Zt ad aG), (a6).drop, y, ae, af, z, rfl⟩
   intro bo b6 a2
   obtain ⟨av, am, aj, aJ, aK, aL, aM, an⟩ := a2
   refine (Ze ?_)
   rcases ite_some c with ⟨p, c⟩ | ⟨p, c⟩
   ·refine W_cond_t an p (Zc (Zd (Za rfl rfl (Zo (v := Value.bool (true)) rfl rfl (Zb (Ze (W_ret (ib_ret (at_ret (at_ret (ib_ret (at_ret (at_ret ?_)))))))))))))
    have bj := Zu c
    subst ah
    have aC := aD _ (aE (by intro _ h; cases h))
    have bk := Zu aC
    subst r
    refine ⟨_, ret1 rfl, ?_⟩
    exact ⟨av, (Zt t am), (aj).drop, rfl⟩
   refine W_cond_f an p ?_
   replace p := Zk p
   refine W_skip (ib_normal (Ze (Zd (Za rfl rfl (Exec.add rfl aM rfl (Za rfl rfl (Zm (v := Vi (IntKind.i64.wrap ((al : Int) + 1))) rfl rfl (Zb (Ze ?_)))))))))
   have bl := Zu c
   subst ah
   refine ⟨_, rfl, ?_⟩; exact ⟨av, (Zt t am), aj, aJ, aK, aL, (Eq.trans rfl (wrap_up aA (SliceRep.le ab)))⟩
  intro bw bp b7 a1 aF
  obtain ⟨aW, aH, a7, aN, aO, ao, aY⟩ := a1
  refine Zc (Zd (Za rfl rfl (Zq rfl aY ao (Zb (Ze (Zc (W_false (Zx (decide_eq_false (by omega))) (W_exit (at_exit (at_exit (ib_here (Ze ?_))))))))))))
  refine ⟨_, .inl aF, ?_⟩; exact ⟨aW, aH, a7, aN, aO, ao⟩
 rintro bq b8 ⟨bx, ak, a3⟩
 have hm := ak.elim (aB _) (a9 _)
 clear ak
 obtain ⟨aX, aI, a8, bs, bt, bu⟩ := a3
 refine (Ze (Zc (Zd (Za rfl rfl (Zo (v := Value.bool (false)) rfl rfl (Zb (Ze (W_ret ?_))))))))
 have bm := Zu hm
 subst r
 refine ⟨_, ret1 rfl, ?_⟩
 exact ⟨aX, aI, (a8).drop, rfl⟩
theorem ref58_Conflict_sim {w0 w : World} {s : PHeap} {H : List Res} {b : Job} {d : Job} {p : Value} {q : Value} {t : Value} {u : Value} {x : Value} {y : Value} {z : Value} {aa : Value} {ab : Value} {ac : Value} {r : Bool} (hm : ref58_Conflict_p b d = some r) (hS : St w0 s (H) w) (ay : SliceRep encFact s p b.Start) (ao : SliceRep encFact s q b.Over) (az : SliceRep encFact s t b.End) (a0 : SliceRep encFact s u b.AtStart) (a1 : SliceRep encFact s x b.AtEnd) (a2 : SliceRep encFact s y d.Start) (ap : SliceRep encFact s z d.Over) (a3 : SliceRep encFact s aa d.End) (a4 : SliceRep encFact s ab d.AtStart) (a5 : SliceRep encFact s ac d.AtEnd) :
  Calls Tryz.prog 13 #[Value.agg #[Value.string (b.Name), Vi (b.Duration), p, q, t, u, x], Value.agg #[Value.string (d.Name), Vi (d.Duration), y, z, aa, ab, ac]] w fun e w' => ∃ v, e = .returned v ∧ ((fun (cx : Bool) => ∃ (aS : PHeap) , PHeap.le s aS ∧ St w0 aS (H) w' ∧ v = Value.bool (cx)) r) := by
 unfold ref58_Conflict_p at hm
 refine calls_of_W Tryz.func13 rfl rfl (Zc (Zd (Za rfl rfl (Exec.box (cs := [Value.string (b.Name), Vi (b.Duration), p, q, t, u, x]) hS rfl rfl rfl ?_))))
 intro ad cX bl
 refine Za rfl rfl (Exec.box (cs := [Value.string (d.Name), Vi (d.Duration), y, z, aa, ab, ac]) bl rfl rfl rfl ?_)
 intro ae cY bm
 refine Za rfl rfl (Zo (v := Value.bool (false)) rfl rfl (Zb (Ze (Zc (Zc (Zd (Za rfl rfl (Exec.buildSlice (Te := 4) (cs := [Value.bool (false), Value.bool (true)]) bm rfl (parts_cons (c := [Value.bool (false)]) (cells_of rfl rfl) (parts_cons (c := [Value.bool (true)]) (cells_of rfl rfl) parts_nil)) (fun _ => by kernel_rfl) ?_))))))))
 intro aj cZ bn
 have bo := St.boxArr (E := encBool) (xs := [false, true]) bn ⟨[Value.bool (false)], [Value.bool (true)], rfl, rfl, ⟨[Value.bool (true)], [], rfl, rfl, rfl⟩⟩ (by simp [maxLen])
 obtain ⟨au, a, bp, am⟩ := bo.freezeArr
 refine Za rfl rfl (Zr S91 rfl rfl am (Za rfl rfl (Zm (v := Vi (0)) rfl rfl (Zb (Ze ?_)))))
 obtain ⟨a7, bc, b9, b5, b1⟩ := ctl_some hm
 refine W_mid (M := fun f' w' => ∃ s', (a7 = .next s' ∨ a7 = .brk s') ∧ (fun (_ : Unit) => ∃ (aT : PHeap) , PHeap.le au aT ∧ St w0 aT (Res.box ad 59 [Value.string (b.Name), Vi (b.Duration), p, q, t, u, x] :: Res.box ae 59 [Value.string (d.Name), Vi (d.Duration), y, z, aa, ab, ac] :: H) w' ∧ f' 2 = Value.pointer (some ⟨ad, 0, none⟩) ∧ f' 3 = Value.pointer (some ⟨ae, 0, none⟩) ∧ f' 9 = Value.slice (some ⟨aj, 0, none⟩) 2 2 ∧ f' 10 = Vi (([false, true].length : Int))) s') ?_ ?_
 ·refine W_block (W_forC (fun k' s' f' w' => (fun (_ : Unit) => ∃ (aU : PHeap) , PHeap.le au aU ∧ St w0 aU (Res.box ad 59 [Value.string (b.Name), Vi (b.Duration), p, q, t, u, x] :: Res.box ae 59 [Value.string (d.Name), Vi (d.Duration), y, z, aa, ab, ac] :: H) w' ∧ f' 2 = Value.pointer (some ⟨ad, 0, none⟩) ∧ f' 3 = Value.pointer (some ⟨ae, 0, none⟩) ∧ f' 9 = Value.slice (some ⟨aj, 0, none⟩) 2 2 ∧ f' 10 = Vi (([false, true].length : Int)) ∧ f' 11 = Vi (k' : Int)) s') bc ?_ ?_ ?_)
  ·have bq := (bp).f1
   exact ⟨au, (Zv _), bq, rfl, rfl, rfl, rfl, rfl⟩
  ·intro ar cP a8 c9 da b3 be ah bB
   obtain ⟨cN, g, aB, bL, bM, aG, aH, aw⟩ := be
   refine Zc (Zd (Za rfl rfl (Zq rfl aw aH (Zb (Ze (Zc (W_true (Zx (decide_eq_true (by omega))) (W_skip (Ze (Zc (W_block (Zc (Zd ?_)))))))))))))
   obtain ⟨an, cg, ah⟩ := Zg ah
   refine Za rfl rfl (Exec.index_rep S91 rfl aG aw (am.mono g) cg ?_)
   intro cz cG ba
   refine Za rfl rfl (Zw (E := encBool) aB A4 rfl rfl rfl ba ?_)
   intro cV ch
   obtain rfl := encBool_val.1 ch
   refine Za rfl rfl (Zo (v := Value.bool (an)) rfl rfl (Zb (Ze (Zc (Zd (Za rfl rfl (Exec.buildSlice (Te := 4) (cs := [Value.bool (false), Value.bool (true)]) aB rfl (parts_cons (c := [Value.bool (false)]) (cells_of rfl rfl) (parts_cons (c := [Value.bool (true)]) (cells_of rfl rfl) parts_nil)) (fun _ => by kernel_rfl) ?_)))))))
   intro a6 db br
   have bs := St.boxArr (E := encBool) (xs := [false, true]) br ⟨[Value.bool (false)], [Value.bool (true)], rfl, rfl, ⟨[Value.bool (true)], [], rfl, rfl, rfl⟩⟩ (by simp [maxLen])
   obtain ⟨av, i, bt, aR⟩ := bs.freezeArr
   refine Za rfl rfl (Zr S91 rfl rfl aR (Za rfl rfl (Zm (v := Vi (0)) rfl rfl (Zb (Ze ?_)))))
   obtain ⟨a9, bd, bA, b6, b2⟩ := ctl_some ah
   refine W_mid (M := fun f' w' => ∃ s', (a9 = .next s' ∨ a9 = .brk s') ∧ (fun (_ : Unit) => ∃ (aV : PHeap) , PHeap.le av aV ∧ St w0 aV (Res.box ad 59 [Value.string (b.Name), Vi (b.Duration), p, q, t, u, x] :: Res.box ae 59 [Value.string (d.Name), Vi (d.Duration), y, z, aa, ab, ac] :: H) w' ∧ f' 2 = Value.pointer (some ⟨ad, 0, none⟩) ∧ f' 3 = Value.pointer (some ⟨ae, 0, none⟩) ∧ f' 6 = Value.bool (an) ∧ f' 9 = Value.slice (some ⟨aj, 0, none⟩) 2 2 ∧ f' 10 = Vi (([false, true].length : Int)) ∧ f' 11 = Vi ((ar : Int)) ∧ f' 15 = Value.slice (some ⟨a6, 0, none⟩) 2 2 ∧ f' 16 = Vi (([false, true].length : Int))) s') ?_ ?_
   ·refine W_block (W_forC (fun k' s' f' w' => (fun (_ : Unit) => ∃ (aW : PHeap) , PHeap.le av aW ∧ St w0 aW (Res.box ad 59 [Value.string (b.Name), Vi (b.Duration), p, q, t, u, x] :: Res.box ae 59 [Value.string (d.Name), Vi (d.Duration), y, z, aa, ab, ac] :: H) w' ∧ f' 2 = Value.pointer (some ⟨ad, 0, none⟩) ∧ f' 3 = Value.pointer (some ⟨ae, 0, none⟩) ∧ f' 6 = Value.bool (an) ∧ f' 9 = Value.slice (some ⟨aj, 0, none⟩) 2 2 ∧ f' 10 = Vi (([false, true].length : Int)) ∧ f' 11 = Vi ((ar : Int)) ∧ f' 15 = Value.slice (some ⟨a6, 0, none⟩) 2 2 ∧ f' 16 = Vi (([false, true].length : Int)) ∧ f' 17 = Vi (k' : Int)) s') bd ?_ ?_ ?_)
    ·have bu := (bt).f1
     exact ⟨av, (Zv _), (bu).f1, bL, bM, rfl, aG, aH, aw, rfl, rfl, rfl⟩
    ·intro bF cQ aA cA dc b4 bf n bC
     obtain ⟨cO, j, ak, aI, aJ, aK, bN, bO, bP, aL, aM, ax⟩ := bf
     refine Zc (Zd (Za rfl rfl (Zq rfl ax aM (Zb (Ze (Zc (W_true (Zx (decide_eq_true (by omega))) (W_skip (Ze (Zc (W_block (Zc (Zd ?_)))))))))))))
     obtain ⟨aZ, ci, n⟩ := Zg n
     refine Za rfl rfl (Exec.index_rep S91 rfl aL ax (aR.mono j) ci ?_)
     intro c0 cH bb
     refine Za rfl rfl (Zw (E := encBool) ak A4 rfl rfl rfl bb ?_)
     intro cW cj
     obtain rfl := encBool_val.1 cj
     refine Za rfl rfl (Zo (v := Value.bool (aZ)) rfl rfl (Zb (Ze (Zc (Zd (Za rfl rfl (Exec.load_box_agg (ds := [Value.string (b.Name), Vi (b.Duration), p, q, t, u, x]) (ak) A59 rfl aI rfl (Za rfl rfl (Exec.load_box_agg (ds := [Value.string (d.Name), Vi (d.Duration), y, z, aa, ab, ac]) ((ak).f1) A59 rfl aJ rfl (Za rfl rfl (Zm (v := Value.bool (an)) rfl aK (Za rfl rfl (Zm (v := Value.bool (aZ)) rfl rfl ?_)))))))))))))
     obtain ⟨dl, ck, n⟩ := Zg n
     refine Za rfl rfl (Tc rfl rfl rfl (Zi rfl (Zi rfl (Zi rfl (Zi rfl args_nil)))) (ref55_Interfere_sim ck ak (ay.mono (Zt (Zt (Zt a g) i) j)) (ao.mono (Zt (Zt (Zt a g) i) j)) (az.mono (Zt (Zt (Zt a g) i) j)) (a0.mono (Zt (Zt (Zt a g) i) j)) (a1.mono (Zt (Zt (Zt a g) i) j)) (a2.mono (Zt (Zt (Zt a g) i) j)) (ap.mono (Zt (Zt (Zt a g) i) j)) (a3.mono (Zt (Zt (Zt a g) i) j)) (a4.mono (Zt (Zt (Zt a g) i) j)) (a5.mono (Zt (Zt (Zt a g) i) j))).r ?_)
     rintro _ dd ⟨aX, aF, aC, rfl⟩
     refine Zb (Ze ?_)
     rcases ite_some n with ⟨ag, n⟩ | ⟨ag, n⟩
     ·refine W_cond_t rfl ag (Zc (Zd (Za rfl rfl (Zo (v := Value.bool (true)) rfl rfl (Zb (Ze (W_ret (ib_ret (at_ret (at_ret (ib_ret (at_ret (ib_ret (at_ret (at_ret (ib_ret (at_ret (at_ret ?_))))))))))))))))))
      have c1 := Zu n
      subst aA
      have b7 := bA _ (bC (by intro _ h; cases h))
      have c2 := Zu b7
      subst a8
      have b8 := b9 _ (bB (by intro _ h; cases h))
      have c3 := Zu b8
      subst r
      refine ⟨_, ret1 rfl, ?_⟩
      exact ⟨aX, (Zt (Zt (Zt (Zt a g) i) j) aF), ((aC).drop).drop, rfl⟩
     refine W_cond_f rfl ag ?_
     replace ag := Zk ag
     refine W_skip (ib_normal (Ze (Zd (Za rfl rfl (Exec.add rfl ax rfl (Za rfl rfl (Zm (v := Vi (IntKind.i64.wrap ((bF : Int) + 1))) rfl rfl (Zb (Ze ?_)))))))))
     have c4 := Zu n
     subst aA
     refine ⟨_, rfl, ?_⟩; exact ⟨aX, (Zt j aF), ((aC).f1).f1, aI, aJ, aK, bN, bO, bP, aL, aM, (Eq.trans rfl (wrap_up b4 (SliceRep.le (am.mono (Zt g i)))))⟩
    intro cR cB de bg bD
    obtain ⟨cn, bG, bv, bQ, bR, bS, bT, bU, bV, bW, aN, cv⟩ := bg
    refine Zc (Zd (Za rfl rfl (Zq rfl cv aN (Zb (Ze (Zc (W_false (Zx (decide_eq_false (by omega))) (W_exit (at_exit (at_exit (ib_here (Ze ?_))))))))))))
    refine ⟨_, .inl bD, ?_⟩; exact ⟨cn, bG, ((bv).f1).f1, bQ, bR, bS, bT, bU, bV, bW, aN⟩
   rintro cC df ⟨cS, aD, bi⟩
   have ah := aD.elim (b6 _) (b2 _)
   clear aD
   obtain ⟨co, bH, bw, bX, bY, cI, bZ, ca, cb, cJ, cK⟩ := bi
   refine (ib_normal (Ze (Zd (Za rfl rfl (Exec.add rfl cb rfl (Za rfl rfl (Zm (v := Vi (IntKind.i64.wrap ((ar : Int) + 1))) rfl rfl (Zb (Ze ?_)))))))))
   have c5 := Zu ah
   subst a8
   refine ⟨_, rfl, ?_⟩; exact ⟨co, (Zt (Zt g i) bH), ((bw).f1).f1, bX, bY, bZ, ca, (Eq.trans rfl (wrap_up b3 (SliceRep.le am)))⟩
  intro cT cD dg bh bE
  obtain ⟨cp, bI, bx, cc, cd, ce, aO, cw⟩ := bh
  refine Zc (Zd (Za rfl rfl (Zq rfl cw aO (Zb (Ze (Zc (W_false (Zx (decide_eq_false (by omega))) (W_exit (at_exit (at_exit (ib_here (Ze ?_))))))))))))
  refine ⟨_, .inl bE, ?_⟩; exact ⟨cp, bI, ((bx).f1).f1, cc, cd, ce, aO⟩
 rintro cE dh ⟨cU, aE, bj⟩
 have hm := aE.elim (b5 _) (b1 _)
 clear aE
 obtain ⟨cq, l, aq, aP, aQ, cL, cM⟩ := bj
 refine (Ze (Zc ?_))
 obtain ⟨ai, o, hm⟩ := Zg hm
 refine W_mid (M := fun f' w' => (fun (ai : Bool) => ∃ (aY : PHeap) , PHeap.le cq aY ∧ St w0 aY (H) w' ∧ f' 4 = Value.bool (ai)) ai) ?_ ?_
 ·refine Zd (Za rfl rfl (Exec.load_box_agg (ds := [Value.string (b.Name), Vi (b.Duration), p, q, t, u, x]) (aq) A59 rfl aP rfl (Za rfl rfl (Zp F59_3 rfl aQ rfl (Za rfl rfl (Zn ((aq).f1) A23 rfl rfl rfl ?_))))))
  obtain ⟨cy, cl, o⟩ := Zg o
  refine Za rfl rfl (Tc rfl rfl rfl (Zi rfl (Zi rfl args_nil)) (ref58_spoils_sim cl aq (ay.mono (Zt a l)) (ao.mono (Zt a l)) (az.mono (Zt a l)) (a0.mono (Zt a l)) (a1.mono (Zt a l)) (ap.mono (Zt a l))).r ?_)
  rintro _ di ⟨cr, af, al, rfl⟩
  refine Za rfl rfl (Zm (v := Value.bool (cy)) rfl rfl ?_)
  rcases ite_some o with ⟨m, o⟩ | ⟨m, o⟩
  ·refine WL_passes 6 (by rw [m]; rfl) ?_
   refine Zb (Ze ?_)
   have c6 := Zu o
   subst ai
   exact ⟨cr, af, ((al).drop).drop, rfl⟩
  replace m := Zk m
  refine WL_run rfl (Zf rfl (Zx m)) rfl (Exec.load_box_agg (ds := [Value.string (d.Name), Vi (d.Duration), y, z, aa, ab, ac]) ((al).f1) A59 rfl aQ rfl (WL_run rfl (Zf rfl (Zx m)) rfl (Zp F59_3 rfl aP rfl (WL_run rfl (Zf rfl (Zx m)) rfl (Zn (al) A23 rfl rfl rfl ?_)))))
  obtain ⟨dm, cm, o⟩ := Zg o
  refine WL_run rfl (Zf rfl (Zx m)) rfl (Tc rfl rfl rfl (Zi rfl (Zi rfl args_nil)) (ref58_spoils_sim cm al (a2.mono (Zt (Zt a l) af)) (ap.mono (Zt (Zt a l) af)) (a3.mono (Zt (Zt a l) af)) (a4.mono (Zt (Zt a l) af)) (a5.mono (Zt (Zt a l) af)) (ao.mono (Zt (Zt a l) af))).r ?_)
  rintro _ dj ⟨ct, bJ, bz, rfl⟩
  refine WL_passes 2 (by rw [m]; rfl) ?_
  refine Zb (Ze ?_)
  have c7 := Zu o
  subst ai
  exact ⟨ct, (Zt af bJ), ((bz).drop).drop, rfl⟩
 intro cF dk bk
 obtain ⟨cu, bK, b0, cf⟩ := bk
 refine (Ze (W_ret ?_))
 have c8 := Zu hm
 subst r
 refine ⟨_, ret1 rfl, ?_⟩
 exact ⟨cu, (Zt (Zt a l) bK), b0, cf⟩
theorem A60 : tyAgg Tryz.prog 60 = some (true, 2) := by kernel_rfl
theorem IA60 : intArr Tryz.prog 60 2 = true := by kernel_rfl
theorem law58_SimulateConflicts_sim {w0 w : World} {s : PHeap} {H : List Res} {fu : Nat} {aa : Temporal} {o : Value} {p : Value} {t : Value} {u : Value} {r : Bool} (hm : law58_SimulateConflicts_p fu aa = some r) (hS : St w0 s (H) w) (aG : SliceRep (encInt .i64) s o aa.Vars) (aH : SliceRep (encInt .i64) s p aa.Init) (aI : SliceRep encFact s t aa.Goal) (ad : SliceRep encJob s u aa.Jobs) :
  Calls Tryz.prog 4 #[Value.agg #[o, p, t, u]] w fun e w' => ∃ v, e = .returned v ∧ ((fun (cX : Bool) => ∃ (bg : PHeap) , PHeap.le s bg ∧ St w0 bg (H) w' ∧ v = Value.bool (cX)) r) := by
 unfold law58_SimulateConflicts_p at hm
 refine calls_of_W Tryz.func4 rfl rfl (Zc (Zd (Za rfl rfl (Exec.box (cs := [o, p, t, u]) hS rfl rfl rfl ?_))))
 intro l dR b5
 refine Za rfl rfl (Zo (v := Value.bool (false)) rfl rfl (Zb (Ze (Zc (Zc ?_)))))
 obtain ⟨a2, ab, hm⟩ := Zg hm
 refine W_mid (M := fun f' w' => (fun (a2 : Bool) => ∃ (bh : PHeap) , PHeap.le s bh ∧ St w0 bh (Res.box l 26 [o, p, t, u] :: H) w' ∧ f' 1 = Value.pointer (some ⟨l, 0, none⟩) ∧ f' 15 = Value.bool (a2)) a2) ?_ ?_
 ·refine Zd ?_
  obtain ⟨cY, cy, ab⟩ := Zg ab
  refine Za rfl rfl (Tc rfl rfl rfl args_nil (law58_awake_sim cy b5 ).r ?_)
  rintro _ dS ⟨cK, al, aJ, rfl⟩
  refine Za rfl rfl (Exec.not rfl rfl (Za rfl rfl (Zm (v := Value.bool (!cY)) rfl rfl ?_)))
  rcases ite_some ab with ⟨ae, ab⟩ | ⟨ae, ab⟩
  ·refine WL_passes 4 (by rw [ae]; rfl) ?_
   refine Zb (Ze ?_)
   have de := Zu ab
   subst a2
   exact ⟨cK, al, aJ, rfl, rfl⟩
  replace ae := Zk ae
  refine WL_run rfl (Zf rfl (Zx ae)) rfl (Exec.load_box_agg (ds := [o, p, t, u]) (aJ) A26 rfl rfl rfl ?_)
  obtain ⟨cZ, cz, ab⟩ := Zg ab
  refine WL_run rfl (Zf rfl (Zx ae)) rfl (Tc rfl rfl rfl (Zi rfl (Zi rfl args_nil)) (law58_few_sim cz aJ (aG.mono al) (aH.mono al) (aI.mono al) (ad.mono al) (SliceRep.nil _ _)).r ?_)
  rintro _ dT ⟨cL, bP, b6, rfl⟩
  refine WL_run rfl (Zf rfl (Zx ae)) rfl (Exec.not rfl rfl (Za rfl rfl (Exec.pick_f (v := Value.bool (!cZ)) rfl (Zx ae) rfl (Zb (Ze ?_)))))
  have df := Zu ab
  subst a2
  exact ⟨cL, (Zt al bP), b6, rfl, rfl⟩
 intro dw dU bz
 obtain ⟨dC, d, aK, a8, bc⟩ := bz
 refine (Ze ?_)
 rcases ite_some hm with ⟨ap, hm⟩ | ⟨ap, hm⟩
 ·refine W_cond_t bc ap (Zc (Zd ?_))
  obtain ⟨da, c0, hm⟩ := Zg hm
  refine Za rfl rfl (Tc rfl rfl rfl args_nil (law58_awake_sim c0 aK ).r ?_)
  rintro _ dV ⟨cM, bQ, b7, rfl⟩
  refine Za rfl rfl (Zo (v := Value.bool (da)) rfl rfl (Zb (Ze (W_ret (at_ret ?_)))))
  have dg := Zu hm
  subst r
  refine ⟨_, ret1 rfl, ?_⟩
  exact ⟨cM, (Zt d bQ), (b7).drop, rfl⟩
 refine W_cond_f bc ap ?_
 replace ap := Zk ap
 refine W_skip (Ze (Zc (Zd (Za rfl rfl (Exec.load_box_agg (ds := [o, p, t, u]) (aK) A26 rfl a8 rfl ?_)))))
 obtain ⟨cT, c1, hm⟩ := Zg hm
 obtain ⟨az, g⟩ := cT
 replace hm := un2_eq hm
 refine Za rfl rfl (Tc rfl rfl rfl (Zi rfl args_nil) (simulate_Conflicts_sim c1 aK (aG.mono d) (aH.mono d) (aI.mono d) (ad.mono d)).r ?_)
 rintro _ dW ⟨dD, x, m, aT, rfl, aC⟩
 refine Za rfl rfl (Zm (v := Value.tuple #[x, errV 77 (g)]) rfl rfl (Za rfl rfl (Exec.extract (v := x) rfl rfl rfl (Za rfl rfl (Exec.extract (v := errV 77 (g)) rfl rfl rfl (Za rfl rfl (Zo (v := x) rfl rfl (Za rfl rfl (Zo (v := errV 77 (g)) rfl rfl (Zb (Ze (Zc (Zc (Zd (Za rfl rfl (Exec.load_box_agg (ds := [o, p, t, u]) (aT) A26 rfl a8 rfl ?_))))))))))))))))
 obtain ⟨aF, c2, hm⟩ := Zg hm
 refine Za rfl rfl (Tc rfl rfl rfl (Zi rfl args_nil) (ref55_Check_sim c2 aT (aG.mono (Zt d m)) (aH.mono (Zt d m)) (aI.mono (Zt d m)) (ad.mono (Zt d m))).r ?_)
 rintro _ dX ⟨ay, n, a5, rfl⟩
 refine Za rfl rfl (Zo (v := Vi (aF)) rfl rfl (Zb (Ze (Zc (Zd (Za rfl rfl (Zm (v := Vi (aF)) rfl rfl (Za rfl rfl (Exec.neq rfl rfl rfl (Zb (Ze ?_)))))))))))
 rcases ite_some hm with ⟨aq, hm⟩ | ⟨aq, hm⟩
 ·refine W_cond_t rfl aq (Zc (W_mid (M := fun f' w' => ∃ (bi : PHeap) , PHeap.le ay bi ∧ St w0 bi (H) w' ∧ f' 2 = Value.bool (((decide ((az.length : Int) = 0)) && decide ((base_Num_t g) = aF)))) ?_ ?_))
  ·refine Zd (Za rfl rfl (Zm (v := x) rfl rfl (Za rfl rfl (Zr S54 rfl rfl (aC.mono n) (Za rfl rfl (Exec.eql rfl rfl rfl (Za rfl rfl (Zm (v := Value.bool (decide ((az.length : Int) = 0))) rfl rfl ?_))))))))
   by_cases y : (decide ((az.length : Int) = 0)) = true
   ·refine WL_run rfl (Zf rfl (Zx y)) rfl (Zm (v := errV 77 (g)) rfl rfl (WL_run rfl (Zf rfl (Zx y)) rfl (Tc rfl rfl rfl (Zi rfl args_nil) (base_Num_sim (base_Num_tot g) a5 ).r ?_)))
    rintro _ dY ⟨cN, bR, b8, rfl⟩
    refine WL_run rfl (Zf rfl (Zx y)) rfl (Zm (v := Vi (aF)) rfl rfl (WL_run rfl (Zf rfl (Zx y)) rfl (Exec.eql rfl rfl rfl ?_)))
    refine WL_passes 2 (by rw [y]; rfl) ?_
    refine Zb (Ze ?_)
    exact ⟨cN, bR, (b8).drop, (Zx (and_t y)).symm⟩
   replace y := Zk y
   refine WL_passes 6 (by rw [y]; rfl) ?_
   refine Zb (Ze ?_)
   exact ⟨ay, (Zv _), (a5).drop, (Zx (and_f y)).symm⟩
  intro dx dZ b0
  obtain ⟨cO, bS, b9, bW⟩ := b0
  refine (Ze (W_ret (at_ret ?_)))
  have dh := Zu hm
  subst r
  refine ⟨_, ret1 rfl, ?_⟩
  exact ⟨cO, (Zt (Zt (Zt d m) n) bS), b9, bW⟩
 refine W_cond_f rfl aq ?_
 replace aq := Zk aq
 refine W_skip (Ze (Zc (Zd (Za rfl rfl (Zo (v := Vi (0)) rfl rfl (Zb (Ze (Zc (Zc (Zd (Za rfl rfl (Zp F26_3 rfl a8 rfl (Za rfl rfl (Zn (a5) A24 rfl rfl rfl (Za rfl rfl (Zr S24 rfl rfl (ad.mono (Zt (Zt d m) n)) (Za rfl rfl (Zm (v := Vi (0)) rfl rfl (Zb (Ze ?_))))))))))))))))))))
 obtain ⟨aQ, bt, bL, bH, bE⟩ := ctl_some hm
 refine W_mid (M := fun f' w' => ∃ s', (aQ = .next s' ∨ aQ = .brk s') ∧ (fun (a7 : Int) => ∃ (bj : PHeap) , PHeap.le ay bj ∧ St w0 bj (Res.box l 26 [o, p, t, u] :: H) w' ∧ f' 1 = Value.pointer (some ⟨l, 0, none⟩) ∧ f' 3 = x ∧ f' 4 = errV 77 (g) ∧ f' 6 = Vi (a7) ∧ f' 37 = Vi ((aa.Jobs.length : Int))) s') ?_ ?_
 ·refine W_block (W_forC (fun k' s' f' w' => (fun (aL : Int) => ∃ (bk : PHeap) , PHeap.le ay bk ∧ St w0 bk (Res.box l 26 [o, p, t, u] :: H) w' ∧ f' 1 = Value.pointer (some ⟨l, 0, none⟩) ∧ f' 3 = x ∧ f' 4 = errV 77 (g) ∧ f' 6 = Vi (aL) ∧ f' 37 = Vi ((aa.Jobs.length : Int)) ∧ f' 38 = Vi (k' : Int)) s') bt ?_ ?_ ?_)
  ·exact ⟨ay, (Zv _), a5, a8, rfl, rfl, rfl, rfl, rfl⟩
  ·intro b aL aR dy ea bG bv aw bN
   obtain ⟨aM, ai, bA, bX, bY, bZ, ca, bd, aO⟩ := bv
   refine Zc (Zd (Za rfl rfl (Zq rfl aO bd (Zb (Ze (Zc (W_true (Zx (decide_eq_true (by omega))) (W_skip (Ze (Zc (W_block (Zc (Zd (Za rfl rfl (Zm (v := Vi ((b : Int))) rfl aO (Za rfl rfl (Zo (v := Vi ((b : Int))) rfl rfl (Zb (Ze (Zc (Zd (Za rfl rfl (Zm (v := Vi ((b : Int))) rfl rfl (Za rfl rfl (Exec.add rfl rfl rfl (Za rfl rfl (Zo (v := Vi (IntKind.i64.wrap ((b : Int) + 1))) rfl rfl (Zb (Ze ?_)))))))))))))))))))))))))))))
   obtain ⟨aS, bu, bM, bI, bF⟩ := ctl_some aw
   refine W_mid (M := fun f' w' => ∃ s', (aS = .next s' ∨ aS = .brk s') ∧ (un2 fun (aZ : Int) (aP : Int) => ∃ (bl : PHeap) , PHeap.le aM bl ∧ St w0 bl (Res.box l 26 [o, p, t, u] :: H) w' ∧ f' 1 = Value.pointer (some ⟨l, 0, none⟩) ∧ f' 3 = x ∧ f' 4 = errV 77 (g) ∧ f' 6 = Vi (aZ) ∧ f' 7 = Vi ((b : Int)) ∧ f' 8 = Vi (aP) ∧ f' 37 = Vi ((aa.Jobs.length : Int)) ∧ f' 38 = Vi ((b : Int))) s') ?_ ?_
   ·refine W_block (W_while (fun s' f' w' => (un2 fun (af : Int) (i : Int) => ∃ (bm : PHeap) , PHeap.le aM bm ∧ St w0 bm (Res.box l 26 [o, p, t, u] :: H) w' ∧ f' 1 = Value.pointer (some ⟨l, 0, none⟩) ∧ f' 3 = x ∧ f' 4 = errV 77 (g) ∧ f' 6 = Vi (af) ∧ f' 7 = Vi ((b : Int)) ∧ f' 8 = Vi (i) ∧ f' 37 = Vi ((aa.Jobs.length : Int)) ∧ f' 38 = Vi ((b : Int))) s') bu ?_ ?_)
    ·exact ⟨aM, (Zv _), bA, bX, bY, bZ, ca, rfl, rfl, bd, aO⟩
    intro cU a4 dz eb bw a aY
    obtain ⟨af, i⟩ := cU
    replace a := un2_eq a
    obtain ⟨cP, ac, ag, aj, am, a9, an, ao, ak, aA, aB⟩ := bw
    refine Zc (Zc (Zd (Za rfl rfl (Zm (v := Vi (i)) rfl ak (Za rfl rfl (Zp F26_3 rfl aj rfl (Za rfl rfl (Zn (ag) A24 rfl rfl rfl (Za rfl rfl (Zr S24 rfl rfl (ad.mono (Zt (Zt (Zt (Zt d m) n) ai) ac)) (Za rfl rfl (Zq rfl rfl rfl (Zb (Ze ?_))))))))))))))
    rcases ite_some a with ⟨ar, a⟩ | ⟨ar, a⟩
    ·refine W_cond_t rfl ar (W_skip (Ze (Zc (W_block (Zc (Zc (W_dl (n0 := 12) (qs 0 10 (.e 10 [] (.q 11 .done))) hmix (by kernel_rfl) (by kernel_rfl) (DL_q rfl rfl (Zp F26_3 rfl aj rfl ⟨rfl, ?_⟩)))))))))
     refine DL_q rfl rfl (Zn (ag.drew) A24 rfl rfl rfl ⟨rfl, ?_⟩)
     refine DL_q rfl rfl (Zm (v := Vi ((b : Int))) rfl ao ⟨rfl, ?_⟩)
     obtain ⟨ei, c3, a⟩ := Zg a
     refine DL_q rfl rfl (Exec.index_repE S24 rfl rfl rfl (ad.mono (Zt (Zt (Zt (Zt d m) n) ai) ac)) c3 ?_)
     intro db d5 bq di
     refine ⟨rfl, ?_⟩
     refine DL_q rfl rfl (Zw (E := encJob) ag.drew A59 rfl rfl rfl bq ?_)
     intro dO c4
     obtain ⟨dE, dF, dG, dH, dI, rfl, cA, cB, cC, cD, cE⟩ := encJob_val.1 c4
     refine ⟨rfl, ?_⟩
     refine DL_q rfl rfl (Zp F26_3 rfl aj rfl ⟨rfl, ?_⟩)
     refine DL_q rfl rfl (Zn (ag.drew) A24 rfl rfl rfl ⟨rfl, ?_⟩)
     refine DL_q rfl rfl (Zm (v := Vi (i)) rfl ak ⟨rfl, ?_⟩)
     obtain ⟨ej, c5, a⟩ := Zg a
     refine DL_q rfl rfl (Exec.index_repE S24 rfl rfl rfl (ad.mono (Zt (Zt (Zt (Zt d m) n) ai) ac)) c5 ?_)
     intro dc d6 br dj
     refine ⟨rfl, ?_⟩
     refine DL_q rfl rfl (Zw (E := encJob) ag.drew A59 rfl rfl rfl br ?_)
     intro dP c6
     obtain ⟨dJ, dK, dL, dM, dN, rfl, cF, cG, cH, cI, cJ⟩ := encJob_val.1 c6
     refine ⟨rfl, ?_⟩
     obtain ⟨ek, c7, a⟩ := Zg a
     refine DL_e rfl rfl (Tc rfl rfl rfl (Zi rfl (Zi rfl args_nil)) (ref58_Conflict_sim c7 ag.drew cA cB cC cD cE cF cG cH cI cJ).r ?_)
     rintro _ ec ⟨aD, ax, a6, rfl⟩
     refine ⟨ag_nil, ?_⟩
     refine DL_q rfl rfl (Exec.not rfl rfl ⟨rfl, ?_⟩)
     refine DL_done (Zb (Ze ?_))
     rcases ite_some a with ⟨au, a⟩ | ⟨au, a⟩
     ·refine W_cond_t rfl au (W_exit (at_exit (ib_here (Ze (Zd (Za rfl rfl (Zm (v := Vi (i)) rfl ak (Za rfl rfl (Exec.add rfl rfl rfl (Za rfl rfl (Zo (v := Vi (IntKind.i64.wrap (i + 1))) rfl rfl (Zb (Ze ?_)))))))))))))
      have dk := Zu a
      subst a4
      refine ⟨_, rfl, ?_⟩; exact ⟨aD, (Zt ac ax), a6, aj, am, a9, an, ao, rfl, aA, aB⟩
     refine W_cond_f rfl au ?_
     replace au := Zk au
     refine W_skip (Ze (Zc (Zc ?_)))
     obtain ⟨a3, ah, a⟩ := Zg a
     refine W_mid (M := fun f' w' => (fun (a3 : Bool) => ∃ (bn : PHeap) , PHeap.le aD bn ∧ St w0 bn (Res.box l 26 [o, p, t, u] :: H) w' ∧ f' 1 = Value.pointer (some ⟨l, 0, none⟩) ∧ f' 3 = x ∧ f' 4 = errV 77 (g) ∧ f' 6 = Vi (af) ∧ f' 7 = Vi ((b : Int)) ∧ f' 8 = Vi (i) ∧ f' 37 = Vi ((aa.Jobs.length : Int)) ∧ f' 38 = Vi ((b : Int)) ∧ f' 75 = Value.bool (a3)) a3) ?_ ?_
     ·refine Zd (Za rfl rfl (Zm (v := Vi (af)) rfl an (Za rfl rfl (Zm (v := x) rfl am (Za rfl rfl (Zr S54 rfl rfl (aC.mono (Zt (Zt (Zt n ai) ac) ax)) (Za rfl rfl (Exec.geq rfl rfl rfl (Za rfl rfl (Zm (v := Value.bool (decide ((az.length : Int) ≤ af))) rfl rfl ?_))))))))))
      rcases ite_some ah with ⟨j, ah⟩ | ⟨j, ah⟩
      ·refine WL_passes 9 (by rw [j]; rfl) ?_
       refine Zb (Ze ?_)
       have dl := Zu ah
       subst a3
       exact ⟨aD, (Zv _), a6, aj, am, a9, an, ao, ak, aA, aB, rfl⟩
      replace j := Zk j
      refine WL_run rfl (Zf rfl (Zx j)) rfl (Zm (v := x) rfl am (WL_run rfl (Zf rfl (Zx j)) rfl (Zm (v := Vi (af)) rfl an ?_)))
      obtain ⟨aE, c8, ah⟩ := Zg ah
      refine WL_run rfl (Zf rfl (Zx j)) rfl (Exec.index_rep S54 rfl rfl rfl (aC.mono (Zt (Zt (Zt n ai) ac) ax)) c8 ?_)
      intro dd d7 bs
      refine WL_run rfl (Zf rfl (Zx j)) rfl (Zw (E := encArr2_int) a6 A60 rfl rfl rfl bs ?_)
      intro dQ c9
      obtain rfl := encArr2_int_val.1 c9
      refine WL_run rfl (Zf rfl (Zx j)) rfl (Zm (v := Vi ((b : Int))) rfl ao (WL_run rfl (Zf rfl (Zx j)) rfl (Zm (v := Vi (i)) rfl ak (WL_run rfl (Zf rfl (Zx j)) rfl (Exec.build rfl (parts_cons (c := [Vi ((b : Int))]) (cells_of rfl rfl) (parts_cons (c := [Vi (i)]) (cells_of rfl rfl) parts_nil)) (v := Value.agg #[Vi ((b : Int)), Vi (i)]) (fun _ => by kernel_rfl) (WL_run rfl (Zf rfl (Zx j)) rfl (Exec.arr_neq (xs := [aE.a0, aE.a1]) (ys := [(b : Int), i]) IA60 rfl rfl rfl rfl rfl rfl rfl (Za rfl rfl (Exec.pick_f (v := Value.bool (!(eqs [aE.a0, aE.a1] [(b : Int), i]))) rfl (Zx j) rfl (Zb (Ze ?_)))))))))))
      have dm := Zu ah
      subst a3
      exact ⟨aD, (Zv _), a6, aj, am, a9, an, ao, ak, aA, aB, rfl⟩
     intro d0 ed b1
     obtain ⟨bo, ba, aU, cb, cc, cd, ce, cf, cg, ch, ci, be⟩ := b1
     refine (Ze ?_)
     rcases ite_some a with ⟨av, a⟩ | ⟨av, a⟩
     ·refine W_cond_t be av (Zc (Zd (Za rfl rfl (Zo (v := Value.bool (false)) rfl rfl (Zb (Ze (W_ret (at_ret (ib_ret (at_ret (at_ret (ib_ret (at_ret (ib_ret (at_ret (at_ret (ib_ret (at_ret (at_ret ?_)))))))))))))))))))
      have dn := Zu a
      subst a4
      have bJ := bM _ (aY (by intro _ h; cases h))
      have dp := Zu bJ
      subst aR
      have bK := bL _ (bN (by intro _ h; cases h))
      have dq := Zu bK
      subst r
      refine ⟨_, ret1 rfl, ?_⟩
      exact ⟨bo, (Zt (Zt (Zt (Zt (Zt (Zt d m) n) ai) ac) ax) ba), (aU).drop, rfl⟩
     refine W_cond_f be av ?_
     replace av := Zk av
     refine W_skip (Ze (Zd (Za rfl rfl (Zm (v := Vi (af)) rfl ce (Za rfl rfl (Exec.add rfl rfl rfl (Za rfl rfl (Zo (v := Vi (IntKind.i64.wrap (af + 1))) rfl rfl (Zb (ib_normal (Ze (Zd (Za rfl rfl (Zm (v := Vi (i)) rfl cg (Za rfl rfl (Exec.add rfl rfl rfl (Za rfl rfl (Zo (v := Vi (IntKind.i64.wrap (i + 1))) rfl rfl (Zb (Ze ?_))))))))))))))))))))
     have dr := Zu a
     subst a4
     refine ⟨_, rfl, ?_⟩; exact ⟨bo, (Zt (Zt ac ax) ba), aU, cb, cc, cd, rfl, cf, rfl, ch, ci⟩
    refine W_cond_f rfl ar ?_
    replace ar := Zk ar
    refine W_exit (at_exit (at_exit (ib_here (Ze ?_))))
    have dt := Zu a
    subst a4
    refine ⟨_, .inr (aY (by intro _ h; cases h)), ?_⟩; exact ⟨cP, ac, ag, aj, am, a9, an, ao, ak, aA, aB⟩
   rintro d1 ee ⟨cV, aW, b2⟩
   have aw := aW.elim (bI _) (bF _)
   clear aW
   obtain ⟨aZ, aP⟩ := cV
   replace aw := un2_eq aw
   obtain ⟨cQ, bT, bB, cj, ck, cl, cm, d8, d9, cn, co⟩ := b2
   refine (ib_normal (Ze (Zd (Za rfl rfl (Exec.add rfl co rfl (Za rfl rfl (Zm (v := Vi (IntKind.i64.wrap ((b : Int) + 1))) rfl rfl (Zb (Ze ?_)))))))))
   have du := Zu aw
   subst aR
   refine ⟨_, rfl, ?_⟩; exact ⟨cQ, (Zt ai bT), bB, cj, ck, cl, cm, cn, (Eq.trans rfl (wrap_up bG (SliceRep.le (ad.mono (Zt (Zt d m) n)))))⟩
  intro aL d2 ef bx bO
  obtain ⟨cR, bU, bC, cp, cq, cr, ct, bf, cW⟩ := bx
  refine Zc (Zd (Za rfl rfl (Zq rfl cW bf (Zb (Ze (Zc (W_false (Zx (decide_eq_false (by omega))) (W_exit (at_exit (at_exit (ib_here (Ze ?_))))))))))))
  refine ⟨_, .inl bO, ?_⟩; exact ⟨cR, bU, bC, cp, cq, cr, ct, bf⟩
 rintro d3 eg ⟨a7, aX, b3⟩
 have hm := aX.elim (bH _) (bE _)
 clear aX
 obtain ⟨aN, bb, aV, dA, cu, cv, cw, dB⟩ := b3
 refine (Ze (Zc (W_mid (M := fun f' w' => ∃ (bp : PHeap) , PHeap.le aN bp ∧ St w0 bp (H) w' ∧ f' 2 = Value.bool ((g.isNone && decide (a7 = (az.length : Int))))) ?_ ?_)))
 ·refine Zd (Za rfl rfl (Zm (v := errV 77 (g)) rfl cv (Za rfl rfl (Exec.err_eql_nil (T := 77) Tryz.underlying36 rfl rfl rfl (Za rfl rfl (Zm (v := Value.bool (g.isNone)) rfl rfl ?_))))))
  by_cases z : g.isNone = true
  ·refine WL_run rfl (Zf rfl (Zx z)) rfl (Zm (v := Vi (a7)) rfl cw (WL_run rfl (Zf rfl (Zx z)) rfl (Zm (v := x) rfl cu (WL_run rfl (Zf rfl (Zx z)) rfl (Zr S54 rfl rfl (aC.mono (Zt n bb)) (WL_run rfl (Zf rfl (Zx z)) rfl (Exec.eql rfl rfl rfl ?_)))))))
   refine WL_passes 2 (by rw [z]; rfl) ?_
   refine Zb (Ze ?_)
   exact ⟨aN, (Zv _), (aV).drop, (Zx (and_t z)).symm⟩
  replace z := Zk z
  refine WL_passes 6 (by rw [z]; rfl) ?_
  refine Zb (Ze ?_)
  exact ⟨aN, (Zv _), (aV).drop, (Zx (and_f z)).symm⟩
 intro d4 eh b4
 obtain ⟨cS, bV, bD, cx⟩ := b4
 refine (Ze (W_ret ?_))
 have dv := Zu hm
 subst r
 refine ⟨_, ret1 rfl, ?_⟩
 exact ⟨cS, (Zt (Zt (Zt (Zt d m) n) bb) bV), bD, cx⟩
end Go.Pw
