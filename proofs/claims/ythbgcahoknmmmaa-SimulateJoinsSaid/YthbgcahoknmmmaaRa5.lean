/-
  The walks (printed by my generator).
-/
import Derived.Test.YthbgcahoknmmmaaL29
import Derived.Test.YthbgcahoknmmmaaL27
import Derived.Test.YthbgcahoknmmmaaRa4
set_option maxRecDepth 100000
set_option maxHeartbeats 4000000
set_option linter.unusedVariables false
namespace Go.Pw
open Go.Proofs
theorem simulate_conflict_sim {w0 w : World} {s : PHeap} {H : List Res} {a : Job} {b : Job} {q : Value} {t : Value} {u : Value} {x : Value} {y : Value} {z : Value} {aa : Value} {ab : Value} {ac : Value} {ad : Value} {r : Bool} (hm : simulate_conflict_p a b = some r) (hS : St w0 s (H) w) (aG : SliceRep encFact s q a.Start) (a1 : SliceRep encFact s t a.Over) (aH : SliceRep encFact s u a.End) (aI : SliceRep encFact s x a.AtStart) (aJ : SliceRep encFact s y a.AtEnd) (aK : SliceRep encFact s z b.Start) (a2 : SliceRep encFact s aa b.Over) (aL : SliceRep encFact s ab b.End) (aM : SliceRep encFact s ac b.AtStart) (aN : SliceRep encFact s ad b.AtEnd) :
  Calls Try.prog 32 #[Value.agg #[Value.string (a.Name), Vi (a.Duration), q, t, u, x, y], Value.agg #[Value.string (b.Name), Vi (b.Duration), z, aa, ab, ac, ad]] w fun e w' => ∃ v, e = .returned v ∧ ((fun (d1 : Bool) => ∃ (bt : PHeap) , PHeap.le s bt ∧ St w0 bt (H) w' ∧ v = Value.bool (d1)) r) := by
 unfold simulate_conflict_p at hm
 refine calls_of_W Try.func32 rfl rfl (Zc (Zd (Za rfl rfl (Exec.box (cs := [Value.string (a.Name), Vi (a.Duration), q, t, u, x, y]) hS rfl rfl rfl ?_))))
 intro l ey bL
 refine Za rfl rfl (Exec.box (cs := [Value.string (b.Name), Vi (b.Duration), z, aa, ab, ac, ad]) bL rfl rfl rfl ?_)
 intro m ez bM
 refine Za rfl rfl (Zo (v := Value.bool (false)) rfl rfl (Zb (Ze (Zc (Zc (Zd (Za rfl rfl (Exec.buildSlice (Te := 4) (cs := [Value.bool (false), Value.bool (true)]) bM rfl (parts_cons (c := [Value.bool (false)]) (cells_of rfl rfl) (parts_cons (c := [Value.bool (true)]) (cells_of rfl rfl) parts_nil)) (fun _ => by kernel_rfl) ?_))))))))
 intro aq e0 bN
 have bO := St.boxArr (E := encBool) (xs := [false, true]) bN ⟨[Value.bool (false)], [Value.bool (true)], rfl, rfl, ⟨[Value.bool (true)], [], rfl, rfl, rfl⟩⟩ (by simp [maxLen])
 obtain ⟨a9, d, bP, an⟩ := bO.freezeArr
 refine Za rfl rfl (Zr S104 rfl rfl an (Za rfl rfl (Zm (v := Vi (0)) rfl rfl (Zb (Ze ?_)))))
 obtain ⟨aP, b8, ct, cm, cg⟩ := ctl_some hm
 refine W_mid (M := fun f' w' => ∃ s', (aP = .next s' ∨ aP = .brk s') ∧ (fun (_ : Unit) => ∃ (bu : PHeap) , PHeap.le a9 bu ∧ St w0 bu (Res.box l 52 [Value.string (a.Name), Vi (a.Duration), q, t, u, x, y] :: Res.box m 52 [Value.string (b.Name), Vi (b.Duration), z, aa, ab, ac, ad] :: H) w' ∧ f' 2 = Value.pointer (some ⟨l, 0, none⟩) ∧ f' 3 = Value.pointer (some ⟨m, 0, none⟩) ∧ f' 15 = Value.slice (some ⟨aq, 0, none⟩) 2 2 ∧ f' 16 = Vi (([false, true].length : Int))) s') ?_ ?_
 ·refine W_block (W_forC (fun k' s' f' w' => (fun (_ : Unit) => ∃ (bv : PHeap) , PHeap.le a9 bv ∧ St w0 bv (Res.box l 52 [Value.string (a.Name), Vi (a.Duration), q, t, u, x, y] :: Res.box m 52 [Value.string (b.Name), Vi (b.Duration), z, aa, ab, ac, ad] :: H) w' ∧ f' 2 = Value.pointer (some ⟨l, 0, none⟩) ∧ f' 3 = Value.pointer (some ⟨m, 0, none⟩) ∧ f' 15 = Value.slice (some ⟨aq, 0, none⟩) 2 2 ∧ f' 16 = Vi (([false, true].length : Int)) ∧ f' 17 = Vi (k' : Int)) s') b8 ?_ ?_ ?_)
  ·have bQ := (bP).f1
   exact ⟨a9, (Zv _), bQ, rfl, rfl, rfl, rfl, rfl⟩
  ·intro a6 el aQ dI e1 cj bB al cw
   obtain ⟨eg, n, aV, c9, cA, bg, bh, aE⟩ := bB
   refine Zc (Zd (Za rfl rfl (Zq rfl aE bh (Zb (Ze (Zc (W_true (Zx (decide_eq_true (by omega))) (W_skip (Ze (Zc (W_block (Zc (Zd ?_)))))))))))))
   obtain ⟨az, dd, al⟩ := Zg al
   refine Za rfl rfl (Exec.index_rep S104 rfl bg aE (an.mono n) dd ?_)
   intro d4 dS b5
   refine Za rfl rfl (Zw (E := encBool) aV A4 rfl rfl rfl b5 ?_)
   intro ev de
   obtain rfl := encBool_val.1 de
   refine Za rfl rfl (Zo (v := Value.bool (az)) rfl rfl (Zb (Ze (Zc (Zd (Za rfl rfl (Exec.buildSlice (Te := 4) (cs := [Value.bool (false), Value.bool (true)]) aV rfl (parts_cons (c := [Value.bool (false)]) (cells_of rfl rfl) (parts_cons (c := [Value.bool (true)]) (cells_of rfl rfl) parts_nil)) (fun _ => by kernel_rfl) ?_)))))))
   intro aO e2 bR
   have bS := St.boxArr (E := encBool) (xs := [false, true]) bR ⟨[Value.bool (false)], [Value.bool (true)], rfl, rfl, ⟨[Value.bool (true)], [], rfl, rfl, rfl⟩⟩ (by simp [maxLen])
   obtain ⟨aA, o, bT, br⟩ := bS.freezeArr
   refine Za rfl rfl (Zr S104 rfl rfl br (Za rfl rfl (Zm (v := Vi (0)) rfl rfl (Zb (Ze ?_)))))
   obtain ⟨aR, b9, cu, cn, ch⟩ := ctl_some al
   refine W_mid (M := fun f' w' => ∃ s', (aR = .next s' ∨ aR = .brk s') ∧ (fun (_ : Unit) => ∃ (bw : PHeap) , PHeap.le aA bw ∧ St w0 bw (Res.box l 52 [Value.string (a.Name), Vi (a.Duration), q, t, u, x, y] :: Res.box m 52 [Value.string (b.Name), Vi (b.Duration), z, aa, ab, ac, ad] :: H) w' ∧ f' 2 = Value.pointer (some ⟨l, 0, none⟩) ∧ f' 3 = Value.pointer (some ⟨m, 0, none⟩) ∧ f' 6 = Value.bool (az) ∧ f' 15 = Value.slice (some ⟨aq, 0, none⟩) 2 2 ∧ f' 16 = Vi (([false, true].length : Int)) ∧ f' 17 = Vi ((a6 : Int)) ∧ f' 21 = Value.slice (some ⟨aO, 0, none⟩) 2 2 ∧ f' 22 = Vi (([false, true].length : Int))) s') ?_ ?_
   ·refine W_block (W_forC (fun k' s' f' w' => (fun (_ : Unit) => ∃ (bx : PHeap) , PHeap.le aA bx ∧ St w0 bx (Res.box l 52 [Value.string (a.Name), Vi (a.Duration), q, t, u, x, y] :: Res.box m 52 [Value.string (b.Name), Vi (b.Duration), z, aa, ab, ac, ad] :: H) w' ∧ f' 2 = Value.pointer (some ⟨l, 0, none⟩) ∧ f' 3 = Value.pointer (some ⟨m, 0, none⟩) ∧ f' 6 = Value.bool (az) ∧ f' 15 = Value.slice (some ⟨aq, 0, none⟩) 2 2 ∧ f' 16 = Vi (([false, true].length : Int)) ∧ f' 17 = Vi ((a6 : Int)) ∧ f' 21 = Value.slice (some ⟨aO, 0, none⟩) 2 2 ∧ f' 22 = Vi (([false, true].length : Int)) ∧ f' 23 = Vi (k' : Int)) s') b9 ?_ ?_ ?_)
    ·have bU := (bT).f1
     exact ⟨aA, (Zv _), (bU).f1, c9, cA, rfl, bg, bh, aE, rfl, rfl, rfl⟩
    ·intro c2 em aS dJ e3 ck bC af cx
     obtain ⟨eh, p, ar, bi, bj, bk, cB, cC, cD, bl, bm, aF⟩ := bC
     refine Zc (Zd (Za rfl rfl (Zq rfl aF bm (Zb (Ze (Zc (W_true (Zx (decide_eq_true (by omega))) (W_skip (Ze (Zc (W_block (Zc (Zd ?_)))))))))))))
     obtain ⟨b4, df, af⟩ := Zg af
     refine Za rfl rfl (Exec.index_rep S104 rfl bl aF (br.mono p) df ?_)
     intro d5 dT b6
     refine Za rfl rfl (Zw (E := encBool) ar A4 rfl rfl rfl b6 ?_)
     intro ew dg
     obtain rfl := encBool_val.1 dg
     refine Za rfl rfl (Zo (v := Value.bool (b4)) rfl rfl (Zb (Ze (Zc (Zd (Za rfl rfl (Exec.load_box_agg (ds := [Value.string (a.Name), Vi (a.Duration), q, t, u, x, y]) (ar) A52 rfl bi rfl (Za rfl rfl (Zm (v := Value.bool (az)) rfl bk (Za rfl rfl (Exec.load_box_agg (ds := [Value.string (b.Name), Vi (b.Duration), z, aa, ab, ac, ad]) ((ar).f1) A52 rfl bj rfl (Za rfl rfl (Zm (v := Value.bool (b4)) rfl rfl ?_)))))))))))))
     obtain ⟨eI, dh, af⟩ := Zg af
     refine Za rfl rfl (Tc rfl rfl rfl (Zi rfl (Zi rfl (Zi rfl (Zi rfl args_nil)))) (simulate_meeting_sim dh ar (aG.mono (Zt (Zt (Zt d n) o) p)) (a1.mono (Zt (Zt (Zt d n) o) p)) (aH.mono (Zt (Zt (Zt d n) o) p)) (aI.mono (Zt (Zt (Zt d n) o) p)) (aJ.mono (Zt (Zt (Zt d n) o) p)) (aK.mono (Zt (Zt (Zt d n) o) p)) (a2.mono (Zt (Zt (Zt d n) o) p)) (aL.mono (Zt (Zt (Zt d n) o) p)) (aM.mono (Zt (Zt (Zt d n) o) p)) (aN.mono (Zt (Zt (Zt d n) o) p))).r ?_)
     rintro _ e4 ⟨bz, be, aW, rfl⟩
     refine Za rfl rfl (Exec.geq rfl rfl rfl (Zb (Ze ?_)))
     rcases ite_some af with ⟨aj, af⟩ | ⟨aj, af⟩
     ·refine W_cond_t rfl aj (Zc (Zd (Za rfl rfl (Zo (v := Value.bool (true)) rfl rfl (Zb (Ze (W_ret (ib_ret (at_ret (at_ret (ib_ret (at_ret (ib_ret (at_ret (at_ret (ib_ret (at_ret (at_ret ?_))))))))))))))))))
      have d7 := Zu af
      subst aS
      have cp := cu _ (cx (by intro _ h; cases h))
      have d8 := Zu cp
      subst aQ
      have cq := ct _ (cw (by intro _ h; cases h))
      have d9 := Zu cq
      subst r
      refine ⟨_, ret1 rfl, ?_⟩
      exact ⟨bz, (Zt (Zt (Zt (Zt d n) o) p) be), ((aW).drop).drop, rfl⟩
     refine W_cond_f rfl aj ?_
     replace aj := Zk aj
     refine W_skip (ib_normal (Ze (Zd (Za rfl rfl (Exec.add rfl aF rfl (Za rfl rfl (Zm (v := Vi (IntKind.i64.wrap ((c2 : Int) + 1))) rfl rfl (Zb (Ze ?_)))))))))
     have dA := Zu af
     subst aS
     refine ⟨_, rfl, ?_⟩; exact ⟨bz, (Zt p be), ((aW).f1).f1, bi, bj, bk, cB, cC, cD, bl, bm, (Eq.trans rfl (wrap_up ck (SliceRep.le (an.mono (Zt n o)))))⟩
    intro en dK e5 bD cy
    obtain ⟨dp, c3, bV, cE, cF, cG, cH, cI, cJ, cK, bn, dy⟩ := bD
    refine Zc (Zd (Za rfl rfl (Zq rfl dy bn (Zb (Ze (Zc (W_false (Zx (decide_eq_false (by omega))) (W_exit (at_exit (at_exit (ib_here (Ze ?_))))))))))))
    refine ⟨_, .inl cy, ?_⟩; exact ⟨dp, c3, ((bV).f1).f1, cE, cF, cG, cH, cI, cJ, cK, bn⟩
   rintro dL e6 ⟨eo, ba, bH⟩
   have al := ba.elim (cn _) (ch _)
   clear ba
   obtain ⟨dq, c4, bW, cL, cM, dV, cN, cO, cP, dW, dX⟩ := bH
   refine (ib_normal (Ze (Zd (Za rfl rfl (Exec.add rfl cP rfl (Za rfl rfl (Zm (v := Vi (IntKind.i64.wrap ((a6 : Int) + 1))) rfl rfl (Zb (Ze ?_)))))))))
   have dB := Zu al
   subst aQ
   refine ⟨_, rfl, ?_⟩; exact ⟨dq, (Zt (Zt n o) c4), ((bW).f1).f1, cL, cM, cN, cO, (Eq.trans rfl (wrap_up cj (SliceRep.le an)))⟩
  intro ep dM e7 bE cz
  obtain ⟨dr, c5, bX, cQ, cR, cS, bo, dz⟩ := bE
  refine Zc (Zd (Za rfl rfl (Zq rfl dz bo (Zb (Ze (Zc (W_false (Zx (decide_eq_false (by omega))) (W_exit (at_exit (at_exit (ib_here (Ze ?_))))))))))))
  refine ⟨_, .inl cz, ?_⟩; exact ⟨dr, c5, ((bX).f1).f1, cQ, cR, cS, bo⟩
 rintro dN e8 ⟨er, bb, bI⟩
 have hm := bb.elim (cm _) (cg _)
 clear bb
 obtain ⟨ei, g, bY, cT, cU, dY, dZ⟩ := bI
 refine (Ze (Zc (Zc (Zd (Za rfl rfl (Exec.buildSlice (Te := 4) (cs := [Value.bool (false), Value.bool (true)]) bY rfl (parts_cons (c := [Value.bool (false)]) (cells_of rfl rfl) (parts_cons (c := [Value.bool (true)]) (cells_of rfl rfl) parts_nil)) (fun _ => by kernel_rfl) ?_))))))
 intro a3 e9 bZ
 have ca := St.boxArr (E := encBool) (xs := [false, true]) bZ ⟨[Value.bool (false)], [Value.bool (true)], rfl, rfl, ⟨[Value.bool (true)], [], rfl, rfl, rfl⟩⟩ (by simp [maxLen])
 obtain ⟨aB, i, cb, bs⟩ := ca.freezeArr
 refine Za rfl rfl (Zr S104 rfl rfl bs (Za rfl rfl (Zm (v := Vi (0)) rfl rfl (Zb (Ze ?_)))))
 obtain ⟨aT, bA, cv, co, ci⟩ := ctl_some hm
 refine W_mid (M := fun f' w' => ∃ s', (aT = .next s' ∨ aT = .brk s') ∧ (fun (_ : Unit) => ∃ (b0 : PHeap) , PHeap.le aB b0 ∧ St w0 b0 (Res.box l 52 [Value.string (a.Name), Vi (a.Duration), q, t, u, x, y] :: Res.box m 52 [Value.string (b.Name), Vi (b.Duration), z, aa, ab, ac, ad] :: H) w' ∧ f' 2 = Value.pointer (some ⟨l, 0, none⟩) ∧ f' 3 = Value.pointer (some ⟨m, 0, none⟩) ∧ f' 35 = Value.slice (some ⟨a3, 0, none⟩) 2 2 ∧ f' 36 = Vi (([false, true].length : Int))) s') ?_ ?_
 ·refine W_block (W_forC (fun k' s' f' w' => (fun (_ : Unit) => ∃ (b1 : PHeap) , PHeap.le aB b1 ∧ St w0 b1 (Res.box l 52 [Value.string (a.Name), Vi (a.Duration), q, t, u, x, y] :: Res.box m 52 [Value.string (b.Name), Vi (b.Duration), z, aa, ab, ac, ad] :: H) w' ∧ f' 2 = Value.pointer (some ⟨l, 0, none⟩) ∧ f' 3 = Value.pointer (some ⟨m, 0, none⟩) ∧ f' 35 = Value.slice (some ⟨a3, 0, none⟩) 2 2 ∧ f' 36 = Vi (([false, true].length : Int)) ∧ f' 37 = Vi (k' : Int)) s') bA ?_ ?_ ?_)
  ·have cc := (cb).f1
   exact ⟨aB, (Zv _), (cc).f1, cT, cU, rfl, rfl, rfl⟩
  ·intro bd es aU dO eA cl bF ag c0
   obtain ⟨ej, j, a4, av, aw, a7, a8, a0⟩ := bF
   refine Zc (Zd (Za rfl rfl (Zq rfl a0 a8 (Zb (Ze (Zc (W_true (Zx (decide_eq_true (by omega))) (W_skip (Ze (Zc (W_block (Zc (Zd ?_)))))))))))))
   obtain ⟨ao, di, ag⟩ := Zg ag
   refine Za rfl rfl (Exec.index_rep S104 rfl a7 a0 (bs.mono j) di ?_)
   intro d6 dU b7
   refine Za rfl rfl (Zw (E := encBool) a4 A4 rfl rfl rfl b7 ?_)
   intro ex dj
   obtain rfl := encBool_val.1 dj
   refine Za rfl rfl (Zo (v := Value.bool (ao)) rfl rfl (Zb (Ze (Zc (Zd (Za rfl rfl (Exec.load_box_agg (ds := [Value.string (a.Name), Vi (a.Duration), q, t, u, x, y]) (a4) A52 rfl av rfl (Za rfl rfl (Zm (v := Value.bool (ao)) rfl rfl (Za rfl rfl (Tc rfl rfl rfl (Zi rfl (Zi rfl args_nil)) (simulate_happening_sim (simulate_happening_tot a ao) a4 (aG.mono (Zt (Zt (Zt d g) i) j)) (a1.mono (Zt (Zt (Zt d g) i) j)) (aH.mono (Zt (Zt (Zt d g) i) j)) (aI.mono (Zt (Zt (Zt d g) i) j)) (aJ.mono (Zt (Zt (Zt d g) i) j))).r ?_)))))))))))
   rintro _ eB ⟨ek, aC, ax, ai, aX, rfl, ee, dm⟩
   refine Za rfl rfl (Zm (v := Value.tuple #[aC, ax]) rfl rfl (Za rfl rfl (Exec.extract (v := aC) rfl rfl rfl (Za rfl rfl (Exec.extract (v := ax) rfl rfl rfl (Za rfl rfl (Zo (v := aC) rfl rfl (Za rfl rfl (Zo (v := ax) rfl rfl (Zb (Ze (Zc (Zd (Za rfl rfl (Exec.load_box_agg (ds := [Value.string (b.Name), Vi (b.Duration), z, aa, ab, ac, ad]) ((aX).f1) A52 rfl aw rfl (Za rfl rfl (Zm (v := Value.bool (ao)) rfl rfl (Za rfl rfl (Tc rfl rfl rfl (Zi rfl (Zi rfl args_nil)) (simulate_happening_sim (simulate_happening_tot b ao) aX (aK.mono (Zt (Zt (Zt (Zt d g) i) j) ai)) (a2.mono (Zt (Zt (Zt (Zt d g) i) j) ai)) (aL.mono (Zt (Zt (Zt (Zt d g) i) j) ai)) (aM.mono (Zt (Zt (Zt (Zt d g) i) j) ai)) (aN.mono (Zt (Zt (Zt (Zt d g) i) j) ai))).r ?_)))))))))))))))))))
   rintro _ eC ⟨dt, aD, ay, am, aY, rfl, ef, dn⟩
   refine Za rfl rfl (Zm (v := Value.tuple #[aD, ay]) rfl rfl (Za rfl rfl (Exec.extract (v := aD) rfl rfl rfl (Za rfl rfl (Exec.extract (v := ay) rfl rfl rfl (Za rfl rfl (Zo (v := aD) rfl rfl (Za rfl rfl (Zo (v := ay) rfl rfl (Zb (Ze (Zc ?_))))))))))))
   obtain ⟨ap, ah, ag⟩ := Zg ag
   refine W_mid (M := fun f' w' => (fun (ap : Bool) => ∃ (b2 : PHeap) , PHeap.le dt b2 ∧ St w0 b2 (Res.box l 52 [Value.string (a.Name), Vi (a.Duration), q, t, u, x, y] :: Res.box m 52 [Value.string (b.Name), Vi (b.Duration), z, aa, ab, ac, ad] :: H) w' ∧ f' 2 = Value.pointer (some ⟨l, 0, none⟩) ∧ f' 3 = Value.pointer (some ⟨m, 0, none⟩) ∧ f' 35 = Value.slice (some ⟨a3, 0, none⟩) 2 2 ∧ f' 36 = Vi (([false, true].length : Int)) ∧ f' 37 = Vi ((bd : Int)) ∧ f' 64 = Value.bool (ap)) ap) ?_ ?_
   ·refine Zd (Za rfl rfl (Zm (v := ax) rfl rfl (Za rfl rfl (Zp F52_3 rfl aw rfl (Za rfl rfl (Zn ((aY).f1) A23 rfl rfl rfl ?_))))))
    obtain ⟨d2, dk, ah⟩ := Zg ah
    refine Za rfl rfl (Tc rfl rfl rfl (Zi rfl (Zi rfl args_nil)) (simulate_shared_sim dk aY (dm.mono am) (a2.mono (Zt (Zt (Zt (Zt (Zt d g) i) j) ai) am))).r ?_)
    rintro _ eD ⟨du, au, a5, rfl⟩
    refine Za rfl rfl (Exec.geq rfl rfl rfl (Za rfl rfl (Zm (v := Value.bool (decide (0 ≤ d2))) rfl rfl ?_)))
    rcases ite_some ah with ⟨ae, ah⟩ | ⟨ae, ah⟩
    ·refine WL_passes 6 (by rw [ae]; rfl) ?_
     refine Zb (Ze ?_)
     have dC := Zu ah
     subst ap
     exact ⟨du, au, ((a5).f1).f1, av, aw, a7, a8, a0, rfl⟩
    replace ae := Zk ae
    refine WL_run rfl (Zf rfl (Zx ae)) rfl (Zm (v := ay) rfl rfl (WL_run rfl (Zf rfl (Zx ae)) rfl (Zp F52_3 rfl av rfl (WL_run rfl (Zf rfl (Zx ae)) rfl (Zn (a5) A23 rfl rfl rfl ?_)))))
    obtain ⟨d3, dl, ah⟩ := Zg ah
    refine WL_run rfl (Zf rfl (Zx ae)) rfl (Tc rfl rfl rfl (Zi rfl (Zi rfl args_nil)) (simulate_shared_sim dl a5 (dn.mono au) (a1.mono (Zt (Zt (Zt (Zt (Zt (Zt d g) i) j) ai) am) au))).r ?_)
    rintro _ eE ⟨dv, c6, cd, rfl⟩
    refine WL_run rfl (Zf rfl (Zx ae)) rfl (Exec.geq rfl rfl rfl (Za rfl rfl (Exec.pick_f (v := Value.bool (decide (0 ≤ d3))) rfl (Zx ae) rfl (Zb (Ze ?_)))))
    have dD := Zu ah
    subst ap
    exact ⟨dv, (Zt au c6), ((cd).f1).f1, av, aw, a7, a8, a0, rfl⟩
   intro dP eF bJ
   obtain ⟨b3, bf, aZ, cV, cW, cX, cY, cZ, bp⟩ := bJ
   refine (Ze ?_)
   rcases ite_some ag with ⟨ak, ag⟩ | ⟨ak, ag⟩
   ·refine W_cond_t bp ak (Zc (Zd (Za rfl rfl (Zo (v := Value.bool (true)) rfl rfl (Zb (Ze (W_ret (ib_ret (at_ret (at_ret (ib_ret (at_ret (at_ret ?_)))))))))))))
    have dE := Zu ag
    subst aU
    have cr := cv _ (c0 (by intro _ h; cases h))
    have dF := Zu cr
    subst r
    refine ⟨_, ret1 rfl, ?_⟩
    exact ⟨b3, (Zt (Zt (Zt (Zt (Zt (Zt d g) i) j) ai) am) bf), ((aZ).drop).drop, rfl⟩
   refine W_cond_f bp ak ?_
   replace ak := Zk ak
   refine W_skip (ib_normal (Ze (Zd (Za rfl rfl (Exec.add rfl cZ rfl (Za rfl rfl (Zm (v := Vi (IntKind.i64.wrap ((bd : Int) + 1))) rfl rfl (Zb (Ze ?_)))))))))
   have dG := Zu ag
   subst aU
   refine ⟨_, rfl, ?_⟩; exact ⟨b3, (Zt (Zt (Zt j ai) am) bf), ((aZ).f1).f1, cV, cW, cX, cY, (Eq.trans rfl (wrap_up cl (SliceRep.le (an.mono (Zt g i)))))⟩
  intro et dQ eG bG c1
  obtain ⟨dw, c7, ce, da, db, dc, bq, d0⟩ := bG
  refine Zc (Zd (Za rfl rfl (Zq rfl d0 bq (Zb (Ze (Zc (W_false (Zx (decide_eq_false (by omega))) (W_exit (at_exit (at_exit (ib_here (Ze ?_))))))))))))
  refine ⟨_, .inl c1, ?_⟩; exact ⟨dw, c7, ((ce).f1).f1, da, db, dc, bq⟩
 rintro dR eH ⟨eu, bc, bK⟩
 have hm := bc.elim (co _) (ci _)
 clear bc
 obtain ⟨dx, c8, cf, ea, eb, ec, ed⟩ := bK
 refine (Ze (Zc (Zd (Za rfl rfl (Zo (v := Value.bool (false)) rfl rfl (Zb (Ze (W_ret ?_))))))))
 have dH := Zu hm
 subst r
 refine ⟨_, ret1 rfl, ?_⟩
 exact ⟨dx, (Zt (Zt (Zt d g) i) c8), ((cf).drop).drop, rfl⟩
theorem S55 : tySlice Try.prog 55 = some (58, 2, 16) := by kernel_rfl
theorem Z58 : tyZero Try.prog 58 = some (Value.agg #[Vi (0), Vi (0)]) := by kernel_rfl
theorem simulate_Conflicts_sim {w0 w : World} {s : PHeap} {H : List Res} {g : Temporal} {j : Value} {l : Value} {m : Value} {n : Value} {r : (List Arr2_int) × (Option Int)} (hm : simulate_Conflicts_p g = some r) (hS : St w0 s (H) w) (aC : SliceRep (encInt .i64) s j g.Vars) (aD : SliceRep (encInt .i64) s l g.Init) (aE : SliceRep encFact s m g.Goal) (u : SliceRep encJob s n g.Jobs) :
  Calls Try.prog 17 #[Value.agg #[j, l, m, n]] w fun e w' => ∃ v, e = .returned v ∧ ((un2 fun (bL : (List Arr2_int)) (bM : (Option Int)) => ∃ (aq : PHeap) (aA : Value), PHeap.le s aq ∧ St w0 aq (H) w' ∧ v = Value.tuple #[aA, errV 69 (bM)] ∧ SliceRep encArr2_int aq aA bL) r) := by
 unfold simulate_Conflicts_p at hm
 refine calls_of_W Try.func17 rfl rfl (Zc (Zd (Za rfl rfl (Exec.box (cs := [j, l, m, n]) hS rfl rfl rfl ?_))))
 intro i cz a0
 refine Za rfl rfl (Zo (v := Value.slice none 0 0) rfl rfl (Za rfl rfl (Zo (v := errV 69 (none)) rfl rfl (Zb (Ze (Zc (Zc (Zd (Za rfl rfl (Exec.load_box_agg (ds := [j, l, m, n]) (a0) A26 rfl rfl rfl ?_))))))))))
 obtain ⟨ak, bu, hm⟩ := Zg hm
 refine Za rfl rfl (Tc rfl rfl rfl (Zi rfl args_nil) (temporal_Check_sim bu a0 aC aD aE u).r ?_)
 rintro _ c0 ⟨ar, t, al, rfl⟩
 refine Za rfl rfl (Zo (v := errV 69 (ak)) rfl rfl (Zb (Ze (Zc (Zd (Za rfl rfl (Zm (v := errV 69 (ak)) rfl rfl (Za rfl rfl (Exec.err_neq_nil (T := 69) Try.underlying31 rfl rfl rfl (Zb (Ze ?_)))))))))))
 rcases ite_some hm with ⟨aa, hm⟩ | ⟨aa, hm⟩
 ·refine W_cond_t rfl aa (Zc (Zd (Za rfl rfl (Zm (v := errV 69 (ak)) rfl rfl (Za rfl rfl (Zo (v := Value.slice none 0 0) rfl rfl (Za rfl rfl (Zo (v := errV 69 (ak)) rfl rfl (Zb (Ze (W_ret (at_ret ?_))))))))))))
  have bQ := Zu hm
  subst r
  refine ⟨_, ret2 rfl, ?_⟩
  exact ⟨ar, (Value.slice none 0 0), t, (al).drop, (tup2 rfl rfl), (SliceRep.nil _ _)⟩
 refine W_cond_f rfl aa ?_
 replace aa := Zk aa
 refine W_skip (Ze (Zc (Zd (Za rfl rfl (Zo (v := Value.slice none 0 0) rfl rfl (Zb (Ze (Zc (Zc (Zd (Za rfl rfl (Zp F26_3 rfl rfl rfl (Za rfl rfl (Zn (al) A24 rfl rfl rfl (Za rfl rfl (Zr S24 rfl rfl (u.mono t) (Za rfl rfl (Zm (v := Vi (0)) rfl rfl (Zb (Ze ?_))))))))))))))))))))
 obtain ⟨am, aH, hm⟩ := Zg hm
 refine W_block (W_forS (fun k' s' f' w' => (fun (am : (List Arr2_int)) => ∃ (a6 : PHeap) (o : Value), PHeap.le ar a6 ∧ St w0 a6 (Res.box i 26 [j, l, m, n] :: Res.arr encArr2_int 58 o am :: H) w' ∧ f' 1 = Value.pointer (some ⟨i, 0, none⟩) ∧ f' 5 = o ∧ f' 15 = Vi ((g.Jobs.length : Int)) ∧ f' 16 = Vi (k' : Int)) s') aH ?_ ?_ ?_)
 ·have aO := al.nilArr encArr2_int 58
  exact ⟨ar, (Value.slice none 0 0), (Zv _), (aO).f1, rfl, rfl, rfl, rfl⟩
 ·intro a am bD bZ c1 aY aJ ad
  obtain ⟨au, o, ah, aP, bg, bh, a5, aw⟩ := aJ
  refine Zc (Zd (Za rfl rfl (Zq rfl aw a5 (Zb (Ze (Zc (W_true (Zx (decide_eq_true (by omega))) (W_skip (Ze (Zc (W_block (Zc (Zd (Za rfl rfl (Zm (v := Vi ((a : Int))) rfl aw (Za rfl rfl (Zo (v := Vi ((a : Int))) rfl rfl (Zb (Ze (Zc (Zd (Za rfl rfl (Zm (v := Vi ((a : Int))) rfl rfl (Za rfl rfl (Exec.add rfl rfl rfl (Za rfl rfl (Zo (v := Vi (IntKind.i64.wrap ((a : Int) + 1))) rfl rfl (Zb (Ze ?_)))))))))))))))))))))))))))))
  obtain ⟨ay, aI, ce, aZ, aX⟩ := ctl_some ad
  refine W_mid (M := fun f' w' => ∃ s', (ay = .next s' ∨ ay = .brk s') ∧ (un2 fun (ax : Int) (a3 : (List Arr2_int)) => ∃ (a7 : PHeap) (ai : Value), PHeap.le au a7 ∧ St w0 a7 (Res.box i 26 [j, l, m, n] :: Res.arr encArr2_int 58 ai a3 :: H) w' ∧ f' 1 = Value.pointer (some ⟨i, 0, none⟩) ∧ f' 5 = ai ∧ f' 6 = Vi ((a : Int)) ∧ f' 7 = Vi (ax) ∧ f' 15 = Vi ((g.Jobs.length : Int)) ∧ f' 16 = Vi ((a : Int))) s') ?_ ?_
  ·refine W_block (W_while (fun s' f' w' => (un2 fun (b : Int) (a4 : (List Arr2_int)) => ∃ (a8 : PHeap) (z : Value), PHeap.le au a8 ∧ St w0 a8 (Res.box i 26 [j, l, m, n] :: Res.arr encArr2_int 58 z a4 :: H) w' ∧ f' 1 = Value.pointer (some ⟨i, 0, none⟩) ∧ f' 5 = z ∧ f' 6 = Vi ((a : Int)) ∧ f' 7 = Vi (b) ∧ f' 15 = Vi ((g.Jobs.length : Int)) ∧ f' 16 = Vi ((a : Int))) s') aI ?_ ?_)
   ·have aQ := (aP).f1
    exact ⟨au, o, (Zv _), (aQ).f1, bg, bh, rfl, rfl, a5, aw⟩
   intro bI az ca c2 aK d ba
   obtain ⟨b, a4⟩ := bI
   replace d := un2_eq d
   obtain ⟨bE, z, ae, p, x, an, ag, y, ao, ap⟩ := aK
   refine Zc (Zc (Zd (Za rfl rfl (Zm (v := Vi (b)) rfl y (Za rfl rfl (Zp F26_3 rfl x rfl (Za rfl rfl (Zn (p) A24 rfl rfl rfl (Za rfl rfl (Zr S24 rfl rfl (u.mono (Zt (Zt t ah) ae)) (Za rfl rfl (Zq rfl rfl rfl (Zb (Ze ?_))))))))))))))
   rcases ite_some d with ⟨ab, d⟩ | ⟨ab, d⟩
   ·refine W_cond_t rfl ab (W_skip (Ze (Zc (W_block (Zc (W_dl (n0 := 11) (qs 0 10 (.e 10 [] .done)) hmix (by kernel_rfl) (by kernel_rfl) (DL_q rfl rfl (Zp F26_3 rfl x rfl ⟨rfl, ?_⟩))))))))
    refine DL_q rfl rfl (Zn (p.drew) A24 rfl rfl rfl ⟨rfl, ?_⟩)
    refine DL_q rfl rfl (Zm (v := Vi ((a : Int))) rfl ag ⟨rfl, ?_⟩)
    obtain ⟨c9, bv, d⟩ := Zg d
    refine DL_q rfl rfl (Exec.index_repE S24 rfl rfl rfl (u.mono (Zt (Zt t ah) ae)) bv ?_)
    intro bN cg aF bR
    refine ⟨rfl, ?_⟩
    refine DL_q rfl rfl (Zw (E := encJob) p.drew A52 rfl rfl rfl aF ?_)
    intro cx bw
    obtain ⟨cm, cn, co, cp, cq, rfl, b2, b3, b4, b5, b6⟩ := encJob_val.1 bw
    refine ⟨rfl, ?_⟩
    refine DL_q rfl rfl (Zp F26_3 rfl x rfl ⟨rfl, ?_⟩)
    refine DL_q rfl rfl (Zn (p.drew) A24 rfl rfl rfl ⟨rfl, ?_⟩)
    refine DL_q rfl rfl (Zm (v := Vi (b)) rfl y ⟨rfl, ?_⟩)
    obtain ⟨cA, bx, d⟩ := Zg d
    refine DL_q rfl rfl (Exec.index_repE S24 rfl rfl rfl (u.mono (Zt (Zt t ah) ae)) bx ?_)
    intro bO ch aG bS
    refine ⟨rfl, ?_⟩
    refine DL_q rfl rfl (Zw (E := encJob) p.drew A52 rfl rfl rfl aG ?_)
    intro cy bz
    obtain ⟨cr, ct, cu, cv, cw, rfl, b7, b8, b9, bA, bB⟩ := encJob_val.1 bz
    refine ⟨rfl, ?_⟩
    obtain ⟨cB, b0, d⟩ := Zg d
    refine DL_e rfl rfl (Tc rfl rfl rfl (Zi rfl (Zi rfl args_nil)) (simulate_conflict_sim b0 p.drew b2 b3 b4 b5 b6 b7 b8 b9 bA bB).r ?_)
    rintro _ c3 ⟨av, bb, a1, rfl⟩
    refine ⟨ag_nil, ?_⟩
    refine DL_done (Zb (Ze ?_))
    obtain ⟨af, q, d⟩ := Zg d
    refine W_mid (M := fun f' w' => (fun (af : (List Arr2_int)) => ∃ (a9 : PHeap) (aj : Value), PHeap.le av a9 ∧ St w0 a9 (Res.box i 26 [j, l, m, n] :: Res.arr encArr2_int 58 aj af :: H) w' ∧ f' 1 = Value.pointer (some ⟨i, 0, none⟩) ∧ f' 5 = aj ∧ f' 6 = Vi ((a : Int)) ∧ f' 7 = Vi (b) ∧ f' 15 = Vi ((g.Jobs.length : Int)) ∧ f' 16 = Vi ((a : Int))) af) ?_ ?_
    ·rcases ite_some q with ⟨ac, q⟩ | ⟨ac, q⟩
     ·refine W_cond_t rfl ac (Zd (Za rfl rfl (Zm (v := z) rfl an (Za rfl rfl (Zm (v := Vi ((a : Int))) rfl ag (Za rfl rfl (Zm (v := Vi (b)) rfl y (Za rfl rfl (Exec.build rfl (parts_cons (c := [Vi ((a : Int))]) (cells_of rfl rfl) (parts_cons (c := [Vi (b)]) (cells_of rfl rfl) parts_nil)) (v := Value.agg #[Vi ((a : Int)), Vi (b)]) (fun _ => by kernel_rfl) (Za rfl rfl (Exec.buildSlice (Te := 58) (cs := [Vi ((a : Int)), Vi (b)]) a1 rfl (parts_cons (c := [Vi ((a : Int)), Vi (b)]) (cells_of rfl rfl) parts_nil) (fun _ => by kernel_rfl) ?_)))))))))))
      intro bP c4 aR
      obtain ⟨cf, b1, q⟩ := Zg q
      refine Za rfl rfl (Exec.append_box (E := encArr2_int) (ys := [(⟨(a : Int), b⟩ : Arr2_int)]) (aR).f2 S55 Z58 rfl (by decide) rfl rfl rfl rfl ⟨[Vi ((a : Int)), Vi (b)], [], rfl, ⟨[Vi ((a : Int))], [Vi (b)], rfl, rfl, rfl⟩, rfl⟩ rfl b1 ?_)
      intro aB c5 aS
      refine Za rfl rfl (Zo (v := aB) rfl rfl (Zb (Ze ?_)))
      have bT := Zu q
      subst af
      exact ⟨av, aB, (Zv _), (aS).f1, x, rfl, ag, y, ao, ap⟩
     refine W_cond_f rfl ac ?_
     replace ac := Zk ac
     refine W_skip (Ze ?_)
     have bU := Zu q
     subst af
     exact ⟨av, z, (Zv _), ((a1).f1).f1, x, an, ag, y, ao, ap⟩
    intro cb c6 aM
    obtain ⟨bF, aj, bc, aT, bi, bj, bk, bl, bm, bn⟩ := aM
    refine (ib_normal (Ze (Zd (Za rfl rfl (Zm (v := Vi (b)) rfl bl (Za rfl rfl (Exec.add rfl rfl rfl (Za rfl rfl (Zo (v := Vi (IntKind.i64.wrap (b + 1))) rfl rfl (Zb (Ze ?_)))))))))))
    have bV := Zu d
    subst az
    refine ⟨_, rfl, ?_⟩; exact ⟨bF, aj, (Zt (Zt ae bb) bc), ((aT).f1).f1, bi, bj, bk, rfl, bm, bn⟩
   refine W_cond_f rfl ab ?_
   replace ab := Zk ab
   refine W_exit (at_exit (at_exit (ib_here (Ze ?_))))
   have bW := Zu d
   subst az
   refine ⟨_, .inr (ba (by intro _ h; cases h)), ?_⟩; exact ⟨bE, z, ae, ((p).f1).f1, x, an, ag, y, ao, ap⟩
  rintro cc c7 ⟨bJ, a2, aN⟩
  have ad := a2.elim (aZ _) (aX _)
  clear a2
  obtain ⟨ax, a3⟩ := bJ
  replace ad := un2_eq ad
  obtain ⟨bG, ai, bd, aU, bo, bp, ci, cj, bq, br⟩ := aN
  refine (ib_normal (Ze (Zd (Za rfl rfl (Exec.add rfl br rfl (Za rfl rfl (Zm (v := Vi (IntKind.i64.wrap ((a : Int) + 1))) rfl rfl (Zb (Ze ?_)))))))))
  have bX := Zu ad
  subst bD
  exact ⟨bG, ai, (Zt ah bd), ((aU).f1).f1, bo, bp, bq, (Eq.trans rfl (wrap_up aY (SliceRep.le (u.mono t))))⟩
 intro cd c8 aL
 obtain ⟨cl, o, be, aV, ck, bs, bt, bK⟩ := aL
 refine Zc (Zd (Za rfl rfl (Zq rfl bK bt (Zb (Ze (Zc (W_false (Zx (decide_eq_false (by omega))) (W_exit (at_exit (at_exit (ib_here (Ze (Zc (Zd (Za rfl rfl (Zm (v := o) rfl bs (Za rfl rfl (Zo (v := o) rfl rfl (Za rfl rfl (Zo (v := errV 69 (none)) rfl rfl (Zb (Ze (W_ret ?_)))))))))))))))))))))))
 have bY := Zu hm
 subst r
 refine ⟨_, ret2 rfl, ?_⟩
 obtain ⟨bH, bf, aW, bC⟩ := (aV).f1.freezeArr
 exact ⟨bH, o, (Zt (Zt t be) bf), (aW).drop, (tup2 rfl rfl), bC⟩
theorem A58 : tyAgg Try.prog 58 = some (true, 2) := by kernel_rfl
theorem IA58 : intArr Try.prog 58 2 = true := by kernel_rfl
theorem law58_SimulateJoins_sim {w0 w : World} {s : PHeap} {H : List Res} {fu : Nat} {a9 : Temporal} {ac : (List Launch)} {ak : (List Launch)} {n : Value} {o : Value} {p : Value} {t : Value} {g : Value} {l : Value} {r : Bool} (hm : law58_SimulateJoins_p fu a9 ac ak = some r) (hS : St w0 s (H) w) (ar : SliceRep (encInt .i64) s n a9.Vars) (au : SliceRep (encInt .i64) s o a9.Init) (av : SliceRep encFact s p a9.Goal) (aw : SliceRep encJob s t a9.Jobs) (ax : SliceRep encLaunch s g ac) (ay : SliceRep encLaunch s l ak) :
  Calls Try.prog 6 #[Value.agg #[n, o, p, t], g, l] w fun e w' => ∃ v, e = .returned v ∧ ((fun (eF : Bool) => ∃ (bM : PHeap) , PHeap.le s bM ∧ St w0 bM (H) w' ∧ v = Value.bool (eF)) r) := by
 unfold law58_SimulateJoins_p at hm
 refine calls_of_W Try.func6 rfl rfl (Zc (Zd (Za rfl rfl (Exec.box (cs := [n, o, p, t]) hS rfl rfl rfl ?_))))
 intro x fR cn
 refine Za rfl rfl (Zo (v := Value.bool (false)) rfl rfl (Zb (Ze (Zc (Zc ?_)))))
 obtain ⟨am, a, hm⟩ := Zg hm
 refine W_mid (M := fun f' w' => (fun (am : Bool) => ∃ (bN : PHeap) , PHeap.le s bN ∧ St w0 bN (Res.box x 26 [n, o, p, t] :: H) w' ∧ f' 1 = g ∧ f' 2 = l ∧ f' 3 = Value.pointer (some ⟨x, 0, none⟩) ∧ f' 40 = Value.bool (am)) am) ?_ ?_
 ·refine Zd ?_
  obtain ⟨eG, eg, a⟩ := Zg a
  refine Za rfl rfl (Tc rfl rfl rfl args_nil (law58_awake_sim eg cn ).r ?_)
  rintro _ fS ⟨ez, b, aL, rfl⟩
  refine Za rfl rfl (Exec.not rfl rfl (Za rfl rfl (Zm (v := Value.bool (!eG)) rfl rfl ?_)))
  rcases ite_some a with ⟨af, a⟩ | ⟨af, a⟩
  ·refine WL_passes 23 (by rw [af]; rfl) ?_
   refine Zb (Ze ?_)
   have eP := Zu a
   subst am
   exact ⟨ez, b, aL, rfl, rfl, rfl, rfl⟩
  replace af := Zk af
  refine WL_run rfl (Zf rfl (Zx af)) rfl (Exec.load_box_agg (ds := [n, o, p, t]) (aL) A26 rfl rfl rfl (WL_run rfl (Zf rfl (Zx af)) rfl (Zm (v := g) rfl rfl ?_)))
  obtain ⟨gw, eh, a⟩ := Zg a
  refine WL_run rfl (Zf rfl (Zx af)) rfl (Tc rfl rfl rfl (Zi rfl (Zi rfl args_nil)) (law58_few_sim eh aL (ar.mono b) (au.mono b) (av.mono b) (aw.mono b) (ax.mono b)).r ?_)
  rintro _ fT ⟨e0, u, aM, rfl⟩
  refine WL_run rfl (Zf rfl (Zx af)) rfl (Exec.not rfl rfl ?_)
  refine WL_passes 2 (by rw [af]; rfl) ?_
  rcases ite_some a with ⟨ag, a⟩ | ⟨ag, a⟩
  ·refine WL_passes 17 (by rw [ag]; rfl) ?_
   refine Zb (Ze ?_)
   have eQ := Zu a
   subst am
   exact ⟨e0, (Zt b u), aM, rfl, rfl, rfl, rfl⟩
  replace ag := Zk ag
  refine WL_run rfl (Zf rfl (Zx ag)) rfl (Exec.load_box_agg (ds := [n, o, p, t]) (aM) A26 rfl rfl rfl (WL_run rfl (Zf rfl (Zx ag)) rfl (Zm (v := l) rfl rfl ?_)))
  obtain ⟨gx, ei, a⟩ := Zg a
  refine WL_run rfl (Zf rfl (Zx ag)) rfl (Tc rfl rfl rfl (Zi rfl (Zi rfl args_nil)) (law58_few_sim ei aM (ar.mono (Zt b u)) (au.mono (Zt b u)) (av.mono (Zt b u)) (aw.mono (Zt b u)) (ay.mono (Zt b u))).r ?_)
  rintro _ fU ⟨e1, ab, aN, rfl⟩
  refine WL_run rfl (Zf rfl (Zx ag)) rfl (Exec.not rfl rfl ?_)
  refine WL_passes 2 (by rw [ag]; rfl) ?_
  rcases ite_some a with ⟨ah, a⟩ | ⟨ah, a⟩
  ·refine WL_passes 11 (by rw [ah]; rfl) ?_
   refine Zb (Ze ?_)
   have eR := Zu a
   subst am
   exact ⟨e1, (Zt (Zt b u) ab), aN, rfl, rfl, rfl, rfl⟩
  replace ah := Zk ah
  refine WL_run rfl (Zf rfl (Zx ah)) rfl (Exec.load_box_agg (ds := [n, o, p, t]) (aN) A26 rfl rfl rfl (WL_run rfl (Zf rfl (Zx ah)) rfl (Zm (v := g) rfl rfl ?_)))
  obtain ⟨gy, ej, a⟩ := Zg a
  refine WL_run rfl (Zf rfl (Zx ah)) rfl (Tc rfl rfl rfl (Zi rfl (Zi rfl args_nil)) (law58_harmless_sim ej aN (ar.mono (Zt (Zt b u) ab)) (au.mono (Zt (Zt b u) ab)) (av.mono (Zt (Zt b u) ab)) (aw.mono (Zt (Zt b u) ab)) (ax.mono (Zt (Zt b u) ab))).r ?_)
  rintro _ fV ⟨e2, ao, aO, rfl⟩
  refine WL_run rfl (Zf rfl (Zx ah)) rfl (Exec.not rfl rfl ?_)
  refine WL_passes 2 (by rw [ah]; rfl) ?_
  rcases ite_some a with ⟨ai, a⟩ | ⟨ai, a⟩
  ·refine WL_passes 5 (by rw [ai]; rfl) ?_
   refine Zb (Ze ?_)
   have eS := Zu a
   subst am
   exact ⟨e2, (Zt (Zt (Zt b u) ab) ao), aO, rfl, rfl, rfl, rfl⟩
  replace ai := Zk ai
  refine WL_run rfl (Zf rfl (Zx ai)) rfl (Exec.load_box_agg (ds := [n, o, p, t]) (aO) A26 rfl rfl rfl (WL_run rfl (Zf rfl (Zx ai)) rfl (Zm (v := l) rfl rfl ?_)))
  obtain ⟨eH, ek, a⟩ := Zg a
  refine WL_run rfl (Zf rfl (Zx ai)) rfl (Tc rfl rfl rfl (Zi rfl (Zi rfl args_nil)) (law58_harmless_sim ek aO (ar.mono (Zt (Zt (Zt b u) ab) ao)) (au.mono (Zt (Zt (Zt b u) ab) ao)) (av.mono (Zt (Zt (Zt b u) ab) ao)) (aw.mono (Zt (Zt (Zt b u) ab) ao)) (ay.mono (Zt (Zt (Zt b u) ab) ao))).r ?_)
  rintro _ fW ⟨e3, cO, co, rfl⟩
  refine WL_run rfl (Zf rfl (Zx ai)) rfl (Exec.not rfl rfl (Za rfl rfl (Exec.pick_f (v := Value.bool (!eH)) rfl (Zx ai) rfl (Zb (Ze ?_)))))
  have eT := Zu a
  subst am
  exact ⟨e3, (Zt (Zt (Zt (Zt b u) ab) ao) cO), co, rfl, rfl, rfl, rfl⟩
 intro fh fX ci
 obtain ⟨fA, j, aP, bw, cW, bx, bz⟩ := ci
 refine (Ze ?_)
 rcases ite_some hm with ⟨a3, hm⟩ | ⟨a3, hm⟩
 ·refine W_cond_t bz a3 (Zc (Zd ?_))
  obtain ⟨eI, el, hm⟩ := Zg hm
  refine Za rfl rfl (Tc rfl rfl rfl args_nil (law58_awake_sim el aP ).r ?_)
  rintro _ fY ⟨e4, cP, cp, rfl⟩
  refine Za rfl rfl (Zo (v := Value.bool (eI)) rfl rfl (Zb (Ze (W_ret (at_ret ?_)))))
  have eU := Zu hm
  subst r
  refine ⟨_, ret1 rfl, ?_⟩
  exact ⟨e4, (Zt j cP), (cp).drop, rfl⟩
 refine W_cond_f bz a3 ?_
 replace a3 := Zk a3
 refine W_skip (Ze (Zc (Zd (Za rfl rfl (Exec.load_box_agg (ds := [n, o, p, t]) (aP) A26 rfl bx rfl ?_)))))
 obtain ⟨eB, em, hm⟩ := Zg hm
 obtain ⟨aZ, aI⟩ := eB
 replace hm := un2_eq hm
 refine Za rfl rfl (Tc rfl rfl rfl (Zi rfl args_nil) (simulate_Conflicts_sim em aP (ar.mono j) (au.mono j) (av.mono j) (aw.mono j)).r ?_)
 rintro _ fZ ⟨aF, z, y, be, rfl, aU⟩
 refine Za rfl rfl (Zm (v := Value.tuple #[z, errV 69 (aI)]) rfl rfl (Za rfl rfl (Exec.extract (v := z) rfl rfl rfl (Za rfl rfl (Exec.extract (v := errV 69 (aI)) rfl rfl rfl (Za rfl rfl (Zo (v := z) rfl rfl (Za rfl rfl (Zo (v := errV 69 (aI)) rfl rfl (Zb (Ze (Zc (Zc (Zd (Za rfl rfl (Zm (v := errV 69 (aI)) rfl rfl (Za rfl rfl (Exec.err_neq_nil (T := 69) Try.underlying31 rfl rfl rfl (Zb (Ze ?_))))))))))))))))))))
 rcases ite_some hm with ⟨a4, hm⟩ | ⟨a4, hm⟩
 ·refine W_cond_t rfl a4 (Zc (Zd (Za rfl rfl (Zo (v := Value.bool (false)) rfl rfl (Zb (Ze (W_ret (at_ret ?_))))))))
  have eV := Zu hm
  subst r
  refine ⟨_, ret1 rfl, ?_⟩
  exact ⟨aF, (Zt j y), (be).drop, rfl⟩
 refine W_cond_f rfl a4 ?_
 replace a4 := Zk a4
 refine W_skip (Ze (Zc (Zc (Zd (Za rfl rfl (Zm (v := g) rfl bw (Za rfl rfl (Zr S27 rfl rfl (ax.mono (Zt j y)) (Za rfl rfl (Zm (v := Vi (0)) rfl rfl (Zb (Ze ?_))))))))))))
 obtain ⟨ba, bZ, bq, cB, c5⟩ := ctl_some hm
 refine W_mid (M := fun f' w' => ∃ s', (ba = .next s' ∨ ba = .brk s') ∧ (fun (_ : Unit) => ∃ (bO : PHeap) , PHeap.le aF bO ∧ St w0 bO (Res.box x 26 [n, o, p, t] :: H) w' ∧ f' 1 = g ∧ f' 2 = l ∧ f' 3 = Value.pointer (some ⟨x, 0, none⟩) ∧ f' 7 = z ∧ f' 49 = g ∧ f' 50 = Vi ((ac.length : Int))) s') ?_ ?_
 ·refine W_block (W_forC (fun k' s' f' w' => (fun (_ : Unit) => ∃ (bP : PHeap) , PHeap.le aF bP ∧ St w0 bP (Res.box x 26 [n, o, p, t] :: H) w' ∧ f' 1 = g ∧ f' 2 = l ∧ f' 3 = Value.pointer (some ⟨x, 0, none⟩) ∧ f' 7 = z ∧ f' 49 = g ∧ f' 50 = Vi ((ac.length : Int)) ∧ f' 51 = Vi (k' : Int)) s') bZ ?_ ?_ ?_)
  ·exact ⟨aF, (Zv _), be, bw, cW, bx, rfl, rfl, rfl, rfl⟩
  ·intro a2 fD aJ fi ga c8 cc a7 bs
   obtain ⟨aV, ae, bf, cX, b0, cY, cZ, b1, b2, aX⟩ := cc
   refine Zc (Zd (Za rfl rfl (Zq rfl aX b2 (Zb (Ze (Zc (W_true (Zx (decide_eq_true (by omega))) (W_skip (Ze (Zc (W_block (Zc (Zd ?_)))))))))))))
   obtain ⟨d, en, a7⟩ := Zg a7
   refine Za rfl rfl (Exec.index_rep S27 rfl b1 aX (ax.mono (Zt (Zt j y) ae)) en ?_)
   intro eK fv bW
   refine Za rfl rfl (Zw (E := encLaunch) bf A45 rfl rfl rfl bW ?_)
   intro fM eo
   obtain rfl := encLaunch_val.1 eo
   refine Za rfl rfl (Exec.alloc (cs := [Vi (0), Vi (0)]) bf Z45 rfl rfl ?_)
   intro ad gb cq
   refine Za rfl rfl (Exec.store_box (ds := [Vi (d.At), Vi (d.Job)]) (es := [Vi (d.At), Vi (d.Job)]) cq A45 rfl rfl rfl rfl (Zj rfl (Zj rfl one_nil)) (Nat.le_of_ble_eq_true rfl) rfl ?_)
   intro gc cr
   refine Zb (Ze (Zc (Zd (Za rfl rfl (Zm (v := l) rfl b0 (Za rfl rfl (Zr S27 rfl rfl (ay.mono (Zt (Zt j y) ae)) (Za rfl rfl (Zm (v := Vi (0)) rfl rfl (Zb (Ze ?_)))))))))))
   obtain ⟨bb, ca, br, cC, c6⟩ := ctl_some a7
   refine W_mid (M := fun f' w' => ∃ s', (bb = .next s' ∨ bb = .brk s') ∧ (fun (_ : Unit) => ∃ (bQ : PHeap) , PHeap.le aV bQ ∧ St w0 bQ (Res.box x 26 [n, o, p, t] :: Res.box ad 45 [Vi (d.At), Vi (d.Job)] :: H) w' ∧ f' 1 = g ∧ f' 2 = l ∧ f' 3 = Value.pointer (some ⟨x, 0, none⟩) ∧ f' 7 = z ∧ f' 10 = Value.pointer (some ⟨ad, 0, none⟩) ∧ f' 49 = g ∧ f' 50 = Vi ((ac.length : Int)) ∧ f' 51 = Vi ((a2 : Int)) ∧ f' 55 = l ∧ f' 56 = Vi ((ak.length : Int))) s') ?_ ?_
   ·refine W_block (W_forC (fun k' s' f' w' => (fun (_ : Unit) => ∃ (bR : PHeap) , PHeap.le aV bR ∧ St w0 bR (Res.box x 26 [n, o, p, t] :: Res.box ad 45 [Vi (d.At), Vi (d.Job)] :: H) w' ∧ f' 1 = g ∧ f' 2 = l ∧ f' 3 = Value.pointer (some ⟨x, 0, none⟩) ∧ f' 7 = z ∧ f' 10 = Value.pointer (some ⟨ad, 0, none⟩) ∧ f' 49 = g ∧ f' 50 = Vi ((ac.length : Int)) ∧ f' 51 = Vi ((a2 : Int)) ∧ f' 55 = l ∧ f' 56 = Vi ((ak.length : Int)) ∧ f' 57 = Vi (k' : Int)) s') ca ?_ ?_ ?_)
    ·have ct := (cr).f1
     exact ⟨aV, (Zv _), ct, cX, b0, cY, cZ, rfl, b1, b2, aX, rfl, rfl, rfl⟩
    ·intro aB fE aK fj gd c9 cd aj bt
     obtain ⟨aG, ap, bg, da, db, dc, b3, b4, dd, de, df, b5, b6, aY⟩ := cd
     refine Zc (Zd (Za rfl rfl (Zq rfl aY b6 (Zb (Ze (Zc (W_true (Zx (decide_eq_true (by omega))) (W_skip (Ze (Zc (W_block (Zc (Zd ?_)))))))))))))
     obtain ⟨m, ep, aj⟩ := Zg aj
     refine Za rfl rfl (Exec.index_rep S27 rfl b5 aY (ay.mono (Zt (Zt (Zt j y) ae) ap)) ep ?_)
     intro eL fw bX
     refine Za rfl rfl (Zw (E := encLaunch) bg A45 rfl rfl rfl bX ?_)
     intro fN er
     obtain rfl := encLaunch_val.1 er
     refine Za rfl rfl (Exec.alloc (cs := [Vi (0), Vi (0)]) bg Z45 rfl rfl ?_)
     intro az gf cu
     refine Za rfl rfl (Exec.store_box (ds := [Vi (m.At), Vi (m.Job)]) (es := [Vi (m.At), Vi (m.Job)]) cu A45 rfl rfl rfl rfl (Zj rfl (Zj rfl one_nil)) (Nat.le_of_ble_eq_true rfl) rfl ?_)
     intro gg aA
     refine Zb (Ze (Zc (Zc (Zd (Za rfl rfl (Zp F45_1 rfl b4 rfl (Za rfl rfl (Zn ((aA).f2) A3 rfl rfl rfl (Za rfl rfl (Zp F45_1 rfl rfl rfl (Za rfl rfl (Zn (aA) A3 rfl rfl rfl (Za rfl rfl (Exec.eql rfl rfl rfl (Zb (Ze ?_))))))))))))))))
     rcases ite_some aj with ⟨a5, aj⟩ | ⟨a5, aj⟩
     ·refine W_cond_t rfl a5 (Zc (Zd (Za rfl rfl (Zo (v := Value.bool (true)) rfl rfl (Zb (Ze (W_ret (at_ret (ib_ret (at_ret (at_ret (ib_ret (at_ret (ib_ret (at_ret (at_ret (ib_ret (at_ret (at_ret ?_)))))))))))))))))))
      have eW := Zu aj
      subst aK
      have cE := br _ (bt (by intro _ h; cases h))
      have eX := Zu cE
      subst aJ
      have cF := bq _ (bs (by intro _ h; cases h))
      have eY := Zu cF
      subst r
      refine ⟨_, ret1 rfl, ?_⟩
      exact ⟨aG, (Zt (Zt (Zt j y) ae) ap), (((aA).drop).drop).drop, rfl⟩
     refine W_cond_f rfl a5 ?_
     replace a5 := Zk a5
     refine W_skip (Ze (Zc (Zd (Za rfl rfl (Zm (v := z) rfl b3 (Za rfl rfl (Zr S55 rfl rfl (aU.mono (Zt ae ap)) (Za rfl rfl (Zm (v := Vi (0)) rfl rfl (Zb (Ze ?_)))))))))))
     obtain ⟨bc, cb, cJ, cD, c7⟩ := ctl_some aj
     refine W_mid (M := fun f' w' => ∃ s', (bc = .next s' ∨ bc = .brk s') ∧ (fun (_ : Unit) => ∃ (bS : PHeap) , PHeap.le aG bS ∧ St w0 bS (Res.box x 26 [n, o, p, t] :: Res.box ad 45 [Vi (d.At), Vi (d.Job)] :: Res.box az 45 [Vi (m.At), Vi (m.Job)] :: H) w' ∧ f' 1 = g ∧ f' 2 = l ∧ f' 3 = Value.pointer (some ⟨x, 0, none⟩) ∧ f' 7 = z ∧ f' 10 = Value.pointer (some ⟨ad, 0, none⟩) ∧ f' 12 = Value.pointer (some ⟨az, 0, none⟩) ∧ f' 49 = g ∧ f' 50 = Vi ((ac.length : Int)) ∧ f' 51 = Vi ((a2 : Int)) ∧ f' 55 = l ∧ f' 56 = Vi ((ak.length : Int)) ∧ f' 57 = Vi ((aB : Int)) ∧ f' 66 = z ∧ f' 67 = Vi ((aZ.length : Int))) s') ?_ ?_
     ·refine W_block (W_forC (fun k' s' f' w' => (fun (_ : Unit) => ∃ (bT : PHeap) , PHeap.le aG bT ∧ St w0 bT (Res.box x 26 [n, o, p, t] :: Res.box ad 45 [Vi (d.At), Vi (d.Job)] :: Res.box az 45 [Vi (m.At), Vi (m.Job)] :: H) w' ∧ f' 1 = g ∧ f' 2 = l ∧ f' 3 = Value.pointer (some ⟨x, 0, none⟩) ∧ f' 7 = z ∧ f' 10 = Value.pointer (some ⟨ad, 0, none⟩) ∧ f' 12 = Value.pointer (some ⟨az, 0, none⟩) ∧ f' 49 = g ∧ f' 50 = Vi ((ac.length : Int)) ∧ f' 51 = Vi ((a2 : Int)) ∧ f' 55 = l ∧ f' 56 = Vi ((ak.length : Int)) ∧ f' 57 = Vi ((aB : Int)) ∧ f' 66 = z ∧ f' 67 = Vi ((aZ.length : Int)) ∧ f' 68 = Vi (k' : Int)) s') cb ?_ ?_ ?_)
      ·have cv := (aA).f2
       exact ⟨aG, (Zv _), (cv).f2, da, db, dc, b3, b4, rfl, dd, de, df, b5, b6, aY, rfl, rfl, rfl⟩
      ·intro bu fF bd fk gh cA ce an cK
       obtain ⟨aW, aQ, bh, b7, b8, b9, bA, aC, aD, bB, bC, bD, bE, bF, bG, aR, aS, aH⟩ := ce
       refine Zc (Zd (Za rfl rfl (Zq rfl aH aS (Zb (Ze (Zc (W_true (Zx (decide_eq_true (by omega))) (W_skip (Ze (Zc (W_block (Zc (Zd ?_)))))))))))))
       obtain ⟨i, et, an⟩ := Zg an
       refine Za rfl rfl (Exec.index_rep S55 rfl aR aH (aU.mono (Zt (Zt ae ap) aQ)) et ?_)
       intro eM fx bY
       refine Za rfl rfl (Zw (E := encArr2_int) bh A58 rfl rfl rfl bY ?_)
       intro fO eu
       obtain rfl := encArr2_int_val.1 eu
       refine Za rfl rfl (Exec.alloc (cs := [Vi (0), Vi (0)]) bh Z58 rfl rfl ?_)
       intro eN gi cw
       refine Za rfl rfl (Exec.store_box (ds := [Vi (i.a0), Vi (i.a1)]) (es := [Vi (i.a0), Vi (i.a1)]) cw A58 rfl rfl rfl rfl (Zj rfl (Zj rfl one_nil)) (Nat.le_of_ble_eq_true rfl) rfl ?_)
       intro gj al
       refine Zb (Ze (Zc (W_mid (M := fun f' w' => ∃ (bU : PHeap) , PHeap.le aW bU ∧ St w0 bU (Res.box x 26 [n, o, p, t] :: Res.box ad 45 [Vi (d.At), Vi (d.Job)] :: Res.box az 45 [Vi (m.At), Vi (m.Job)] :: H) w' ∧ f' 1 = g ∧ f' 2 = l ∧ f' 3 = Value.pointer (some ⟨x, 0, none⟩) ∧ f' 7 = z ∧ f' 10 = Value.pointer (some ⟨ad, 0, none⟩) ∧ f' 12 = Value.pointer (some ⟨az, 0, none⟩) ∧ f' 49 = g ∧ f' 50 = Vi ((ac.length : Int)) ∧ f' 51 = Vi ((a2 : Int)) ∧ f' 55 = l ∧ f' 56 = Vi ((ak.length : Int)) ∧ f' 57 = Vi ((aB : Int)) ∧ f' 66 = z ∧ f' 67 = Vi ((aZ.length : Int)) ∧ f' 68 = Vi ((bu : Int)) ∧ f' 87 = Value.bool (((eqs [i.a0, i.a1] [d.Job, m.Job]) || eqs [i.a0, i.a1] [m.Job, d.Job]))) ?_ ?_)))
       ·refine Zd (Za rfl rfl (Exec.load_box_agg (ds := [Vi (i.a0), Vi (i.a1)]) (al) A58 rfl rfl rfl (Za rfl rfl (Zp F45_1 rfl aC rfl (Za rfl rfl (Zn ((al).f2) A3 rfl rfl rfl (Za rfl rfl (Zp F45_1 rfl aD rfl (Za rfl rfl (Zn ((al).f3) A3 rfl rfl rfl (Za rfl rfl (Exec.build rfl (parts_cons (c := [Vi (d.Job)]) (cells_of rfl rfl) (parts_cons (c := [Vi (m.Job)]) (cells_of rfl rfl) parts_nil)) (v := Value.agg #[Vi (d.Job), Vi (m.Job)]) (fun _ => by kernel_rfl) (Za rfl rfl (Exec.arr_eql (xs := [i.a0, i.a1]) (ys := [d.Job, m.Job]) IA58 rfl rfl rfl rfl rfl rfl rfl (Za rfl rfl (Zm (v := Value.bool (eqs [i.a0, i.a1] [d.Job, m.Job])) rfl rfl ?_))))))))))))))))
        by_cases aa : (eqs [i.a0, i.a1] [d.Job, m.Job]) = true
        ·refine WL_passes 8 (by rw [aa]; rfl) ?_
         refine Zb (Ze ?_)
         exact ⟨aW, (Zv _), ((((al).drop).f2).f2).f2, b7, b8, b9, bA, aC, aD, bB, bC, bD, bE, bF, bG, aR, aS, aH, (Zx (or_t aa)).symm⟩
        replace aa := Zk aa
        refine WL_run rfl (Zf rfl (Zx aa)) rfl (Exec.load_box_agg (ds := [Vi (i.a0), Vi (i.a1)]) (al) A58 rfl rfl rfl (WL_run rfl (Zf rfl (Zx aa)) rfl (Zp F45_1 rfl aD rfl (WL_run rfl (Zf rfl (Zx aa)) rfl (Zn ((al).f3) A3 rfl rfl rfl (WL_run rfl (Zf rfl (Zx aa)) rfl (Zp F45_1 rfl aC rfl (WL_run rfl (Zf rfl (Zx aa)) rfl (Zn ((al).f2) A3 rfl rfl rfl (WL_run rfl (Zf rfl (Zx aa)) rfl (Exec.build rfl (parts_cons (c := [Vi (m.Job)]) (cells_of rfl rfl) (parts_cons (c := [Vi (d.Job)]) (cells_of rfl rfl) parts_nil)) (v := Value.agg #[Vi (m.Job), Vi (d.Job)]) (fun _ => by kernel_rfl) (WL_run rfl (Zf rfl (Zx aa)) rfl (Exec.arr_eql (xs := [i.a0, i.a1]) (ys := [m.Job, d.Job]) IA58 rfl rfl rfl rfl rfl rfl rfl (Za rfl rfl (Exec.pick_f (v := Value.bool (eqs [i.a0, i.a1] [m.Job, d.Job])) rfl (Zx aa) rfl (Zb (Ze ?_)))))))))))))))))
        exact ⟨aW, (Zv _), ((((al).drop).f2).f2).f2, b7, b8, b9, bA, aC, aD, bB, bC, bD, bE, bF, bG, aR, aS, aH, (Zx (or_f aa)).symm⟩
       intro fl gk cj
       obtain ⟨bV, bv, bi, dg, dh, di, dj, dk, dl, dm, dn, dp, dq, dr, dt, du, dv, dw, bH⟩ := cj
       refine (Ze ?_)
       rcases ite_some an with ⟨a6, an⟩ | ⟨a6, an⟩
       ·refine W_cond_t bH a6 (Zc (Zd (Za rfl rfl (Zo (v := Value.bool (true)) rfl rfl (Zb (Ze (W_ret (ib_ret (at_ret (at_ret (ib_ret (at_ret (ib_ret (at_ret (at_ret (ib_ret (at_ret (ib_ret (at_ret (at_ret (ib_ret (at_ret (at_ret ?_)))))))))))))))))))))))
        have eZ := Zu an
        subst bd
        have cG := cJ _ (cK (by intro _ h; cases h))
        have fa := Zu cG
        subst aK
        have cH := br _ (bt (by intro _ h; cases h))
        have fb := Zu cH
        subst aJ
        have cI := bq _ (bs (by intro _ h; cases h))
        have fc := Zu cI
        subst r
        refine ⟨_, ret1 rfl, ?_⟩
        exact ⟨bV, (Zt (Zt (Zt (Zt (Zt j y) ae) ap) aQ) bv), (((bi).drop).drop).drop, rfl⟩
       refine W_cond_f bH a6 ?_
       replace a6 := Zk a6
       refine W_skip (ib_normal (Ze (Zd (Za rfl rfl (Exec.add rfl dw rfl (Za rfl rfl (Zm (v := Vi (IntKind.i64.wrap ((bu : Int) + 1))) rfl rfl (Zb (Ze ?_)))))))))
       have fd := Zu an
       subst bd
       refine ⟨_, rfl, ?_⟩; exact ⟨bV, (Zt aQ bv), (((bi).f2).f2).f2, dg, dh, di, dj, dk, dl, dm, dn, dp, dq, dr, dt, du, dv, (Eq.trans rfl (wrap_up cA (SliceRep.le (aU.mono (Zt ae ap)))))⟩
      intro fG fm gl cf cL
      obtain ⟨e5, cQ, cx, dx, dy, dz, d0, d1, d2, d3, d4, d5, d6, d7, d8, d9, bI, eC⟩ := cf
      refine Zc (Zd (Za rfl rfl (Zq rfl eC bI (Zb (Ze (Zc (W_false (Zx (decide_eq_false (by omega))) (W_exit (at_exit (at_exit (ib_here (Ze ?_))))))))))))
      refine ⟨_, .inl cL, ?_⟩; exact ⟨e5, cQ, (((cx).f2).f2).f2, dx, dy, dz, d0, d1, d2, d3, d4, d5, d6, d7, d8, d9, bI⟩
     rintro fn gm ⟨fH, bn, ck⟩
     have aj := bn.elim (cD _) (c7 _)
     clear bn
     obtain ⟨e6, cR, cy, dA, dB, dC, dD, dE, fy, dF, dG, dH, dI, dJ, dK, fz, f0⟩ := ck
     refine (ib_normal (Ze (Zd (Za rfl rfl (Exec.add rfl dK rfl (Za rfl rfl (Zm (v := Vi (IntKind.i64.wrap ((aB : Int) + 1))) rfl rfl (Zb (Ze ?_)))))))))
     have fe := Zu aj
     subst aK
     refine ⟨_, rfl, ?_⟩; exact ⟨e6, (Zt ap cR), ((((cy).f2).drop).f1).f1, dA, dB, dC, dD, dE, dF, dG, dH, dI, dJ, (Eq.trans rfl (wrap_up c9 (SliceRep.le (ay.mono (Zt (Zt j y) ae)))))⟩
    intro fI fo gn cg cM
    obtain ⟨e7, cS, cz, dL, dM, dN, dO, dP, dQ, dR, dS, dT, bJ, eD⟩ := cg
    refine Zc (Zd (Za rfl rfl (Zq rfl eD bJ (Zb (Ze (Zc (W_false (Zx (decide_eq_false (by omega))) (W_exit (at_exit (at_exit (ib_here (Ze ?_))))))))))))
    refine ⟨_, .inl cM, ?_⟩; exact ⟨e7, cS, ((cz).f1).f1, dL, dM, dN, dO, dP, dQ, dR, dS, dT, bJ⟩
   rintro fp go ⟨fJ, bo, cl⟩
   have a7 := bo.elim (cC _) (c6 _)
   clear bo
   obtain ⟨e8, cT, c0, dU, dV, dW, dX, f4, dY, dZ, ea, f5, f6⟩ := cl
   refine (ib_normal (Ze (Zd (Za rfl rfl (Exec.add rfl ea rfl (Za rfl rfl (Zm (v := Vi (IntKind.i64.wrap ((a2 : Int) + 1))) rfl rfl (Zb (Ze ?_)))))))))
   have ff := Zu a7
   subst aJ
   refine ⟨_, rfl, ?_⟩; exact ⟨e8, (Zt ae cT), ((c0).f1).drop, dU, dV, dW, dX, dY, dZ, (Eq.trans rfl (wrap_up c8 (SliceRep.le (ax.mono (Zt j y)))))⟩
  intro fK fq gp ch cN
  obtain ⟨e9, cU, c1, eb, ec, ed, ee, ef, bK, eE⟩ := ch
  refine Zc (Zd (Za rfl rfl (Zq rfl eE bK (Zb (Ze (Zc (W_false (Zx (decide_eq_false (by omega))) (W_exit (at_exit (at_exit (ib_here (Ze ?_))))))))))))
  refine ⟨_, .inl cN, ?_⟩; exact ⟨e9, cU, c1, eb, ec, ed, ee, ef, bK⟩
 rintro fr gq ⟨fL, bp, cm⟩
 have hm := bp.elim (cB _) (c5 _)
 clear bp
 obtain ⟨fB, aq, bj, bL, aT, aE, f7, f8, f9⟩ := cm
 refine (Ze (Zc (W_dl (n0 := 7) (.q 0 (.q 2 (.q 4 (.e 1 [0, 2, 4] (.e 3 [0, 4] (.e 5 [0] (.e 6 [] .done))))))) hmix (by kernel_rfl) (by kernel_rfl) (DL_q rfl rfl (Exec.load_box_agg (ds := [n, o, p, t]) (bj.drew) A26 rfl aE rfl ⟨rfl, ?_⟩)))))
 refine DL_q rfl rfl (Zm (v := g) rfl bL ⟨rfl, ?_⟩)
 refine DL_q rfl rfl (Zm (v := l) rfl aT ⟨rfl, ?_⟩)
 refine DL_e rfl rfl (Exec.buildSlice (Te := 45) (cs := []) bj.drew rfl parts_nil (fun _ => by kernel_rfl) ?_)
 intro eO gr bk
 refine ⟨(ag_cons (ag_r rfl rfl (Exec.load_box_agg (ds := [n, o, p, t]) ((bk).f1) A26 rfl aE rfl ⟨rfl, rfl⟩)) (ag_cons (ag_r rfl rfl (Zm (v := g) rfl bL ⟨rfl, rfl⟩)) (ag_cons (ag_r rfl rfl (Zm (v := l) rfl aT ⟨rfl, rfl⟩)) ag_nil))), ?_⟩
 have c2 := St.boxArr (E := encLaunch) (xs := []) bk rfl (by simp [maxLen])
 obtain ⟨fs, ev, hm⟩ := Zg hm
 refine DL_e rfl rfl (Exec.append_rep (E := encLaunch) (ys := ac) c2 S27 Z45 rfl (by decide) rfl rfl rfl (ax.mono (Zt (Zt j y) aq)) ev ?_)
 intro fP gs bl
 refine ⟨(ag_cons (ag_r rfl rfl (Exec.load_box_agg (ds := [n, o, p, t]) ((bl).f1) A26 rfl aE rfl ⟨rfl, rfl⟩)) (ag_cons (ag_r rfl rfl (Zm (v := l) rfl aT ⟨rfl, rfl⟩)) ag_nil)), ?_⟩
 obtain ⟨ft, ew, hm⟩ := Zg hm
 refine DL_e rfl rfl (Exec.append_rep (E := encLaunch) (ys := ak) bl S27 Z45 rfl (by decide) rfl rfl rfl (ay.mono (Zt (Zt j y) aq)) ew ?_)
 intro fQ gu bm
 refine ⟨(ag_cons (ag_r rfl rfl (Exec.load_box_agg (ds := [n, o, p, t]) ((bm).f1) A26 rfl aE rfl ⟨rfl, rfl⟩)) ag_nil), ?_⟩
 obtain ⟨fC, a8, c3, ey⟩ := bm.freezeArr
 obtain ⟨eJ, ex, hm⟩ := Zg hm
 refine DL_e rfl rfl (Tc rfl rfl rfl (Zi rfl (Zi rfl args_nil)) (law58_harmless_sim ex c3 (ar.mono (Zt (Zt (Zt j y) aq) a8)) (au.mono (Zt (Zt (Zt j y) aq) a8)) (av.mono (Zt (Zt (Zt j y) aq) a8)) (aw.mono (Zt (Zt (Zt j y) aq) a8)) ey).r ?_)
 rintro _ gv ⟨eA, cV, c4, rfl⟩
 refine ⟨ag_nil, ?_⟩
 refine DL_done (Za rfl rfl (Zo (v := Value.bool (eJ)) rfl rfl (Zb (Ze (W_ret ?_)))))
 have fg := Zu hm
 subst r
 refine ⟨_, ret1 rfl, ?_⟩
 exact ⟨eA, (Zt (Zt (Zt (Zt j y) aq) a8) cV), (c4).drop, rfl⟩
end Go.Pw
