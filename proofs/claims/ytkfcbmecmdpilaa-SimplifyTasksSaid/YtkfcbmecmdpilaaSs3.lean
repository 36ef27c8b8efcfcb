/-
  The walks (printed by my generator).
-/
import Derived.Test.YtkfcbmecmdpilaaL29
import Derived.Test.YtkfcbmecmdpilaaL27
import Derived.Test.YtkfcbmecmdpilaaSs2
set_option maxRecDepth 100000
set_option maxHeartbeats 4000000
set_option linter.unusedVariables false
namespace Go.Pw
open Go.Proofs
theorem ref18_Expr_step {fu : Nat} (ih : ∀ {w0 w : World} {s : PHeap} {H : List Res} {d : Ground} {a : GExpr} {n : Value} {o : Value} {p : Value} {t : Value} {u : Value} {aa : Value} {r : Bool} (hm : ref18_Expr_p fu d a = some r) (hS : St w0 s (H) w) (av : SliceRep encAtom s n d.Atoms) (ao : SliceRep encGFluent s o d.Fluents) (aw : SliceRep (encInt .i64) s p d.Init) (ax : SliceRep encCond s t d.Goal) (ay : SliceRep encGOp s u d.Ops) (ad : SliceRep encGExpr s aa a.Kids), Calls Try.prog 94 #[Value.agg #[n, o, p, t, u], Value.agg #[Value.string (a.Op), Vi (a.N), aa]] w fun e w' => ∃ v, e = .returned v ∧ ((fun (az : Bool) => ∃ (al : PHeap) , PHeap.le s al ∧ St w0 al (H) w' ∧ v = Value.bool (az)) r)) {w0 w : World} {s : PHeap} {H : List Res} {d : Ground} {a : GExpr} {n : Value} {o : Value} {p : Value} {t : Value} {u : Value} {aa : Value} {r : Bool} (hm : ref18_Expr_p (fu + 1) d a = some r) (hS : St w0 s (H) w) (av : SliceRep encAtom s n d.Atoms) (ao : SliceRep encGFluent s o d.Fluents) (aw : SliceRep (encInt .i64) s p d.Init) (ax : SliceRep encCond s t d.Goal) (ay : SliceRep encGOp s u d.Ops) (ad : SliceRep encGExpr s aa a.Kids) :
  Calls Try.prog 94 #[Value.agg #[n, o, p, t, u], Value.agg #[Value.string (a.Op), Vi (a.N), aa]] w fun e w' => ∃ v, e = .returned v ∧ ((fun (az : Bool) => ∃ (al : PHeap) , PHeap.le s al ∧ St w0 al (H) w' ∧ v = Value.bool (az)) r) := by
 rw [ref18_Expr_p] at hm
 refine calls_of_W Try.func94 rfl rfl (Zc (Zd (Za rfl rfl (Exec.box (cs := [n, o, p, t, u]) hS rfl rfl rfl ?_))))
 intro ap bD aG
 refine Za rfl rfl (Exec.box (cs := [Value.string (a.Op), Vi (a.N), aa]) aG rfl rfl rfl ?_)
 intro aq bE c
 refine Za rfl rfl (Zo (v := Value.bool (false)) rfl rfl (Zb (Ze (Zc (Zc (Zd (Za rfl rfl (Zp F82_0 rfl rfl rfl (Za rfl rfl (Zn (c) A9 rfl rfl rfl (Zb (Ze (W_block (Zc (Zd (Za rfl rfl (Exec.str_eql rfl rfl rfl (Za rfl rfl (Zo (v := Value.bool (decide (a.Op = (⟨#[110, 117, 109, 98, 101, 114]⟩)))) rfl rfl (Zb (Ze ?_)))))))))))))))))))))
 rcases ite_some hm with ⟨af, hm⟩ | ⟨af, hm⟩
 ·refine W_cond_t rfl af (Zc (W_mid (M := fun f' w' => ∃ (a3 : PHeap) , PHeap.le s a3 ∧ St w0 a3 (H) w' ∧ f' 4 = Value.bool (((decide ((-1099511627776) ≤ a.N)) && ((decide (a.N ≤ 1099511627776)) && decide ((a.Kids.length : Int) = 0))))) ?_ ?_))
  ·refine Zd (Za rfl rfl (Zp F82_1 rfl rfl rfl (Za rfl rfl (Zn (c) A3 rfl rfl rfl (Za rfl rfl (Exec.geq rfl rfl rfl (Za rfl rfl (Zm (v := Value.bool (decide ((-1099511627776) ≤ a.N))) rfl rfl ?_))))))))
   by_cases k : (decide ((-1099511627776) ≤ a.N)) = true
   ·refine WL_run rfl (Zf rfl (Zx k)) rfl (Zp F82_1 rfl rfl rfl (WL_run rfl (Zf rfl (Zx k)) rfl (Zn (c) A3 rfl rfl rfl (WL_run rfl (Zf rfl (Zx k)) rfl (Exec.leq rfl rfl rfl ?_)))))
    refine WL_passes 2 (by rw [k]; rfl) ?_
    by_cases l : (decide (a.N ≤ 1099511627776)) = true
    ·refine WL_run rfl (Zf rfl (Zx l)) rfl (Zp F82_2 rfl rfl rfl (WL_run rfl (Zf rfl (Zx l)) rfl (Zn (c) A80 rfl rfl rfl (WL_run rfl (Zf rfl (Zx l)) rfl (Zr S80 rfl rfl ad (WL_run rfl (Zf rfl (Zx l)) rfl (Exec.eql rfl rfl rfl ?_)))))))
     refine WL_passes 2 (by rw [l]; rfl) ?_
     refine Zb (Ze ?_)
     exact ⟨s, (Zv _), ((c).drop).drop, (Zx (Eq.trans (and_t k) (and_t l))).symm⟩
    replace l := Zk l
    refine WL_passes 6 (by rw [l]; rfl) ?_
    refine Zb (Ze ?_)
    exact ⟨s, (Zv _), ((c).drop).drop, (Zx (Eq.trans (and_t k) (and_f l))).symm⟩
   replace k := Zk k
   refine WL_passes 11 (by rw [k]; rfl) ?_
   refine Zb (Ze ?_)
   exact ⟨s, (Zv _), ((c).drop).drop, (Zx (and_f k)).symm⟩
  intro b2 bF aB
  obtain ⟨bf, aM, aH, aR⟩ := aB
  refine (Ze (W_ret (ib_ret (at_ret ?_))))
  have bn := Zu hm
  subst r
  refine ⟨_, ret1 rfl, ?_⟩
  exact ⟨bf, aM, aH, aR⟩
 refine W_cond_f rfl af ?_
 replace af := Zk af
 refine Zc (Zd (Za rfl rfl (Exec.str_eql rfl rfl rfl (Za rfl rfl (Zo (v := Value.bool (decide (a.Op = (⟨#[102, 108, 117, 101, 110, 116]⟩)))) rfl rfl (Zb (Ze ?_)))))))
 rcases ite_some hm with ⟨ag, hm⟩ | ⟨ag, hm⟩
 ·refine W_cond_t rfl ag (Zc (W_mid (M := fun f' w' => ∃ (a4 : PHeap) , PHeap.le s a4 ∧ St w0 a4 (H) w' ∧ f' 4 = Value.bool (((decide (0 ≤ a.N)) && ((decide (a.N < (d.Fluents.length : Int))) && decide ((a.Kids.length : Int) = 0))))) ?_ ?_))
  ·refine Zd (Za rfl rfl (Zp F82_1 rfl rfl rfl (Za rfl rfl (Zn (c) A3 rfl rfl rfl (Za rfl rfl (Exec.geq rfl rfl rfl (Za rfl rfl (Zm (v := Value.bool (decide (0 ≤ a.N))) rfl rfl ?_))))))))
   by_cases h : (decide (0 ≤ a.N)) = true
   ·refine WL_run rfl (Zf rfl (Zx h)) rfl (Zp F82_1 rfl rfl rfl (WL_run rfl (Zf rfl (Zx h)) rfl (Zn (c) A3 rfl rfl rfl (WL_run rfl (Zf rfl (Zx h)) rfl (Zp F28_1 rfl rfl rfl (WL_run rfl (Zf rfl (Zx h)) rfl (Zn ((c).f1) A23 rfl rfl rfl (WL_run rfl (Zf rfl (Zx h)) rfl (Zr S23 rfl rfl ao (WL_run rfl (Zf rfl (Zx h)) rfl (Zq rfl rfl rfl ?_)))))))))))
    refine WL_passes 2 (by rw [h]; rfl) ?_
    by_cases m : (decide (a.N < (d.Fluents.length : Int))) = true
    ·refine WL_run rfl (Zf rfl (Zx m)) rfl (Zp F82_2 rfl rfl rfl (WL_run rfl (Zf rfl (Zx m)) rfl (Zn (c) A80 rfl rfl rfl (WL_run rfl (Zf rfl (Zx m)) rfl (Zr S80 rfl rfl ad (WL_run rfl (Zf rfl (Zx m)) rfl (Exec.eql rfl rfl rfl ?_)))))))
     refine WL_passes 2 (by rw [m]; rfl) ?_
     refine Zb (Ze ?_)
     exact ⟨s, (Zv _), ((c).drop).drop, (Zx (Eq.trans (and_t h) (and_t m))).symm⟩
    replace m := Zk m
    refine WL_passes 6 (by rw [m]; rfl) ?_
    refine Zb (Ze ?_)
    exact ⟨s, (Zv _), ((c).drop).drop, (Zx (Eq.trans (and_t h) (and_f m))).symm⟩
   replace h := Zk h
   refine WL_passes 14 (by rw [h]; rfl) ?_
   refine Zb (Ze ?_)
   exact ⟨s, (Zv _), ((c).drop).drop, (Zx (and_f h)).symm⟩
  intro b3 bG aC
  obtain ⟨bg, aN, aI, aS⟩ := aC
  refine (Ze (W_ret (ib_ret (at_ret ?_))))
  have bo := Zu hm
  subst r
  refine ⟨_, ret1 rfl, ?_⟩
  exact ⟨bg, aN, aI, aS⟩
 refine W_cond_f rfl ag ?_
 replace ag := Zk ag
 refine Zc (Zc (Zd (Za rfl rfl (Exec.str_eql rfl rfl rfl (Za rfl rfl (Zo (v := Value.bool (decide (a.Op = (⟨#[43]⟩)))) rfl rfl (Zb (Ze ?_))))))))
 obtain ⟨am, ab, hm⟩ := Zg hm
 refine W_mid (M := fun f' w' => (fun (am : Bool) => ∃ (a5 : PHeap) , PHeap.le s a5 ∧ St w0 a5 (Res.box ap 28 [n, o, p, t, u] :: Res.box aq 82 [Value.string (a.Op), Vi (a.N), aa] :: H) w' ∧ f' 2 = Value.pointer (some ⟨ap, 0, none⟩) ∧ f' 3 = Value.pointer (some ⟨aq, 0, none⟩) ∧ f' 42 = Value.bool (am)) am) ?_ ?_
 ·rcases ite_some ab with ⟨ah, ab⟩ | ⟨ah, ab⟩
  ·refine W_cond_t rfl ah (W_skip (Ze ?_))
   have bp := Zu ab
   subst am
   exact ⟨s, (Zv _), (c).f1, rfl, rfl, rfl⟩
  refine W_cond_f rfl ah ?_
  replace ah := Zk ah
  refine Zc (Zd (Za rfl rfl (Exec.str_eql rfl rfl rfl (Za rfl rfl (Zo (v := Value.bool (decide (a.Op = (⟨#[45]⟩)))) rfl rfl (Zb (Ze ?_)))))))
  obtain ⟨an, ak, ab⟩ := Zg ab
  refine W_mid (M := fun f' w' => (fun (an : Bool) => ∃ (a6 : PHeap) , PHeap.le s a6 ∧ St w0 a6 (Res.box ap 28 [n, o, p, t, u] :: Res.box aq 82 [Value.string (a.Op), Vi (a.N), aa] :: H) w' ∧ f' 2 = Value.pointer (some ⟨ap, 0, none⟩) ∧ f' 3 = Value.pointer (some ⟨aq, 0, none⟩) ∧ f' 42 = Value.bool (an)) an) ?_ ?_
  ·rcases ite_some ak with ⟨ai, ak⟩ | ⟨ai, ak⟩
   ·refine W_cond_t rfl ai (W_skip (Ze ?_))
    have bq := Zu ak
    subst an
    exact ⟨s, (Zv _), (c).f1, rfl, rfl, rfl⟩
   refine W_cond_f rfl ai ?_
   replace ai := Zk ai
   refine Zd (Za rfl rfl (Exec.str_eql rfl rfl rfl (Za rfl rfl (Zo (v := Value.bool (decide (a.Op = (⟨#[42]⟩)))) rfl rfl (Zb (Ze ?_))))))
   have br := Zu ak
   subst an
   exact ⟨s, (Zv _), (c).f1, rfl, rfl, rfl⟩
  intro b4 bH aD
  obtain ⟨bh, aO, aJ, aT, aU, aV⟩ := aD
  refine (Ze ?_)
  have bs := Zu ab
  subst am
  exact ⟨bh, aO, ((aJ).f1).f1, aT, aU, aV⟩
 intro b5 bI aE
 obtain ⟨au, g, a0, a1, ar, a2⟩ := aE
 refine (Ze ?_)
 rcases ite_some hm with ⟨aj, hm⟩ | ⟨aj, hm⟩
 ·refine W_cond_t a2 aj (Zc ?_)
  obtain ⟨ac, b, hm⟩ := Zg hm
  refine W_mid (M := fun f' w' => (fun (ac : Bool) => ∃ (a7 : PHeap) , PHeap.le au a7 ∧ St w0 a7 (H) w' ∧ f' 4 = Value.bool (ac)) ac) ?_ ?_
  ·refine W_dl (n0 := 25) (qs 0 15 (.e 15 [] (qs 16 7 (.e 23 [] (.q 24 .done))))) hmix (by kernel_rfl) (by kernel_rfl) ?_
   have y := a0.drew
   refine DL_q rfl rfl (Zp F82_1 rfl ar rfl ⟨rfl, ?_⟩)
   refine DL_q rfl rfl (Zn ((y).f1) A3 rfl rfl rfl ⟨rfl, ?_⟩)
   refine DL_q rfl rfl (Exec.eql rfl rfl rfl ⟨rfl, ?_⟩)
   refine DL_q rfl rfl (Zm (v := Value.bool (decide (a.N = 0))) rfl rfl ⟨rfl, ?_⟩)
   rcases ite_some b with ⟨x, b⟩ | ⟨x, b⟩
   ·refine DL_qg rfl rfl (Zf rfl (Zx x)) (Zp F82_2 rfl ar rfl ⟨rfl, ?_⟩)
    refine DL_qg rfl rfl (Zf rfl (Zx x)) (Zn ((y).f1) A80 rfl rfl rfl ⟨rfl, ?_⟩)
    refine DL_qg rfl rfl (Zf rfl (Zx x)) (Zr S80 rfl rfl (ad.mono g) ⟨rfl, ?_⟩)
    refine DL_qg rfl rfl (Zf rfl (Zx x)) (Exec.eql rfl rfl rfl ⟨rfl, ?_⟩)
    refine DL_q rfl rfl (Zs (v := Value.bool (decide ((a.Kids.length : Int) = 2))) rfl (Zx x) rfl ⟨rfl, ?_⟩)
    refine DL_q rfl rfl (Zm (v := Value.bool (decide ((a.Kids.length : Int) = 2))) rfl rfl ⟨rfl, ?_⟩)
    rcases ite_some b with ⟨i, b⟩ | ⟨i, b⟩
    ·refine DL_qg rfl rfl (Zf rfl (Zx i)) (Exec.load_box_agg (ds := [n, o, p, t, u]) (y) A28 rfl a1 rfl ⟨rfl, ?_⟩)
     refine DL_qg rfl rfl (Zf rfl (Zx i)) (Zp F82_2 rfl ar rfl ⟨rfl, ?_⟩)
     refine DL_qg rfl rfl (Zf rfl (Zx i)) (Zn ((y).f1) A80 rfl rfl rfl ⟨rfl, ?_⟩)
     obtain ⟨bM, aX, b⟩ := Zg b
     refine DL_qg rfl rfl (Zf rfl (Zx i)) (Exec.index_repE S80 rfl rfl rfl (ad.mono g) aX ?_)
     intro bl b7 a9 bt
     refine ⟨rfl, ?_⟩
     refine DL_qg rfl rfl (Zf rfl (Zx i)) (Zw (E := encGExpr) y A82 rfl rfl rfl a9 ?_)
     intro bB aY
     obtain ⟨b9, rfl, bd⟩ := encGExpr_val.1 aY
     refine ⟨rfl, ?_⟩
     obtain ⟨bO, aZ, b⟩ := Zg b
     refine DL_eg rfl rfl (Zf rfl (Zx i)) (Tc rfl rfl rfl (Zi rfl (Zi rfl args_nil)) (ih aZ y (av.mono g) (ao.mono g) (aw.mono g) (ax.mono g) (ay.mono g) bd).r ?_)
     rintro _ bJ ⟨bi, z, ae, rfl⟩
     refine ⟨ag_nil, ?_⟩
     refine DL_passes 2 (by rw [i]; rfl) ?_
     rcases ite_some b with ⟨j, b⟩ | ⟨j, b⟩
     ·refine DL_qg rfl rfl (Zf rfl (Zx j)) (Exec.load_box_agg (ds := [n, o, p, t, u]) (ae) A28 rfl a1 rfl ⟨rfl, ?_⟩)
      refine DL_qg rfl rfl (Zf rfl (Zx j)) (Zp F82_2 rfl ar rfl ⟨rfl, ?_⟩)
      refine DL_qg rfl rfl (Zf rfl (Zx j)) (Zn ((ae).f1) A80 rfl rfl rfl ⟨rfl, ?_⟩)
      obtain ⟨bN, ba, b⟩ := Zg b
      refine DL_qg rfl rfl (Zf rfl (Zx j)) (Exec.index_repE S80 rfl rfl rfl (ad.mono (Zt g z)) ba ?_)
      intro bm b8 aA bu
      refine ⟨rfl, ?_⟩
      refine DL_qg rfl rfl (Zf rfl (Zx j)) (Zw (E := encGExpr) ae A82 rfl rfl rfl aA ?_)
      intro bC bb
      obtain ⟨bA, rfl, be⟩ := encGExpr_val.1 bb
      refine ⟨rfl, ?_⟩
      obtain ⟨a8, bc, b⟩ := Zg b
      refine DL_eg rfl rfl (Zf rfl (Zx j)) (Tc rfl rfl rfl (Zi rfl (Zi rfl args_nil)) (ih bc ae (av.mono (Zt g z)) (ao.mono (Zt g z)) (aw.mono (Zt g z)) (ax.mono (Zt g z)) (ay.mono (Zt g z)) be).r ?_)
      rintro _ bK ⟨bj, aP, aK, rfl⟩
      refine ⟨ag_nil, ?_⟩
      refine DL_q rfl rfl (Zs (v := Value.bool (a8)) rfl (Zx j) rfl ⟨rfl, ?_⟩)
      refine DL_done (Za rfl rfl (Zo (v := Value.bool (a8)) rfl rfl (Zb (Ze ?_))))
      have bv := Zu b
      subst ac
      exact ⟨bj, (Zt z aP), ((aK).drop).drop, rfl⟩
     replace j := Zk j
     refine DL_passes 7 (by rw [j]; rfl) ?_
     refine DL_done (Za rfl rfl (Zo (v := Value.bool (false)) rfl rfl (Zb (Ze ?_))))
     have bw := Zu b
     subst ac
     exact ⟨bi, z, ((ae).drop).drop, rfl⟩
    replace i := Zk i
    refine DL_passes 15 (by rw [i]; rfl) ?_
    refine DL_done (Za rfl rfl (Zo (v := Value.bool (false)) rfl rfl (Zb (Ze ?_))))
    have bx := Zu b
    subst ac
    exact ⟨au, (Zv _), ((y).drop).drop, rfl⟩
   replace x := Zk x
   refine DL_passes 21 (by rw [x]; rfl) ?_
   refine DL_done (Za rfl rfl (Zo (v := Value.bool (false)) rfl rfl (Zb (Ze ?_))))
   have bz := Zu b
   subst ac
   exact ⟨au, (Zv _), ((y).drop).drop, rfl⟩
  intro b6 bL aF
  obtain ⟨bk, aQ, aL, aW⟩ := aF
  refine (Ze (W_ret (ib_ret (at_ret ?_))))
  have b0 := Zu hm
  subst r
  refine ⟨_, ret1 rfl, ?_⟩
  exact ⟨bk, (Zt g aQ), aL, aW⟩
 refine W_cond_f a2 aj ?_
 replace aj := Zk aj
 refine W_skip (ib_normal (Ze (Zc (Zd (Za rfl rfl (Zo (v := Value.bool (false)) rfl rfl (Zb (Ze (W_ret ?_)))))))))
 have b1 := Zu hm
 subst r
 refine ⟨_, ret1 rfl, ?_⟩
 exact ⟨au, g, ((a0).drop).drop, rfl⟩
theorem ref18_Expr_sim {fu : Nat} : ∀ {w0 w : World} {s : PHeap} {H : List Res} {a : Ground} {b : GExpr} {d : Value} {f : Value} {g : Value} {h : Value} {i : Value} {j : Value} {r : Bool} (hm : ref18_Expr_p fu a b = some r) (hS : St w0 s (H) w) (l : SliceRep encAtom s d a.Atoms) (m : SliceRep encGFluent s f a.Fluents) (n : SliceRep (encInt .i64) s g a.Init) (o : SliceRep encCond s h a.Goal) (p : SliceRep encGOp s i a.Ops) (q : SliceRep encGExpr s j b.Kids), Calls Try.prog 94 #[Value.agg #[d, f, g, h, i], Value.agg #[Value.string (b.Op), Vi (b.N), j]] w fun e w' => ∃ v, e = .returned v ∧ ((fun (k : Bool) => ∃ (c : PHeap) , PHeap.le s c ∧ St w0 c (H) w' ∧ v = Value.bool (k)) r) := by
 induction fu with
 | zero => intros; rename_i hm _ _ _ _ _ _ _; rw [ref18_Expr_p] at hm; cases hm
 | succ fu ih => exact ref18_Expr_step ih
theorem ref18_Cond_sim {w0 w : World} {s : PHeap} {H : List Res} {fu : Nat} {au : Ground} {a2 : Cond} {k : Value} {l : Value} {m : Value} {n : Value} {o : Value} {al : Value} {am : Value} {an : Value} {r : Bool} (hm : ref18_Cond_p fu au a2 = some r) (hS : St w0 s (H) w) (ac : SliceRep encAtom s k au.Atoms) (ao : SliceRep encGFluent s l au.Fluents) (ap : SliceRep (encInt .i64) s m au.Init) (aq : SliceRep encCond s n au.Goal) (ar : SliceRep encGOp s o au.Ops) (aU : SliceRep (encInt .i64) s al a2.Pos) (aV : SliceRep (encInt .i64) s am a2.Neg) (aE : SliceRep encGTest s an a2.Tests) :
  Calls Try.prog 66 #[Value.agg #[k, l, m, n, o], Value.agg #[al, am, an]] w fun e w' => ∃ v, e = .returned v ∧ ((fun (bI : Bool) => ∃ (aO : PHeap) , PHeap.le s aO ∧ St w0 aO (H) w' ∧ v = Value.bool (bI)) r) := by
 unfold ref18_Cond_p at hm
 refine calls_of_W Try.func66 rfl rfl (Zc (Zd (Za rfl rfl (Exec.box (cs := [k, l, m, n, o]) hS rfl rfl rfl ?_))))
 intro ad co bc
 refine Za rfl rfl (Exec.box (cs := [al, am, an]) bc rfl rfl rfl ?_)
 intro ae cp aC
 refine Za rfl rfl (Zo (v := Value.bool (false)) rfl rfl (Zb (Ze (Zc (Zc ?_)))))
 obtain ⟨a1, ab, hm⟩ := Zg hm
 refine W_mid (M := fun f' w' => (fun (a1 : Bool) => ∃ (aP : PHeap) , PHeap.le s aP ∧ St w0 aP (Res.box ad 28 [k, l, m, n, o] :: Res.box ae 47 [al, am, an] :: H) w' ∧ f' 2 = Value.pointer (some ⟨ad, 0, none⟩) ∧ f' 3 = Value.pointer (some ⟨ae, 0, none⟩) ∧ f' 22 = Value.bool (a1)) a1) ?_ ?_
 ·refine Zd (Za rfl rfl (Zp F47_0 rfl rfl rfl (Za rfl rfl (Zn (aC) A24 rfl rfl rfl (Za rfl rfl (Zp F28_0 rfl rfl rfl (Za rfl rfl (Zn ((aC).f1) A22 rfl rfl rfl (Za rfl rfl (Zr S22 rfl rfl ac ?_))))))))))
  obtain ⟨bJ, bz, ab⟩ := Zg ab
  refine Za rfl rfl (Tc rfl rfl rfl (Zi rfl (Zi rfl args_nil)) (ref18_ascending_sim bz aC aU).r ?_)
  rintro _ cq ⟨b9, a7, a3, rfl⟩
  refine Za rfl rfl (Exec.not rfl rfl (Za rfl rfl (Zm (v := Value.bool (!bJ)) rfl rfl ?_)))
  rcases ite_some ab with ⟨p, ab⟩ | ⟨p, ab⟩
  ·refine WL_passes 8 (by rw [p]; rfl) ?_
   refine Zb (Ze ?_)
   have bQ := Zu ab
   subst a1
   exact ⟨b9, a7, (a3).f1, rfl, rfl, rfl⟩
  replace p := Zk p
  refine WL_run rfl (Zf rfl (Zx p)) rfl (Zp F47_1 rfl rfl rfl (WL_run rfl (Zf rfl (Zx p)) rfl (Zn (a3) A24 rfl rfl rfl (WL_run rfl (Zf rfl (Zx p)) rfl (Zp F28_0 rfl rfl rfl (WL_run rfl (Zf rfl (Zx p)) rfl (Zn ((a3).f1) A22 rfl rfl rfl (WL_run rfl (Zf rfl (Zx p)) rfl (Zr S22 rfl rfl (ac.mono a7) ?_)))))))))
  obtain ⟨bK, b0, ab⟩ := Zg ab
  refine WL_run rfl (Zf rfl (Zx p)) rfl (Tc rfl rfl rfl (Zi rfl (Zi rfl args_nil)) (ref18_ascending_sim b0 a3 (aV.mono a7)).r ?_)
  rintro _ cr ⟨bA, bo, bd, rfl⟩
  refine WL_run rfl (Zf rfl (Zx p)) rfl (Exec.not rfl rfl (Za rfl rfl (Exec.pick_f (v := Value.bool (!bK)) rfl (Zx p) rfl (Zb (Ze ?_)))))
  have bR := Zu ab
  subst a1
  exact ⟨bA, (Zt a7 bo), (bd).f1, rfl, rfl, rfl⟩
 intro cf ct aZ
 obtain ⟨aA, b, aG, bt, bu, aM⟩ := aZ
 refine (Ze ?_)
 rcases ite_some hm with ⟨aw, hm⟩ | ⟨aw, hm⟩
 ·refine W_cond_t aM aw (Zc (Zd (Za rfl rfl (Zo (v := Value.bool (false)) rfl rfl (Zb (Ze (W_ret (at_ret ?_))))))))
  have bS := Zu hm
  subst r
  refine ⟨_, ret1 rfl, ?_⟩
  exact ⟨aA, b, ((aG).drop).drop, rfl⟩
 refine W_cond_f aM aw ?_
 replace aw := Zk aw
 refine W_skip (Ze (Zc (Zc (Zd (Za rfl rfl (Zo (v := Vi (0)) rfl rfl (Zb (Ze ?_))))))))
 obtain ⟨aF, aX, bn, bl, bk⟩ := ctl_some hm
 refine W_mid (M := fun f' w' => ∃ s', (aF = .next s' ∨ aF = .brk s') ∧ (fun (aK : Int) => ∃ (aQ : PHeap) , PHeap.le aA aQ ∧ St w0 aQ (Res.box ad 28 [k, l, m, n, o] :: Res.box ae 47 [al, am, an] :: H) w' ∧ f' 2 = Value.pointer (some ⟨ad, 0, none⟩) ∧ f' 3 = Value.pointer (some ⟨ae, 0, none⟩) ∧ f' 5 = Vi (aK)) s') ?_ ?_
 ·refine W_block (W_while (fun s' f' w' => (fun (ak : Int) => ∃ (aR : PHeap) , PHeap.le aA aR ∧ St w0 aR (Res.box ad 28 [k, l, m, n, o] :: Res.box ae 47 [al, am, an] :: H) w' ∧ f' 2 = Value.pointer (some ⟨ad, 0, none⟩) ∧ f' 3 = Value.pointer (some ⟨ae, 0, none⟩) ∧ f' 5 = Vi (ak)) s') aX ?_ ?_)
  ·have be := (aG).f1
   exact ⟨aA, (Zv _), (be).f1, bt, bu, rfl⟩
  intro ak aB cg cu aY j aJ
  obtain ⟨aD, c, av, g, y, z⟩ := aY
  refine Zc (Zc (Zd (Za rfl rfl (Zm (v := Vi (ak)) rfl z (Za rfl rfl (Zp F47_2 rfl y rfl (Za rfl rfl (Zn ((av).f1) A45 rfl rfl rfl (Za rfl rfl (Zr S45 rfl rfl (aE.mono (Zt b c)) (Za rfl rfl (Zq rfl rfl rfl (Zb (Ze ?_))))))))))))))
  rcases ite_some j with ⟨ax, j⟩ | ⟨ax, j⟩
  ·refine W_cond_t rfl ax (W_skip (Ze (Zc (W_block (Zc (Zd (Za rfl rfl (Zp F47_2 rfl y rfl (Za rfl rfl (Zn ((av).f1) A45 rfl rfl rfl (Za rfl rfl (Zm (v := Vi (ak)) rfl z ?_))))))))))))
   obtain ⟨d, b1, j⟩ := Zg j
   refine Za rfl rfl (Exec.index_rep S45 rfl rfl rfl (aE.mono (Zt b c)) b1 ?_)
   intro bO cj aW
   refine Za rfl rfl (Zw (E := encGTest) av A129 rfl rfl rfl aW ?_)
   intro cn b2
   obtain ⟨az, a0, rfl, a8, a9⟩ := encGTest_val.1 b2
   refine Za rfl rfl (Exec.alloc (cs := [Value.string (⟨#[]⟩), Value.string (⟨#[]⟩), Vi (0), Value.slice none 0 0, Value.string (⟨#[]⟩), Vi (0), Value.slice none 0 0]) av Z129 rfl rfl ?_)
   intro bP cv bf
   refine Za rfl rfl (Exec.store_box (ds := [Value.string (d.Op), Value.string (d.A.Op), Vi (d.A.N), az, Value.string (d.B.Op), Vi (d.B.N), a0]) (es := [Value.string (d.Op), Value.string (d.A.Op), Vi (d.A.N), az, Value.string (d.B.Op), Vi (d.B.N), a0]) bf A129 rfl rfl rfl rfl (Zj rfl (Zj rfl (Zj rfl (Zj (a8).one (Zj rfl (Zj rfl (Zj (a9).one one_nil))))))) (Nat.le_of_ble_eq_true rfl) rfl ?_)
   intro cw i
   refine Zb (Ze (Zc ?_))
   obtain ⟨aa, a, j⟩ := Zg j
   refine W_mid (M := fun f' w' => (fun (aa : Bool) => ∃ (aS : PHeap) , PHeap.le aD aS ∧ St w0 aS (Res.box ad 28 [k, l, m, n, o] :: Res.box ae 47 [al, am, an] :: H) w' ∧ f' 2 = Value.pointer (some ⟨ad, 0, none⟩) ∧ f' 3 = Value.pointer (some ⟨ae, 0, none⟩) ∧ f' 5 = Vi (ak) ∧ f' 61 = Value.bool (aa)) aa) ?_ ?_
   ·refine Zd (Za rfl rfl (Zp F129_0 rfl rfl rfl (Za rfl rfl (Zn (i) A9 rfl rfl rfl (Za rfl rfl (Exec.str_neq rfl rfl rfl (Za rfl rfl (Zm (v := Value.bool (!decide (d.Op = (⟨#[60]⟩)))) rfl rfl ?_))))))))
    rcases ite_some a with ⟨af, a⟩ | ⟨af, a⟩
    ·refine WL_run rfl (Zf rfl (Zx af)) rfl (Zp F129_0 rfl rfl rfl (WL_run rfl (Zf rfl (Zx af)) rfl (Zn (i) A9 rfl rfl rfl (WL_run rfl (Zf rfl (Zx af)) rfl (Exec.str_neq rfl rfl rfl ?_)))))
     refine WL_passes 2 (by rw [af]; rfl) ?_
     rcases ite_some a with ⟨ag, a⟩ | ⟨ag, a⟩
     ·refine WL_run rfl (Zf rfl (Zx ag)) rfl (Zp F129_0 rfl rfl rfl (WL_run rfl (Zf rfl (Zx ag)) rfl (Zn (i) A9 rfl rfl rfl (WL_run rfl (Zf rfl (Zx ag)) rfl (Exec.str_neq rfl rfl rfl ?_)))))
      refine WL_passes 2 (by rw [ag]; rfl) ?_
      rcases ite_some a with ⟨q, a⟩ | ⟨q, a⟩
      ·refine WL_passes 13 (by rw [q]; rfl) ?_
       refine Zb (Ze ?_)
       have bT := Zu a
       subst aa
       exact ⟨aD, (Zv _), (((i).drop).f1).f1, g, y, z, rfl⟩
      replace q := Zk q
      refine WL_run rfl (Zf rfl (Zx q)) rfl (Exec.load_box_agg (ds := [k, l, m, n, o]) ((i).f1) A28 rfl g rfl (WL_run rfl (Zf rfl (Zx q)) rfl (Zp F129_1 rfl rfl rfl (WL_run rfl (Zf rfl (Zx q)) rfl (Exec.load_box_agg (ds := [Value.string (d.A.Op), Vi (d.A.N), az]) (i) A82 rfl rfl rfl ?_)))))
      obtain ⟨c5, b3, a⟩ := Zg a
      refine WL_run rfl (Zf rfl (Zx q)) rfl (Tc rfl rfl rfl (Zi rfl (Zi rfl args_nil)) (ref18_Expr_sim b3 i (ac.mono (Zt b c)) (ao.mono (Zt b c)) (ap.mono (Zt b c)) (aq.mono (Zt b c)) (ar.mono (Zt b c)) a8).r ?_)
      rintro _ cx ⟨bB, ah, a4, rfl⟩
      refine WL_run rfl (Zf rfl (Zx q)) rfl (Exec.not rfl rfl ?_)
      refine WL_passes 2 (by rw [q]; rfl) ?_
      rcases ite_some a with ⟨t, a⟩ | ⟨t, a⟩
      ·refine WL_passes 6 (by rw [t]; rfl) ?_
       refine Zb (Ze ?_)
       have bU := Zu a
       subst aa
       exact ⟨bB, ah, (((a4).drop).f1).f1, g, y, z, rfl⟩
      replace t := Zk t
      refine WL_run rfl (Zf rfl (Zx t)) rfl (Exec.load_box_agg (ds := [k, l, m, n, o]) ((a4).f1) A28 rfl g rfl (WL_run rfl (Zf rfl (Zx t)) rfl (Zp F129_2 rfl rfl rfl (WL_run rfl (Zf rfl (Zx t)) rfl (Exec.load_box_agg (ds := [Value.string (d.B.Op), Vi (d.B.N), a0]) (a4) A82 rfl rfl rfl ?_)))))
      obtain ⟨bL, b4, a⟩ := Zg a
      refine WL_run rfl (Zf rfl (Zx t)) rfl (Tc rfl rfl rfl (Zi rfl (Zi rfl args_nil)) (ref18_Expr_sim b4 a4 (ac.mono (Zt (Zt b c) ah)) (ao.mono (Zt (Zt b c) ah)) (ap.mono (Zt (Zt b c) ah)) (aq.mono (Zt (Zt b c) ah)) (ar.mono (Zt (Zt b c) ah)) (a9.mono ah)).r ?_)
      rintro _ cy ⟨bC, bp, bg, rfl⟩
      refine WL_run rfl (Zf rfl (Zx t)) rfl (Exec.not rfl rfl (Za rfl rfl (Exec.pick_f (v := Value.bool (!bL)) rfl (Zx t) rfl (Zb (Ze ?_)))))
      have bV := Zu a
      subst aa
      exact ⟨bC, (Zt ah bp), (((bg).drop).f1).f1, g, y, z, rfl⟩
     replace ag := Zk ag
     refine WL_passes 5 (by rw [ag]; rfl) ?_
     refine WL_run rfl (Zf rfl rfl) rfl (Exec.load_box_agg (ds := [k, l, m, n, o]) ((i).f1) A28 rfl g rfl (WL_run rfl (Zf rfl rfl) rfl (Zp F129_1 rfl rfl rfl (WL_run rfl (Zf rfl rfl) rfl (Exec.load_box_agg (ds := [Value.string (d.A.Op), Vi (d.A.N), az]) (i) A82 rfl rfl rfl ?_)))))
     obtain ⟨c6, b5, a⟩ := Zg a
     refine WL_run rfl (Zf rfl rfl) rfl (Tc rfl rfl rfl (Zi rfl (Zi rfl args_nil)) (ref18_Expr_sim b5 i (ac.mono (Zt b c)) (ao.mono (Zt b c)) (ap.mono (Zt b c)) (aq.mono (Zt b c)) (ar.mono (Zt b c)) a8).r ?_)
     rintro _ cz ⟨bD, ai, a5, rfl⟩
     refine WL_run rfl (Zf rfl rfl) rfl (Exec.not rfl rfl (WL_passes 2 rfl ?_))
     rcases ite_some a with ⟨u, a⟩ | ⟨u, a⟩
     ·refine WL_passes 6 (by rw [u]; rfl) ?_
      refine Zb (Ze ?_)
      have bW := Zu a
      subst aa
      exact ⟨bD, ai, (((a5).drop).f1).f1, g, y, z, rfl⟩
     replace u := Zk u
     refine WL_run rfl (Zf rfl (Zx u)) rfl (Exec.load_box_agg (ds := [k, l, m, n, o]) ((a5).f1) A28 rfl g rfl (WL_run rfl (Zf rfl (Zx u)) rfl (Zp F129_2 rfl rfl rfl (WL_run rfl (Zf rfl (Zx u)) rfl (Exec.load_box_agg (ds := [Value.string (d.B.Op), Vi (d.B.N), a0]) (a5) A82 rfl rfl rfl ?_)))))
     obtain ⟨bM, b6, a⟩ := Zg a
     refine WL_run rfl (Zf rfl (Zx u)) rfl (Tc rfl rfl rfl (Zi rfl (Zi rfl args_nil)) (ref18_Expr_sim b6 a5 (ac.mono (Zt (Zt b c) ai)) (ao.mono (Zt (Zt b c) ai)) (ap.mono (Zt (Zt b c) ai)) (aq.mono (Zt (Zt b c) ai)) (ar.mono (Zt (Zt b c) ai)) (a9.mono ai)).r ?_)
     rintro _ c0 ⟨bE, bq, bh, rfl⟩
     refine WL_run rfl (Zf rfl (Zx u)) rfl (Exec.not rfl rfl (Za rfl rfl (Exec.pick_f (v := Value.bool (!bM)) rfl (Zx u) rfl (Zb (Ze ?_)))))
     have bX := Zu a
     subst aa
     exact ⟨bE, (Zt ai bq), (((bh).drop).f1).f1, g, y, z, rfl⟩
    replace af := Zk af
    refine WL_passes 10 (by rw [af]; rfl) ?_
    refine WL_run rfl (Zf rfl rfl) rfl (Exec.load_box_agg (ds := [k, l, m, n, o]) ((i).f1) A28 rfl g rfl (WL_run rfl (Zf rfl rfl) rfl (Zp F129_1 rfl rfl rfl (WL_run rfl (Zf rfl rfl) rfl (Exec.load_box_agg (ds := [Value.string (d.A.Op), Vi (d.A.N), az]) (i) A82 rfl rfl rfl ?_)))))
    obtain ⟨c7, b7, a⟩ := Zg a
    refine WL_run rfl (Zf rfl rfl) rfl (Tc rfl rfl rfl (Zi rfl (Zi rfl args_nil)) (ref18_Expr_sim b7 i (ac.mono (Zt b c)) (ao.mono (Zt b c)) (ap.mono (Zt b c)) (aq.mono (Zt b c)) (ar.mono (Zt b c)) a8).r ?_)
    rintro _ c1 ⟨bF, aj, a6, rfl⟩
    refine WL_run rfl (Zf rfl rfl) rfl (Exec.not rfl rfl (WL_passes 2 rfl ?_))
    rcases ite_some a with ⟨x, a⟩ | ⟨x, a⟩
    ·refine WL_passes 6 (by rw [x]; rfl) ?_
     refine Zb (Ze ?_)
     have bY := Zu a
     subst aa
     exact ⟨bF, aj, (((a6).drop).f1).f1, g, y, z, rfl⟩
    replace x := Zk x
    refine WL_run rfl (Zf rfl (Zx x)) rfl (Exec.load_box_agg (ds := [k, l, m, n, o]) ((a6).f1) A28 rfl g rfl (WL_run rfl (Zf rfl (Zx x)) rfl (Zp F129_2 rfl rfl rfl (WL_run rfl (Zf rfl (Zx x)) rfl (Exec.load_box_agg (ds := [Value.string (d.B.Op), Vi (d.B.N), a0]) (a6) A82 rfl rfl rfl ?_)))))
    obtain ⟨bN, b8, a⟩ := Zg a
    refine WL_run rfl (Zf rfl (Zx x)) rfl (Tc rfl rfl rfl (Zi rfl (Zi rfl args_nil)) (ref18_Expr_sim b8 a6 (ac.mono (Zt (Zt b c) aj)) (ao.mono (Zt (Zt b c) aj)) (ap.mono (Zt (Zt b c) aj)) (aq.mono (Zt (Zt b c) aj)) (ar.mono (Zt (Zt b c) aj)) (a9.mono aj)).r ?_)
    rintro _ c2 ⟨bG, br, bi, rfl⟩
    refine WL_run rfl (Zf rfl (Zx x)) rfl (Exec.not rfl rfl (Za rfl rfl (Exec.pick_f (v := Value.bool (!bN)) rfl (Zx x) rfl (Zb (Ze ?_)))))
    have bZ := Zu a
    subst aa
    exact ⟨bG, (Zt aj br), (((bi).drop).f1).f1, g, y, z, rfl⟩
   intro ch c3 ba
   obtain ⟨aT, aL, aH, bv, bw, bx, aN⟩ := ba
   refine (Ze ?_)
   rcases ite_some j with ⟨ay, j⟩ | ⟨ay, j⟩
   ·refine W_cond_t aN ay (Zc (Zd (Za rfl rfl (Zo (v := Value.bool (false)) rfl rfl (Zb (Ze (W_ret (ib_ret (at_ret (at_ret (ib_ret (at_ret (at_ret ?_)))))))))))))
    have ca := Zu j
    subst aB
    have bm := bn _ (aJ (by intro _ h; cases h))
    have cb := Zu bm
    subst r
    refine ⟨_, ret1 rfl, ?_⟩
    exact ⟨aT, (Zt (Zt b c) aL), ((aH).drop).drop, rfl⟩
   refine W_cond_f aN ay ?_
   replace ay := Zk ay
   refine W_skip (ib_normal (Ze (Zd (Za rfl rfl (Zm (v := Vi (ak)) rfl bx (Za rfl rfl (Exec.add rfl rfl rfl (Za rfl rfl (Zo (v := Vi (IntKind.i64.wrap (ak + 1))) rfl rfl (Zb (Ze ?_)))))))))))
   have cc := Zu j
   subst aB
   refine ⟨_, rfl, ?_⟩; exact ⟨aT, (Zt c aL), ((aH).f1).f1, bv, bw, rfl⟩
  refine W_cond_f rfl ax ?_
  replace ax := Zk ax
  refine W_exit (at_exit (at_exit (ib_here (Ze ?_))))
  have cd := Zu j
  subst aB
  refine ⟨_, .inr (aJ (by intro _ h; cases h)), ?_⟩; exact ⟨aD, c, ((av).f1).f1, g, y, z⟩
 rintro ci c4 ⟨aK, aI, bb⟩
 have hm := aI.elim (bl _) (bk _)
 clear aI
 obtain ⟨bH, bs, bj, ck, cl, cm⟩ := bb
 refine (Ze (Zc (Zd (Za rfl rfl (Zo (v := Value.bool (true)) rfl rfl (Zb (Ze (W_ret ?_))))))))
 have ce := Zu hm
 subst r
 refine ⟨_, ret1 rfl, ?_⟩
 exact ⟨bH, (Zt b bs), ((bj).drop).drop, rfl⟩
theorem ref18_operator_sim {w0 w : World} {s : PHeap} {H : List Res} {fu : Nat} {a1 : Ground} {a : GOp} {j : Value} {k : Value} {l : Value} {m : Value} {n : Value} {p : Value} {q : Value} {t : Value} {x : Value} {y : Value} {r : Bool} (hm : ref18_operator_p fu a1 a = some r) (hS : St w0 s (H) w) (aT : SliceRep encAtom s j a1.Atoms) (aU : SliceRep encGFluent s k a1.Fluents) (be : SliceRep (encInt .i64) s l a1.Init) (bf : SliceRep encCond s m a1.Goal) (bg : SliceRep encGOp s n a1.Ops) (cl : SliceRep (encInt .i64) s p a.Pre.Pos) (cm : SliceRep (encInt .i64) s q a.Pre.Neg) (cn : SliceRep encGTest s t a.Pre.Tests) (bh : SliceRep encGChange s x a.Changes) (bi : SliceRep encGAssign s y a.Assigns) :
  Calls Try.prog 67 #[Value.agg #[j, k, l, m, n], Value.agg #[Value.string (a.Name), Vi (a.Cost), p, q, t, x, y]] w fun e w' => ∃ v, e = .returned v ∧ ((fun (dG : Bool) => ∃ (bV : PHeap) , PHeap.le s bV ∧ St w0 bV (H) w' ∧ v = Value.bool (dG)) r) := by
 unfold ref18_operator_p at hm
 refine calls_of_W Try.func67 rfl rfl (Zc (Zd (Za rfl rfl (Exec.box (cs := [j, k, l, m, n]) hS rfl rfl rfl ?_))))
 intro b eM c8
 refine Za rfl rfl (Exec.box (cs := [Value.string (a.Name), Vi (a.Cost), p, q, t, x, y]) c8 rfl rfl rfl ?_)
 intro c eN ac
 refine Za rfl rfl (Zo (v := Value.bool (false)) rfl rfl (Zb (Ze (Zc (Zc ?_)))))
 obtain ⟨ax, i, hm⟩ := Zg hm
 refine W_mid (M := fun f' w' => (fun (ax : Bool) => ∃ (bW : PHeap) , PHeap.le s bW ∧ St w0 bW (Res.box b 28 [j, k, l, m, n] :: Res.box c 51 [Value.string (a.Name), Vi (a.Cost), p, q, t, x, y] :: H) w' ∧ f' 2 = Value.pointer (some ⟨b, 0, none⟩) ∧ f' 3 = Value.pointer (some ⟨c, 0, none⟩) ∧ f' 37 = Value.bool (ax)) ax) ?_ ?_
 ·refine Zd (Za rfl rfl (Zp F51_1 rfl rfl rfl (Za rfl rfl (Zn (ac) A3 rfl rfl rfl (Za rfl rfl (Zq rfl rfl rfl (Za rfl rfl (Zm (v := Value.bool (decide (a.Cost < 0))) rfl rfl ?_))))))))
  rcases ite_some i with ⟨av, i⟩ | ⟨av, i⟩
  ·refine WL_passes 23 (by rw [av]; rfl) ?_
   refine Zb (Ze ?_)
   have dO := Zu i
   subst ax
   exact ⟨s, (Zv _), (ac).f1, rfl, rfl, rfl⟩
  replace av := Zk av
  refine WL_run rfl (Zf rfl (Zx av)) rfl (Zp F51_1 rfl rfl rfl (WL_run rfl (Zf rfl (Zx av)) rfl (Zn (ac) A3 rfl rfl rfl (WL_run rfl (Zf rfl (Zx av)) rfl (Exec.gtr rfl rfl rfl ?_)))))
  refine WL_passes 2 (by rw [av]; rfl) ?_
  rcases ite_some i with ⟨ap, i⟩ | ⟨ap, i⟩
  ·refine WL_passes 18 (by rw [ap]; rfl) ?_
   refine Zb (Ze ?_)
   have dP := Zu i
   subst ax
   exact ⟨s, (Zv _), (ac).f1, rfl, rfl, rfl⟩
  replace ap := Zk ap
  refine WL_run rfl (Zf rfl (Zx ap)) rfl (Zp F51_0 rfl rfl rfl (WL_run rfl (Zf rfl (Zx ap)) rfl (Zn (ac) A9 rfl rfl rfl (WL_run rfl (Zf rfl (Zx ap)) rfl (Exec.len_str Try.underlying9 rfl rfl (WL_run rfl (Zf rfl (Zx ap)) rfl (Exec.gtr rfl rfl rfl ?_)))))))
  refine WL_passes 2 (by rw [ap]; rfl) ?_
  rcases ite_some i with ⟨aq, i⟩ | ⟨aq, i⟩
  ·refine WL_passes 12 (by rw [aq]; rfl) ?_
   refine Zb (Ze ?_)
   have dQ := Zu i
   subst ax
   exact ⟨s, (Zv _), (ac).f1, rfl, rfl, rfl⟩
  replace aq := Zk aq
  refine WL_run rfl (Zf rfl (Zx aq)) rfl (Zp F51_3 rfl rfl rfl (WL_run rfl (Zf rfl (Zx aq)) rfl (Zn (ac) A48 rfl rfl rfl (WL_run rfl (Zf rfl (Zx aq)) rfl (Zr S48 rfl rfl bh (WL_run rfl (Zf rfl (Zx aq)) rfl (Exec.gtr rfl rfl rfl ?_)))))))
  refine WL_passes 2 (by rw [aq]; rfl) ?_
  rcases ite_some i with ⟨ak, i⟩ | ⟨ak, i⟩
  ·refine WL_passes 6 (by rw [ak]; rfl) ?_
   refine Zb (Ze ?_)
   have dR := Zu i
   subst ax
   exact ⟨s, (Zv _), (ac).f1, rfl, rfl, rfl⟩
  replace ak := Zk ak
  refine WL_run rfl (Zf rfl (Zx ak)) rfl (Exec.load_box_agg (ds := [j, k, l, m, n]) ((ac).f1) A28 rfl rfl rfl (WL_run rfl (Zf rfl (Zx ak)) rfl (Zp F51_2 rfl rfl rfl (WL_run rfl (Zf rfl (Zx ak)) rfl (Exec.load_box_agg (ds := [p, q, t]) (ac) A47 rfl rfl rfl ?_)))))
  obtain ⟨dH, d2, i⟩ := Zg i
  refine WL_run rfl (Zf rfl (Zx ak)) rfl (Tc rfl rfl rfl (Zi rfl (Zi rfl args_nil)) (ref18_Cond_sim d2 ac aT aU be bf bg cl cm cn).r ?_)
  rintro _ eO ⟨dB, dc, c9, rfl⟩
  refine WL_run rfl (Zf rfl (Zx ak)) rfl (Exec.not rfl rfl (Za rfl rfl (Exec.pick_f (v := Value.bool (!dH)) rfl (Zx ak) rfl (Zb (Ze ?_)))))
  have dS := Zu i
  subst ax
  exact ⟨dB, dc, (c9).f1, rfl, rfl, rfl⟩
 intro ex eP c0
 obtain ⟨aZ, d, b3, dh, di, bL⟩ := c0
 refine (Ze ?_)
 rcases ite_some hm with ⟨aI, hm⟩ | ⟨aI, hm⟩
 ·refine W_cond_t bL aI (Zc (Zd (Za rfl rfl (Zo (v := Value.bool (false)) rfl rfl (Zb (Ze (W_ret (at_ret ?_))))))))
  have dT := Zu hm
  subst r
  refine ⟨_, ret1 rfl, ?_⟩
  exact ⟨aZ, d, ((b3).drop).drop, rfl⟩
 refine W_cond_f bL aI ?_
 replace aI := Zk aI
 refine W_skip (Ze (Zc (Zc (Zd (Za rfl rfl (Zo (v := Vi (0)) rfl rfl (Zb (Ze ?_))))))))
 obtain ⟨bz, cr, cZ, cQ, cM⟩ := ctl_some hm
 refine W_mid (M := fun f' w' => ∃ s', (bz = .next s' ∨ bz = .brk s') ∧ (fun (bF : Int) => ∃ (bX : PHeap) , PHeap.le aZ bX ∧ St w0 bX (Res.box b 28 [j, k, l, m, n] :: Res.box c 51 [Value.string (a.Name), Vi (a.Cost), p, q, t, x, y] :: H) w' ∧ f' 2 = Value.pointer (some ⟨b, 0, none⟩) ∧ f' 3 = Value.pointer (some ⟨c, 0, none⟩) ∧ f' 5 = Vi (bF)) s') ?_ ?_
 ·refine W_block (W_while (fun s' f' w' => (fun (aw : Int) => ∃ (bY : PHeap) , PHeap.le aZ bY ∧ St w0 bY (Res.box b 28 [j, k, l, m, n] :: Res.box c 51 [Value.string (a.Name), Vi (a.Cost), p, q, t, x, y] :: H) w' ∧ f' 2 = Value.pointer (some ⟨b, 0, none⟩) ∧ f' 3 = Value.pointer (some ⟨c, 0, none⟩) ∧ f' 5 = Vi (aw)) s') cr ?_ ?_)
  ·have cA := (b3).f1
   exact ⟨aZ, (Zv _), (cA).f1, dh, di, rfl⟩
  intro aw bj ey eQ cw af bC
  obtain ⟨ba, bn, a2, bo, a5, a6⟩ := cw
  refine Zc (Zc (Zd (Za rfl rfl (Zm (v := Vi (aw)) rfl a6 (Za rfl rfl (Zp F51_0 rfl a5 rfl (Za rfl rfl (Zn ((a2).f1) A9 rfl rfl rfl (Za rfl rfl (Exec.len_str Try.underlying9 rfl rfl (Za rfl rfl (Zq rfl rfl rfl (Zb (Ze ?_))))))))))))))
  rcases ite_some af with ⟨aJ, af⟩ | ⟨aJ, af⟩
  ·refine W_cond_t rfl aJ (W_skip (Ze (Zc (W_block (Zc ?_)))))
   obtain ⟨aS, ay, af⟩ := Zg af
   refine W_mid (M := fun f' w' => (fun (aS : Bool) => ∃ (bZ : PHeap) , PHeap.le ba bZ ∧ St w0 bZ (Res.box b 28 [j, k, l, m, n] :: Res.box c 51 [Value.string (a.Name), Vi (a.Cost), p, q, t, x, y] :: H) w' ∧ f' 2 = Value.pointer (some ⟨b, 0, none⟩) ∧ f' 3 = Value.pointer (some ⟨c, 0, none⟩) ∧ f' 5 = Vi (aw) ∧ f' 56 = Value.bool (aS)) aS) ?_ ?_
   ·refine Zd (Za rfl rfl (Zp F51_0 rfl a5 rfl (Za rfl rfl (Zn ((a2).f1) A9 rfl rfl rfl (Za rfl rfl (Zm (v := Vi (aw)) rfl a6 ?_))))))
    obtain ⟨ck, bQ, ay⟩ := Zg ay
    refine Za rfl rfl (Exec.index_str Try.underlying9 rfl rfl rfl bQ (Za rfl rfl (Zq rfl rfl rfl (Za rfl rfl (Zm (v := Value.bool (decide (ck < 32))) rfl rfl ?_)))))
    rcases ite_some ay with ⟨al, ay⟩ | ⟨al, ay⟩
    ·refine WL_passes 6 (by rw [al]; rfl) ?_
     refine Zb (Ze ?_)
     have dU := Zu ay
     subst aS
     exact ⟨ba, (Zv _), ((a2).f1).f1, bo, a5, a6, rfl⟩
    replace al := Zk al
    refine WL_run rfl (Zf rfl (Zx al)) rfl (Zp F51_0 rfl a5 rfl (WL_run rfl (Zf rfl (Zx al)) rfl (Zn ((a2).f1) A9 rfl rfl rfl (WL_run rfl (Zf rfl (Zx al)) rfl (Zm (v := Vi (aw)) rfl a6 (WL_run rfl (Zf rfl (Zx al)) rfl (Exec.index_str Try.underlying9 rfl rfl rfl bQ (WL_run rfl (Zf rfl (Zx al)) rfl (Exec.gtr rfl rfl rfl (Za rfl rfl (Exec.pick_f (v := Value.bool (decide (126 < ck))) rfl (Zx al) rfl (Zb (Ze ?_)))))))))))))
    have dV := Zu ay
    subst aS
    exact ⟨ba, (Zv _), ((a2).f1).f1, bo, a5, a6, rfl⟩
   intro ez eR c1
   obtain ⟨ca, bJ, b4, dj, dk, dl, bM⟩ := c1
   refine (Ze ?_)
   rcases ite_some af with ⟨aK, af⟩ | ⟨aK, af⟩
   ·refine W_cond_t bM aK (Zc (Zd (Za rfl rfl (Zo (v := Value.bool (false)) rfl rfl (Zb (Ze (W_ret (ib_ret (at_ret (at_ret (ib_ret (at_ret (at_ret ?_)))))))))))))
    have dW := Zu af
    subst bj
    have cU := cZ _ (bC (by intro _ h; cases h))
    have dX := Zu cU
    subst r
    refine ⟨_, ret1 rfl, ?_⟩
    exact ⟨ca, (Zt (Zt d bn) bJ), ((b4).drop).drop, rfl⟩
   refine W_cond_f bM aK ?_
   replace aK := Zk aK
   refine W_skip (ib_normal (Ze (Zd (Za rfl rfl (Zm (v := Vi (aw)) rfl dl (Za rfl rfl (Exec.add rfl rfl rfl (Za rfl rfl (Zo (v := Vi (IntKind.i64.wrap (aw + 1))) rfl rfl (Zb (Ze ?_)))))))))))
   have dY := Zu af
   subst bj
   refine ⟨_, rfl, ?_⟩; exact ⟨ca, (Zt bn bJ), ((b4).f1).f1, dj, dk, rfl⟩
  refine W_cond_f rfl aJ ?_
  replace aJ := Zk aJ
  refine W_exit (at_exit (at_exit (ib_here (Ze ?_))))
  have dZ := Zu af
  subst bj
  refine ⟨_, .inr (bC (by intro _ h; cases h)), ?_⟩; exact ⟨ba, bn, ((a2).f1).f1, bo, a5, a6⟩
 rintro e0 eS ⟨bF, b7, c2⟩
 have hm := b7.elim (cQ _) (cM _)
 clear b7
 obtain ⟨bs, g, cB, dm, dn, eC⟩ := c2
 refine (Ze (Zc (Zc (Zd (Za rfl rfl (Zo (v := Vi (0)) rfl rfl (Zb (Ze ?_))))))))
 obtain ⟨b0, ct, da, cR, cN⟩ := ctl_some hm
 refine W_mid (M := fun f' w' => ∃ s', (b0 = .next s' ∨ b0 = .brk s') ∧ (fun (bG : Int) => ∃ (cb : PHeap) , PHeap.le bs cb ∧ St w0 cb (Res.box b 28 [j, k, l, m, n] :: Res.box c 51 [Value.string (a.Name), Vi (a.Cost), p, q, t, x, y] :: H) w' ∧ f' 2 = Value.pointer (some ⟨b, 0, none⟩) ∧ f' 3 = Value.pointer (some ⟨c, 0, none⟩) ∧ f' 6 = Vi (bG)) s') ?_ ?_
 ·refine W_block (W_while (fun s' f' w' => (fun (az : Int) => ∃ (cc : PHeap) , PHeap.le bs cc ∧ St w0 cc (Res.box b 28 [j, k, l, m, n] :: Res.box c 51 [Value.string (a.Name), Vi (a.Cost), p, q, t, x, y] :: H) w' ∧ f' 2 = Value.pointer (some ⟨b, 0, none⟩) ∧ f' 3 = Value.pointer (some ⟨c, 0, none⟩) ∧ f' 6 = Vi (az)) s') ct ?_ ?_)
  ·have cC := (cB).f1
   exact ⟨bs, (Zv _), (cC).f1, dm, dn, rfl⟩
  intro az bk e1 eT cx z bD
  obtain ⟨bb, aj, aG, a7, a8, a9⟩ := cx
  refine Zc (Zc (Zd (Za rfl rfl (Zm (v := Vi (az)) rfl a9 (Za rfl rfl (Zp F51_3 rfl a8 rfl (Za rfl rfl (Zn ((aG).f1) A48 rfl rfl rfl (Za rfl rfl (Zr S48 rfl rfl (bh.mono (Zt (Zt d g) aj)) (Za rfl rfl (Zq rfl rfl rfl (Zb (Ze ?_))))))))))))))
  rcases ite_some z with ⟨aL, z⟩ | ⟨aL, z⟩
  ·refine W_cond_t rfl aL (W_skip (Ze (Zc (W_block (Zc (Zd (Za rfl rfl (Zp F51_3 rfl a8 rfl (Za rfl rfl (Zn ((aG).f1) A48 rfl rfl rfl (Za rfl rfl (Zm (v := Vi (az)) rfl a9 ?_))))))))))))
   obtain ⟨aR, d3, z⟩ := Zg z
   refine Za rfl rfl (Exec.index_rep S48 rfl rfl rfl (bh.mono (Zt (Zt d g) aj)) d3 ?_)
   intro dK e9 co
   refine Za rfl rfl (Zw (E := encGChange) aG A58 rfl rfl rfl co ?_)
   intro eJ d4
   obtain ⟨bv, bw, bx, rfl, bR, bS, bT⟩ := encGChange_val.1 d4
   refine Za rfl rfl (Exec.alloc (cs := [Value.slice none 0 0, Value.slice none 0 0, Value.slice none 0 0, Vi (0), Value.bool (false)]) aG Z58 rfl rfl ?_)
   intro dL eU cD
   refine Za rfl rfl (Exec.store_box (ds := [bv, bw, bx, Vi (aR.Atom), Value.bool (aR.Add)]) (es := [bv, bw, bx, Vi (aR.Atom), Value.bool (aR.Add)]) cD A58 rfl rfl rfl rfl (Zj (bR).one (Zj (bS).one (Zj (bT).one (Zj rfl (Zj rfl one_nil))))) (Nat.le_of_ble_eq_true rfl) rfl ?_)
   intro eV ar
   refine Zb (Ze (Zc ?_))
   obtain ⟨aE, ah, z⟩ := Zg z
   refine W_mid (M := fun f' w' => (fun (aE : Bool) => ∃ (cd : PHeap) , PHeap.le bb cd ∧ St w0 cd (Res.box b 28 [j, k, l, m, n] :: Res.box c 51 [Value.string (a.Name), Vi (a.Cost), p, q, t, x, y] :: H) w' ∧ f' 2 = Value.pointer (some ⟨b, 0, none⟩) ∧ f' 3 = Value.pointer (some ⟨c, 0, none⟩) ∧ f' 6 = Vi (az) ∧ f' 86 = Value.bool (aE)) aE) ?_ ?_
   ·refine Zd (Za rfl rfl (Zp F58_1 rfl rfl rfl (Za rfl rfl (Zn (ar) A3 rfl rfl rfl (Za rfl rfl (Zq rfl rfl rfl (Za rfl rfl (Zm (v := Value.bool (decide (aR.Atom < 0))) rfl rfl ?_))))))))
    rcases ite_some ah with ⟨ad, ah⟩ | ⟨ad, ah⟩
    ·refine WL_passes 14 (by rw [ad]; rfl) ?_
     refine Zb (Ze ?_)
     have ea := Zu ah
     subst aE
     exact ⟨bb, (Zv _), (((ar).drop).f1).f1, a7, a8, a9, rfl⟩
    replace ad := Zk ad
    refine WL_run rfl (Zf rfl (Zx ad)) rfl (Zp F58_1 rfl rfl rfl (WL_run rfl (Zf rfl (Zx ad)) rfl (Zn (ar) A3 rfl rfl rfl (WL_run rfl (Zf rfl (Zx ad)) rfl (Zp F28_0 rfl a7 rfl (WL_run rfl (Zf rfl (Zx ad)) rfl (Zn ((ar).f1) A22 rfl rfl rfl (WL_run rfl (Zf rfl (Zx ad)) rfl (Zr S22 rfl rfl (aT.mono (Zt (Zt d g) aj)) (WL_run rfl (Zf rfl (Zx ad)) rfl (Exec.geq rfl rfl rfl ?_)))))))))))
    refine WL_passes 2 (by rw [ad]; rfl) ?_
    rcases ite_some ah with ⟨am, ah⟩ | ⟨am, ah⟩
    ·refine WL_passes 6 (by rw [am]; rfl) ?_
     refine Zb (Ze ?_)
     have eb := Zu ah
     subst aE
     exact ⟨bb, (Zv _), (((ar).drop).f1).f1, a7, a8, a9, rfl⟩
    replace am := Zk am
    refine WL_run rfl (Zf rfl (Zx am)) rfl (Exec.load_box_agg (ds := [j, k, l, m, n]) ((ar).f1) A28 rfl a7 rfl (WL_run rfl (Zf rfl (Zx am)) rfl (Zp F58_0 rfl rfl rfl (WL_run rfl (Zf rfl (Zx am)) rfl (Exec.load_box_agg (ds := [bv, bw, bx]) (ar) A47 rfl rfl rfl ?_)))))
    obtain ⟨dI, d5, ah⟩ := Zg ah
    refine WL_run rfl (Zf rfl (Zx am)) rfl (Tc rfl rfl rfl (Zi rfl (Zi rfl args_nil)) (ref18_Cond_sim d5 ar (aT.mono (Zt (Zt d g) aj)) (aU.mono (Zt (Zt d g) aj)) (be.mono (Zt (Zt d g) aj)) (bf.mono (Zt (Zt d g) aj)) (bg.mono (Zt (Zt d g) aj)) bR bS bT).r ?_)
    rintro _ eW ⟨dC, dd, cE, rfl⟩
    refine WL_run rfl (Zf rfl (Zx am)) rfl (Exec.not rfl rfl (Za rfl rfl (Exec.pick_f (v := Value.bool (!dI)) rfl (Zx am) rfl (Zb (Ze ?_)))))
    have ec := Zu ah
    subst aE
    exact ⟨dC, dd, (((cE).drop).f1).f1, a7, a8, a9, rfl⟩
   intro e2 eX c3
   obtain ⟨ce, bK, b5, dp, dq, dr, bN⟩ := c3
   refine (Ze ?_)
   rcases ite_some z with ⟨aM, z⟩ | ⟨aM, z⟩
   ·refine W_cond_t bN aM (Zc (Zd (Za rfl rfl (Zo (v := Value.bool (false)) rfl rfl (Zb (Ze (W_ret (ib_ret (at_ret (at_ret (ib_ret (at_ret (at_ret ?_)))))))))))))
    have ed := Zu z
    subst bk
    have cV := da _ (bD (by intro _ h; cases h))
    have ee := Zu cV
    subst r
    refine ⟨_, ret1 rfl, ?_⟩
    exact ⟨ce, (Zt (Zt (Zt d g) aj) bK), ((b5).drop).drop, rfl⟩
   refine W_cond_f bN aM ?_
   replace aM := Zk aM
   refine W_skip (ib_normal (Ze (Zd (Za rfl rfl (Zm (v := Vi (az)) rfl dr (Za rfl rfl (Exec.add rfl rfl rfl (Za rfl rfl (Zo (v := Vi (IntKind.i64.wrap (az + 1))) rfl rfl (Zb (Ze ?_)))))))))))
   have ef := Zu z
   subst bk
   refine ⟨_, rfl, ?_⟩; exact ⟨ce, (Zt aj bK), ((b5).f1).f1, dp, dq, rfl⟩
  refine W_cond_f rfl aL ?_
  replace aL := Zk aL
  refine W_exit (at_exit (at_exit (ib_here (Ze ?_))))
  have eg := Zu z
  subst bk
  refine ⟨_, .inr (bD (by intro _ h; cases h)), ?_⟩; exact ⟨bb, aj, ((aG).f1).f1, a7, a8, a9⟩
 rintro e3 eY ⟨bG, b8, c4⟩
 have hm := b8.elim (cR _) (cN _)
 clear b8
 obtain ⟨bt, ab, cF, dt, du, eD⟩ := c4
 refine (Ze (Zc (Zc (Zd (Za rfl rfl (Zo (v := Vi (0)) rfl rfl (Zb (Ze ?_))))))))
 obtain ⟨b1, cu, bB, cS, cO⟩ := ctl_some hm
 refine W_mid (M := fun f' w' => ∃ s', (b1 = .next s' ∨ b1 = .brk s') ∧ (fun (bH : Int) => ∃ (cf : PHeap) , PHeap.le bt cf ∧ St w0 cf (Res.box b 28 [j, k, l, m, n] :: Res.box c 51 [Value.string (a.Name), Vi (a.Cost), p, q, t, x, y] :: H) w' ∧ f' 2 = Value.pointer (some ⟨b, 0, none⟩) ∧ f' 3 = Value.pointer (some ⟨c, 0, none⟩) ∧ f' 8 = Vi (bH)) s') ?_ ?_
 ·refine W_block (W_while (fun s' f' w' => (fun (ao : Int) => ∃ (cg : PHeap) , PHeap.le bt cg ∧ St w0 cg (Res.box b 28 [j, k, l, m, n] :: Res.box c 51 [Value.string (a.Name), Vi (a.Cost), p, q, t, x, y] :: H) w' ∧ f' 2 = Value.pointer (some ⟨b, 0, none⟩) ∧ f' 3 = Value.pointer (some ⟨c, 0, none⟩) ∧ f' 8 = Vi (ao)) s') cu ?_ ?_)
  ·have cG := (cF).f1
   exact ⟨bt, (Zv _), (cG).f1, dt, du, rfl⟩
  intro ao aV e4 eZ cy u bm
  obtain ⟨bc, aa, aH, aA, aB, aC⟩ := cy
  refine Zc (Zc (Zd (Za rfl rfl (Zm (v := Vi (ao)) rfl aC (Za rfl rfl (Zp F51_4 rfl aB rfl (Za rfl rfl (Zn ((aH).f1) A49 rfl rfl rfl (Za rfl rfl (Zr S49 rfl rfl (bi.mono (Zt (Zt (Zt d g) ab) aa)) (Za rfl rfl (Zq rfl rfl rfl (Zb (Ze ?_))))))))))))))
  rcases ite_some u with ⟨aN, u⟩ | ⟨aN, u⟩
  ·refine W_cond_t rfl aN (W_skip (Ze (Zc (W_block (Zc (Zd (Za rfl rfl (Zp F51_4 rfl aB rfl (Za rfl rfl (Zn ((aH).f1) A49 rfl rfl rfl (Za rfl rfl (Zm (v := Vi (ao)) rfl aC ?_))))))))))))
   obtain ⟨o, d6, u⟩ := Zg u
   refine Za rfl rfl (Exec.index_rep S49 rfl rfl rfl (bi.mono (Zt (Zt (Zt d g) ab) aa)) d6 ?_)
   intro dM eA cp
   refine Za rfl rfl (Zw (E := encGAssign) aH A84 rfl rfl rfl cp ?_)
   intro eK d7
   obtain ⟨aD, rfl, bU⟩ := encGAssign_val.1 d7
   refine Za rfl rfl (Exec.alloc (cs := [Vi (0), Value.string (⟨#[]⟩), Vi (0), Value.slice none 0 0]) aH Z84 rfl rfl ?_)
   intro a0 fa cH
   refine Za rfl rfl (Exec.store_box (ds := [Vi (o.Fluent), Value.string (o.Value.Op), Vi (o.Value.N), aD]) (es := [Vi (o.Fluent), Value.string (o.Value.Op), Vi (o.Value.N), aD]) cH A84 rfl rfl rfl rfl (Zj rfl (Zj rfl (Zj rfl (Zj (bU).one one_nil)))) (Nat.le_of_ble_eq_true rfl) rfl ?_)
   intro fb au
   refine Zb (Ze (Zc (Zc ?_)))
   obtain ⟨aF, ai, u⟩ := Zg u
   refine W_mid (M := fun f' w' => (fun (aF : Bool) => ∃ (ch : PHeap) , PHeap.le bc ch ∧ St w0 ch (Res.box b 28 [j, k, l, m, n] :: Res.box c 51 [Value.string (a.Name), Vi (a.Cost), p, q, t, x, y] :: Res.box a0 84 [Vi (o.Fluent), Value.string (o.Value.Op), Vi (o.Value.N), aD] :: H) w' ∧ f' 2 = Value.pointer (some ⟨b, 0, none⟩) ∧ f' 3 = Value.pointer (some ⟨c, 0, none⟩) ∧ f' 8 = Vi (ao) ∧ f' 9 = Value.pointer (some ⟨a0, 0, none⟩) ∧ f' 116 = Value.bool (aF)) aF) ?_ ?_
   ·refine Zd (Za rfl rfl (Zp F84_0 rfl rfl rfl (Za rfl rfl (Zn (au) A3 rfl rfl rfl (Za rfl rfl (Zq rfl rfl rfl (Za rfl rfl (Zm (v := Value.bool (decide (o.Fluent < 0))) rfl rfl ?_))))))))
    rcases ite_some ai with ⟨ae, ai⟩ | ⟨ae, ai⟩
    ·refine WL_passes 14 (by rw [ae]; rfl) ?_
     refine Zb (Ze ?_)
     have eh := Zu ai
     subst aF
     exact ⟨bc, (Zv _), ((au).f2).f2, aA, aB, aC, rfl, rfl⟩
    replace ae := Zk ae
    refine WL_run rfl (Zf rfl (Zx ae)) rfl (Zp F84_0 rfl rfl rfl (WL_run rfl (Zf rfl (Zx ae)) rfl (Zn (au) A3 rfl rfl rfl (WL_run rfl (Zf rfl (Zx ae)) rfl (Zp F28_1 rfl aA rfl (WL_run rfl (Zf rfl (Zx ae)) rfl (Zn ((au).f1) A23 rfl rfl rfl (WL_run rfl (Zf rfl (Zx ae)) rfl (Zr S23 rfl rfl (aU.mono (Zt (Zt (Zt d g) ab) aa)) (WL_run rfl (Zf rfl (Zx ae)) rfl (Exec.geq rfl rfl rfl ?_)))))))))))
    refine WL_passes 2 (by rw [ae]; rfl) ?_
    rcases ite_some ai with ⟨an, ai⟩ | ⟨an, ai⟩
    ·refine WL_passes 6 (by rw [an]; rfl) ?_
     refine Zb (Ze ?_)
     have ei := Zu ai
     subst aF
     exact ⟨bc, (Zv _), ((au).f2).f2, aA, aB, aC, rfl, rfl⟩
    replace an := Zk an
    refine WL_run rfl (Zf rfl (Zx an)) rfl (Exec.load_box_agg (ds := [j, k, l, m, n]) ((au).f1) A28 rfl aA rfl (WL_run rfl (Zf rfl (Zx an)) rfl (Zp F84_1 rfl rfl rfl (WL_run rfl (Zf rfl (Zx an)) rfl (Exec.load_box_agg (ds := [Value.string (o.Value.Op), Vi (o.Value.N), aD]) (au) A82 rfl rfl rfl ?_)))))
    obtain ⟨dJ, d8, ai⟩ := Zg ai
    refine WL_run rfl (Zf rfl (Zx an)) rfl (Tc rfl rfl rfl (Zi rfl (Zi rfl args_nil)) (ref18_Expr_sim d8 au (aT.mono (Zt (Zt (Zt d g) ab) aa)) (aU.mono (Zt (Zt (Zt d g) ab) aa)) (be.mono (Zt (Zt (Zt d g) ab) aa)) (bf.mono (Zt (Zt (Zt d g) ab) aa)) (bg.mono (Zt (Zt (Zt d g) ab) aa)) bU).r ?_)
    rintro _ fc ⟨dD, de, cI, rfl⟩
    refine WL_run rfl (Zf rfl (Zx an)) rfl (Exec.not rfl rfl (Za rfl rfl (Exec.pick_f (v := Value.bool (!dJ)) rfl (Zx an) rfl (Zb (Ze ?_)))))
    have ej := Zu ai
    subst aF
    exact ⟨dD, de, ((cI).f2).f2, aA, aB, aC, rfl, rfl⟩
   intro e5 fd c5
   obtain ⟨bd, aW, b6, dv, dw, dx, dy, bO⟩ := c5
   refine (Ze ?_)
   rcases ite_some u with ⟨aO, u⟩ | ⟨aO, u⟩
   ·refine W_cond_t bO aO (Zc (Zd (Za rfl rfl (Zo (v := Value.bool (false)) rfl rfl (Zb (Ze (W_ret (at_ret (ib_ret (at_ret (at_ret (ib_ret (at_ret (at_ret ?_))))))))))))))
    have ek := Zu u
    subst aV
    have cW := bB _ (bm (by intro _ h; cases h))
    have el := Zu cW
    subst r
    refine ⟨_, ret1 rfl, ?_⟩
    exact ⟨bd, (Zt (Zt (Zt (Zt d g) ab) aa) aW), (((b6).drop).drop).drop, rfl⟩
   refine W_cond_f bO aO ?_
   replace aO := Zk aO
   refine W_skip (Ze (Zc (Zd (Za rfl rfl (Zo (v := Vi (0)) rfl rfl (Zb (Ze ?_)))))))
   obtain ⟨b2, cv, db, cT, cP⟩ := ctl_some u
   refine W_mid (M := fun f' w' => ∃ s', (b2 = .next s' ∨ b2 = .brk s') ∧ (fun (bI : Int) => ∃ (ci : PHeap) , PHeap.le bd ci ∧ St w0 ci (Res.box b 28 [j, k, l, m, n] :: Res.box c 51 [Value.string (a.Name), Vi (a.Cost), p, q, t, x, y] :: Res.box a0 84 [Vi (o.Fluent), Value.string (o.Value.Op), Vi (o.Value.N), aD] :: H) w' ∧ f' 2 = Value.pointer (some ⟨b, 0, none⟩) ∧ f' 3 = Value.pointer (some ⟨c, 0, none⟩) ∧ f' 8 = Vi (ao) ∧ f' 9 = Value.pointer (some ⟨a0, 0, none⟩) ∧ f' 10 = Vi (bI)) s') ?_ ?_
   ·refine W_block (W_while (fun s' f' w' => (fun (a4 : Int) => ∃ (cj : PHeap) , PHeap.le bd cj ∧ St w0 cj (Res.box b 28 [j, k, l, m, n] :: Res.box c 51 [Value.string (a.Name), Vi (a.Cost), p, q, t, x, y] :: Res.box a0 84 [Vi (o.Fluent), Value.string (o.Value.Op), Vi (o.Value.N), aD] :: H) w' ∧ f' 2 = Value.pointer (some ⟨b, 0, none⟩) ∧ f' 3 = Value.pointer (some ⟨c, 0, none⟩) ∧ f' 8 = Vi (ao) ∧ f' 9 = Value.pointer (some ⟨a0, 0, none⟩) ∧ f' 10 = Vi (a4)) s') cv ?_ ?_)
    ·have cJ := (b6).f2
     exact ⟨bd, (Zv _), ((cJ).f2).f2, dv, dw, dx, dy, rfl⟩
    intro a4 bl e6 fe cz ag bE
    obtain ⟨bu, aX, a3, bP, bp, bq, br, aY⟩ := cz
    refine Zc (Zc (Zd (Za rfl rfl (Zm (v := Vi (a4)) rfl aY (Za rfl rfl (Zm (v := Vi (ao)) rfl bq (Za rfl rfl (Zq rfl rfl rfl (Zb (Ze ?_))))))))))
    rcases ite_some ag with ⟨aP, ag⟩ | ⟨aP, ag⟩
    ·refine W_cond_t rfl aP (W_skip (Ze (Zc (W_block (Zc (W_dl (n0 := 9) (qs 0 9 .done) hmix (by kernel_rfl) (by kernel_rfl) (DL_q rfl rfl (Zp F51_4 rfl bp rfl ⟨rfl, ?_⟩))))))))
     refine DL_q rfl rfl (Zn ((a3.drew).f1) A49 rfl rfl rfl ⟨rfl, ?_⟩)
     refine DL_q rfl rfl (Zm (v := Vi (a4)) rfl aY ⟨rfl, ?_⟩)
     obtain ⟨fh, d9, ag⟩ := Zg ag
     refine DL_q rfl rfl (Exec.index_repE S49 rfl rfl rfl (bi.mono (Zt (Zt (Zt (Zt (Zt d g) ab) aa) aW) aX)) d9 ?_)
     intro dN eB cq em
     refine ⟨rfl, ?_⟩
     refine DL_q rfl rfl (Zp F84_0 rfl rfl rfl ⟨rfl, ?_⟩)
     refine DL_q rfl rfl (Zw (E := (encInt .i64)) a3.drew A3 rfl rfl rfl (cq.sub (Sub.iso (Sub.fst (Sub.refl _))) rfl) ?_)
     intro eL dA
     obtain rfl := encInt_val.1 dA
     refine ⟨rfl, ?_⟩
     refine DL_q rfl rfl (Zp F84_0 rfl br rfl ⟨rfl, ?_⟩)
     refine DL_q rfl rfl (Zn ((a3.drew).f2) A3 rfl rfl rfl ⟨rfl, ?_⟩)
     refine DL_q rfl rfl (Exec.eql rfl rfl rfl ⟨rfl, ?_⟩)
     refine DL_done (Zb (Ze ?_))
     rcases ite_some ag with ⟨aQ, ag⟩ | ⟨aQ, ag⟩
     ·refine W_cond_t rfl aQ (Zc (Zd (Za rfl rfl (Zo (v := Value.bool (false)) rfl rfl (Zb (Ze (W_ret (ib_ret (at_ret (at_ret (ib_ret (at_ret (ib_ret (at_ret (at_ret (ib_ret (at_ret (at_ret ?_))))))))))))))))))
      have en := Zu ag
      subst bl
      have cX := db _ (bE (by intro _ h; cases h))
      have eo := Zu cX
      subst aV
      have cY := bB _ (bm (by intro _ h; cases h))
      have ep := Zu cY
      subst r
      refine ⟨_, ret1 rfl, ?_⟩
      exact ⟨bu, (Zt (Zt (Zt (Zt (Zt d g) ab) aa) aW) aX), (((a3.drew).drop).drop).drop, rfl⟩
     refine W_cond_f rfl aQ ?_
     replace aQ := Zk aQ
     refine W_skip (ib_normal (Ze (Zd (Za rfl rfl (Zm (v := Vi (a4)) rfl aY (Za rfl rfl (Exec.add rfl rfl rfl (Za rfl rfl (Zo (v := Vi (IntKind.i64.wrap (a4 + 1))) rfl rfl (Zb (Ze ?_)))))))))))
     have er := Zu ag
     subst bl
     refine ⟨_, rfl, ?_⟩; exact ⟨bu, aX, (((a3.drew).f2).f2).f2, bP, bp, bq, br, rfl⟩
    refine W_cond_f rfl aP ?_
    replace aP := Zk aP
    refine W_exit (at_exit (at_exit (ib_here (Ze ?_))))
    have et := Zu ag
    subst bl
    refine ⟨_, .inr (bE (by intro _ h; cases h)), ?_⟩; exact ⟨bu, aX, (((a3).f2).f2).f2, bP, bp, bq, br, aY⟩
   rintro e7 ff ⟨bI, b9, c6⟩
   have u := b9.elim (cT _) (cP _)
   clear b9
   obtain ⟨dE, df, cK, dz, d0, d1, eE, eF⟩ := c6
   refine (ib_normal (Ze (Zd (Za rfl rfl (Zm (v := Vi (ao)) rfl d1 (Za rfl rfl (Exec.add rfl rfl rfl (Za rfl rfl (Zo (v := Vi (IntKind.i64.wrap (ao + 1))) rfl rfl (Zb (Ze ?_)))))))))))
   have eu := Zu u
   subst aV
   refine ⟨_, rfl, ?_⟩; exact ⟨dE, (Zt (Zt aa aW) df), ((((cK).f2).drop).f1).f1, dz, d0, rfl⟩
  refine W_cond_f rfl aN ?_
  replace aN := Zk aN
  refine W_exit (at_exit (at_exit (ib_here (Ze ?_))))
  have ev := Zu u
  subst aV
  refine ⟨_, .inr (bm (by intro _ h; cases h)), ?_⟩; exact ⟨bc, aa, ((aH).f1).f1, aA, aB, aC⟩
 rintro e8 fg ⟨bH, bA, c7⟩
 have hm := bA.elim (cS _) (cO _)
 clear bA
 obtain ⟨dF, dg, cL, eG, eH, eI⟩ := c7
 refine (Ze (Zc (Zd (Za rfl rfl (Zo (v := Value.bool (true)) rfl rfl (Zb (Ze (W_ret ?_))))))))
 have ew := Zu hm
 subst r
 refine ⟨_, ret1 rfl, ?_⟩
 exact ⟨dF, (Zt (Zt (Zt d g) ab) dg), ((cL).drop).drop, rfl⟩
theorem ref18_Valid_sim {w0 w : World} {s : PHeap} {H : List Res} {fu : Nat} {al : Ground} {n : Value} {o : Value} {p : Value} {t : Value} {u : Value} {r : Bool} (hm : ref18_Valid_p fu al = some r) (hS : St w0 s (H) w) (a8 : SliceRep encAtom s n al.Atoms) (au : SliceRep encGFluent s o al.Fluents) (aC : SliceRep (encInt .i64) s p al.Init) (av : SliceRep encCond s t al.Goal) (aw : SliceRep encGOp s u al.Ops) :
  Calls Try.prog 22 #[Value.agg #[n, o, p, t, u]] w fun e w' => ∃ v, e = .returned v ∧ ((fun (cp : Bool) => ∃ (bd : PHeap) , PHeap.le s bd ∧ St w0 bd (H) w' ∧ v = Value.bool (cp)) r) := by
 unfold ref18_Valid_p at hm
 refine calls_of_W Try.func22 rfl rfl (Zc (Zd (Za rfl rfl (Exec.box (cs := [n, o, p, t, u]) hS rfl rfl rfl ?_))))
 intro g dh z
 refine Za rfl rfl (Zo (v := Value.bool (false)) rfl rfl (Zb (Ze (Zc (Zc ?_)))))
 obtain ⟨ak, c, hm⟩ := Zg hm
 refine W_mid (M := fun f' w' => (fun (ak : Bool) => ∃ (be : PHeap) , PHeap.le s be ∧ St w0 be (Res.box g 28 [n, o, p, t, u] :: H) w' ∧ f' 1 = Value.pointer (some ⟨g, 0, none⟩) ∧ f' 37 = Value.bool (ak)) ak) ?_ ?_
 ·refine Zd (Za rfl rfl (Zp F28_0 rfl rfl rfl (Za rfl rfl (Zn (z) A22 rfl rfl rfl (Za rfl rfl (Zr S22 rfl rfl a8 (Za rfl rfl (Exec.gtr rfl rfl rfl (Za rfl rfl (Zm (v := Value.bool (decide (4096 < (al.Atoms.length : Int)))) rfl rfl ?_))))))))))
  rcases ite_some c with ⟨ae, c⟩ | ⟨ae, c⟩
  ·refine WL_passes 26 (by rw [ae]; rfl) ?_
   refine Zb (Ze ?_)
   have cw := Zu c
   subst ak
   exact ⟨s, (Zv _), z, rfl, rfl⟩
  replace ae := Zk ae
  refine WL_run rfl (Zf rfl (Zx ae)) rfl (Zp F28_1 rfl rfl rfl (WL_run rfl (Zf rfl (Zx ae)) rfl (Zn (z) A23 rfl rfl rfl (WL_run rfl (Zf rfl (Zx ae)) rfl (Zr S23 rfl rfl au (WL_run rfl (Zf rfl (Zx ae)) rfl (Exec.gtr rfl rfl rfl ?_)))))))
  refine WL_passes 2 (by rw [ae]; rfl) ?_
  rcases ite_some c with ⟨af, c⟩ | ⟨af, c⟩
  ·refine WL_passes 20 (by rw [af]; rfl) ?_
   refine Zb (Ze ?_)
   have cx := Zu c
   subst ak
   exact ⟨s, (Zv _), z, rfl, rfl⟩
  replace af := Zk af
  refine WL_run rfl (Zf rfl (Zx af)) rfl (Zp F28_4 rfl rfl rfl (WL_run rfl (Zf rfl (Zx af)) rfl (Zn (z) A26 rfl rfl rfl (WL_run rfl (Zf rfl (Zx af)) rfl (Zr S26 rfl rfl aw (WL_run rfl (Zf rfl (Zx af)) rfl (Exec.gtr rfl rfl rfl ?_)))))))
  refine WL_passes 2 (by rw [af]; rfl) ?_
  rcases ite_some c with ⟨ag, c⟩ | ⟨ag, c⟩
  ·refine WL_passes 14 (by rw [ag]; rfl) ?_
   refine Zb (Ze ?_)
   have cy := Zu c
   subst ak
   exact ⟨s, (Zv _), z, rfl, rfl⟩
  replace ag := Zk ag
  refine WL_run rfl (Zf rfl (Zx ag)) rfl (Zp F28_3 rfl rfl rfl (WL_run rfl (Zf rfl (Zx ag)) rfl (Zn (z) A25 rfl rfl rfl (WL_run rfl (Zf rfl (Zx ag)) rfl (Zr S25 rfl rfl av (WL_run rfl (Zf rfl (Zx ag)) rfl (Exec.gtr rfl rfl rfl ?_)))))))
  refine WL_passes 2 (by rw [ag]; rfl) ?_
  rcases ite_some c with ⟨x, c⟩ | ⟨x, c⟩
  ·refine WL_passes 8 (by rw [x]; rfl) ?_
   refine Zb (Ze ?_)
   have cz := Zu c
   subst ak
   exact ⟨s, (Zv _), z, rfl, rfl⟩
  replace x := Zk x
  refine WL_run rfl (Zf rfl (Zx x)) rfl (Zp F28_2 rfl rfl rfl (WL_run rfl (Zf rfl (Zx x)) rfl (Zn (z) A24 rfl rfl rfl (WL_run rfl (Zf rfl (Zx x)) rfl (Zp F28_0 rfl rfl rfl (WL_run rfl (Zf rfl (Zx x)) rfl (Zn (z) A22 rfl rfl rfl (WL_run rfl (Zf rfl (Zx x)) rfl (Zr S22 rfl rfl a8 ?_)))))))))
  obtain ⟨cq, bT, c⟩ := Zg c
  refine WL_run rfl (Zf rfl (Zx x)) rfl (Tc rfl rfl rfl (Zi rfl (Zi rfl args_nil)) (ref18_ascending_sim bT z aC).r ?_)
  rintro _ di ⟨cl, bM, b5, rfl⟩
  refine WL_run rfl (Zf rfl (Zx x)) rfl (Exec.not rfl rfl (Za rfl rfl (Exec.pick_f (v := Value.bool (!cq)) rfl (Zx x) rfl (Zb (Ze ?_)))))
  have c0 := Zu c
  subst ak
  exact ⟨cl, bM, b5, rfl, rfl⟩
 intro cH dj b0
 obtain ⟨aB, b, aL, bO, bb⟩ := b0
 refine (Ze ?_)
 rcases ite_some hm with ⟨ay, hm⟩ | ⟨ay, hm⟩
 ·refine W_cond_t bb ay (Zc (Zd (Za rfl rfl (Zo (v := Value.bool (false)) rfl rfl (Zb (Ze (W_ret (at_ret ?_))))))))
  have c1 := Zu hm
  subst r
  refine ⟨_, ret1 rfl, ?_⟩
  exact ⟨aB, b, (aL).drop, rfl⟩
 refine W_cond_f bb ay ?_
 replace ay := Zk ay
 refine W_skip (Ze (Zc (Zc (Zd (Za rfl rfl (Zo (v := Vi (0)) rfl rfl (Zb (Ze ?_))))))))
 obtain ⟨aI, bt, bJ, bD, bA⟩ := ctl_some hm
 refine W_mid (M := fun f' w' => ∃ s', (aI = .next s' ∨ aI = .brk s') ∧ (fun (aV : Int) => ∃ (bf : PHeap) , PHeap.le aB bf ∧ St w0 bf (Res.box g 28 [n, o, p, t, u] :: H) w' ∧ f' 1 = Value.pointer (some ⟨g, 0, none⟩) ∧ f' 3 = Vi (aV)) s') ?_ ?_
 ·refine W_block (W_while (fun s' f' w' => (fun (am : Int) => ∃ (bg : PHeap) , PHeap.le aB bg ∧ St w0 bg (Res.box g 28 [n, o, p, t, u] :: H) w' ∧ f' 1 = Value.pointer (some ⟨g, 0, none⟩) ∧ f' 3 = Vi (am)) s') bt ?_ ?_)
  ·exact ⟨aB, (Zv _), aL, bO, rfl⟩
  intro am aD cI dk bw aa aS
  obtain ⟨an, a5, ax, ai, aj⟩ := bw
  refine Zc (Zc (Zd (Za rfl rfl (Zm (v := Vi (am)) rfl aj (Za rfl rfl (Zp F28_1 rfl ai rfl (Za rfl rfl (Zn (ax) A23 rfl rfl rfl (Za rfl rfl (Zr S23 rfl rfl (au.mono (Zt b a5)) (Za rfl rfl (Zq rfl rfl rfl (Zb (Ze ?_))))))))))))))
  rcases ite_some aa with ⟨az, aa⟩ | ⟨az, aa⟩
  ·refine W_cond_t rfl az (W_skip (Ze (Zc (W_block (Zc (Zd (Za rfl rfl (Zp F28_1 rfl ai rfl (Za rfl rfl (Zn (ax) A23 rfl rfl rfl (Za rfl rfl (Zm (v := Vi (am)) rfl aj ?_))))))))))))
   obtain ⟨a, bU, aa⟩ := Zg aa
   refine Za rfl rfl (Exec.index_rep S23 rfl rfl rfl (au.mono (Zt b a5)) bU ?_)
   intro cr cP bq
   refine Za rfl rfl (Zw (E := encGFluent) ax A93 rfl rfl rfl bq ?_)
   intro de bV
   obtain ⟨bp, rfl, cc⟩ := encGFluent_val.1 bV
   refine Za rfl rfl (Exec.alloc (cs := [Value.string (⟨#[]⟩), Value.slice none 0 0, Vi (0), Vi (0), Vi (0)]) ax Z93 rfl rfl ?_)
   intro ct dl b6
   refine Za rfl rfl (Exec.store_box (ds := [Value.string (a.Fluent.Name), bp, Vi (a.Lo), Vi (a.Hi), Vi (a.Init)]) (es := [Value.string (a.Fluent.Name), bp, Vi (a.Lo), Vi (a.Hi), Vi (a.Init)]) b6 A93 rfl rfl rfl rfl (Zj rfl (Zj (cc).one (Zj rfl (Zj rfl (Zj rfl one_nil))))) (Nat.le_of_ble_eq_true rfl) rfl ?_)
   intro dm j
   refine Zb (Ze (Zc (W_mid (M := fun f' w' => ∃ (bh : PHeap) , PHeap.le an bh ∧ St w0 bh (Res.box g 28 [n, o, p, t, u] :: H) w' ∧ f' 1 = Value.pointer (some ⟨g, 0, none⟩) ∧ f' 3 = Vi (am) ∧ f' 79 = Value.bool (((decide (a.Lo < (-1099511627776))) || ((decide (a.Init < a.Lo)) || ((decide (a.Hi < a.Init)) || ((decide (1099511627776 < a.Hi)) || decide (64 ≤ (IntKind.i64.wrap (a.Hi - a.Lo))))))))) ?_ ?_)))
   ·refine Zd (Za rfl rfl (Zp F93_1 rfl rfl rfl (Za rfl rfl (Zn (j) A3 rfl rfl rfl (Za rfl rfl (Zq rfl rfl rfl (Za rfl rfl (Zm (v := Value.bool (decide (a.Lo < (-1099511627776)))) rfl rfl ?_))))))))
    by_cases i : (decide (a.Lo < (-1099511627776))) = true
    ·refine WL_passes 26 (by rw [i]; rfl) ?_
     refine Zb (Ze ?_)
     exact ⟨an, (Zv _), (j).drop, ai, aj, (Zx (or_t i)).symm⟩
    replace i := Zk i
    refine WL_run rfl (Zf rfl (Zx i)) rfl (Zp F93_1 rfl rfl rfl (WL_run rfl (Zf rfl (Zx i)) rfl (Zn (j) A3 rfl rfl rfl (WL_run rfl (Zf rfl (Zx i)) rfl (Zp F93_3 rfl rfl rfl (WL_run rfl (Zf rfl (Zx i)) rfl (Zn (j) A3 rfl rfl rfl (WL_run rfl (Zf rfl (Zx i)) rfl (Exec.gtr rfl rfl rfl ?_)))))))))
    refine WL_passes 2 (by rw [i]; rfl) ?_
    by_cases k : (decide (a.Init < a.Lo)) = true
    ·refine WL_passes 19 (by rw [k]; rfl) ?_
     refine Zb (Ze ?_)
     exact ⟨an, (Zv _), (j).drop, ai, aj, (Zx (Eq.trans (or_f i) (or_t k))).symm⟩
    replace k := Zk k
    refine WL_run rfl (Zf rfl (Zx k)) rfl (Zp F93_3 rfl rfl rfl (WL_run rfl (Zf rfl (Zx k)) rfl (Zn (j) A3 rfl rfl rfl (WL_run rfl (Zf rfl (Zx k)) rfl (Zp F93_2 rfl rfl rfl (WL_run rfl (Zf rfl (Zx k)) rfl (Zn (j) A3 rfl rfl rfl (WL_run rfl (Zf rfl (Zx k)) rfl (Exec.gtr rfl rfl rfl ?_)))))))))
    refine WL_passes 2 (by rw [k]; rfl) ?_
    by_cases ab : (decide (a.Hi < a.Init)) = true
    ·refine WL_passes 12 (by rw [ab]; rfl) ?_
     refine Zb (Ze ?_)
     exact ⟨an, (Zv _), (j).drop, ai, aj, (Zx (Eq.trans (or_f i) (Eq.trans (or_f k) (or_t ab)))).symm⟩
    replace ab := Zk ab
    refine WL_run rfl (Zf rfl (Zx ab)) rfl (Zp F93_2 rfl rfl rfl (WL_run rfl (Zf rfl (Zx ab)) rfl (Zn (j) A3 rfl rfl rfl (WL_run rfl (Zf rfl (Zx ab)) rfl (Exec.gtr rfl rfl rfl ?_)))))
    refine WL_passes 2 (by rw [ab]; rfl) ?_
    by_cases y : (decide (1099511627776 < a.Hi)) = true
    ·refine WL_passes 7 (by rw [y]; rfl) ?_
     refine Zb (Ze ?_)
     exact ⟨an, (Zv _), (j).drop, ai, aj, (Zx (Eq.trans (or_f i) (Eq.trans (or_f k) (Eq.trans (or_f ab) (or_t y))))).symm⟩
    replace y := Zk y
    refine WL_run rfl (Zf rfl (Zx y)) rfl (Zp F93_2 rfl rfl rfl (WL_run rfl (Zf rfl (Zx y)) rfl (Zn (j) A3 rfl rfl rfl (WL_run rfl (Zf rfl (Zx y)) rfl (Zp F93_1 rfl rfl rfl (WL_run rfl (Zf rfl (Zx y)) rfl (Zn (j) A3 rfl rfl rfl (WL_run rfl (Zf rfl (Zx y)) rfl (Exec.sub rfl rfl rfl (WL_run rfl (Zf rfl (Zx y)) rfl (Exec.geq rfl rfl rfl (Za rfl rfl (Exec.pick_f (v := Value.bool (decide (64 ≤ (IntKind.i64.wrap (a.Hi - a.Lo))))) rfl (Zx y) rfl (Zb (Ze ?_)))))))))))))))
    exact ⟨an, (Zv _), (j).drop, ai, aj, (Zx (Eq.trans (or_f i) (Eq.trans (or_f k) (Eq.trans (or_f ab) (or_f y))))).symm⟩
   intro cJ dn b1
   obtain ⟨bi, aY, aM, bP, bQ, bc⟩ := b1
   refine (Ze ?_)
   rcases ite_some aa with ⟨a0, aa⟩ | ⟨a0, aa⟩
   ·refine W_cond_t bc a0 (Zc (Zd (Za rfl rfl (Zo (v := Value.bool (false)) rfl rfl (Zb (Ze (W_ret (ib_ret (at_ret (at_ret (ib_ret (at_ret (at_ret ?_)))))))))))))
    have c2 := Zu aa
    subst aD
    have bG := bJ _ (aS (by intro _ h; cases h))
    have c3 := Zu bG
    subst r
    refine ⟨_, ret1 rfl, ?_⟩
    exact ⟨bi, (Zt (Zt b a5) aY), (aM).drop, rfl⟩
   refine W_cond_f bc a0 ?_
   replace a0 := Zk a0
   refine W_skip (ib_normal (Ze (Zd (Za rfl rfl (Zm (v := Vi (am)) rfl bQ (Za rfl rfl (Exec.add rfl rfl rfl (Za rfl rfl (Zo (v := Vi (IntKind.i64.wrap (am + 1))) rfl rfl (Zb (Ze ?_)))))))))))
   have c4 := Zu aa
   subst aD
   refine ⟨_, rfl, ?_⟩; exact ⟨bi, (Zt a5 aY), aM, bP, rfl⟩
  refine W_cond_f rfl az ?_
  replace az := Zk az
  refine W_exit (at_exit (at_exit (ib_here (Ze ?_))))
  have c5 := Zu aa
  subst aD
  refine ⟨_, .inr (aS (by intro _ h; cases h)), ?_⟩; exact ⟨an, a5, ax, ai, aj⟩
 rintro cK dp ⟨aV, aP, b2⟩
 have hm := aP.elim (bD _) (bA _)
 clear aP
 obtain ⟨aG, d, b7, bR, cS⟩ := b2
 refine (Ze (Zc (Zc (Zd (Za rfl rfl (Zo (v := Vi (0)) rfl rfl (Zb (Ze ?_))))))))
 obtain ⟨aJ, bu, bK, bE, bB⟩ := ctl_some hm
 refine W_mid (M := fun f' w' => ∃ s', (aJ = .next s' ∨ aJ = .brk s') ∧ (fun (aW : Int) => ∃ (bj : PHeap) , PHeap.le aG bj ∧ St w0 bj (Res.box g 28 [n, o, p, t, u] :: H) w' ∧ f' 1 = Value.pointer (some ⟨g, 0, none⟩) ∧ f' 5 = Vi (aW)) s') ?_ ?_
 ·refine W_block (W_while (fun s' f' w' => (fun (aq : Int) => ∃ (bk : PHeap) , PHeap.le aG bk ∧ St w0 bk (Res.box g 28 [n, o, p, t, u] :: H) w' ∧ f' 1 = Value.pointer (some ⟨g, 0, none⟩) ∧ f' 5 = Vi (aq)) s') bu ?_ ?_)
  ·exact ⟨aG, (Zv _), b7, bR, rfl⟩
  intro aq aE cL dq bx l aT
  obtain ⟨cm, ac, ao, a6, a9⟩ := bx
  refine Zc (Zc (Zd (Za rfl rfl (Zm (v := Vi (aq)) rfl a9 (Za rfl rfl (Zp F28_3 rfl a6 rfl (Za rfl rfl (Zn (ao) A25 rfl rfl rfl (Za rfl rfl (Zr S25 rfl rfl (av.mono (Zt (Zt b d) ac)) (Za rfl rfl (Zq rfl rfl rfl (Zb (Ze ?_))))))))))))))
  rcases ite_some l with ⟨a1, l⟩ | ⟨a1, l⟩
  ·refine W_cond_t rfl a1 (W_skip (Ze (Zc (W_block (Zc (W_dl (n0 := 8) (qs 0 6 (.e 6 [] (.q 7 .done))) hmix (by kernel_rfl) (by kernel_rfl) (DL_q rfl rfl (Exec.load_box_agg (ds := [n, o, p, t, u]) (ao.drew) A28 rfl a6 rfl ⟨rfl, ?_⟩))))))))
   refine DL_q rfl rfl (Zp F28_3 rfl a6 rfl ⟨rfl, ?_⟩)
   refine DL_q rfl rfl (Zn (ao.drew) A25 rfl rfl rfl ⟨rfl, ?_⟩)
   refine DL_q rfl rfl (Zm (v := Vi (aq)) rfl a9 ⟨rfl, ?_⟩)
   obtain ⟨dx, bW, l⟩ := Zg l
   refine DL_q rfl rfl (Exec.index_repE S25 rfl rfl rfl (av.mono (Zt (Zt b d) ac)) bW ?_)
   intro cu cQ br c6
   refine ⟨rfl, ?_⟩
   refine DL_q rfl rfl (Zw (E := encCond) ao.drew A47 rfl rfl rfl br ?_)
   intro df bX
   obtain ⟨cW, cX, cY, rfl, cd, ce, cf⟩ := encCond_val.1 bX
   refine ⟨rfl, ?_⟩
   obtain ⟨dz, bY, l⟩ := Zg l
   refine DL_e rfl rfl (Tc rfl rfl rfl (Zi rfl (Zi rfl args_nil)) (ref18_Cond_sim bY ao.drew (a8.mono (Zt (Zt b d) ac)) (au.mono (Zt (Zt b d) ac)) (aC.mono (Zt (Zt b d) ac)) (av.mono (Zt (Zt b d) ac)) (aw.mono (Zt (Zt b d) ac)) cd ce cf).r ?_)
   rintro _ dr ⟨bl, aZ, aN, rfl⟩
   refine ⟨ag_nil, ?_⟩
   refine DL_q rfl rfl (Exec.not rfl rfl ⟨rfl, ?_⟩)
   refine DL_done (Zb (Ze ?_))
   rcases ite_some l with ⟨a2, l⟩ | ⟨a2, l⟩
   ·refine W_cond_t rfl a2 (Zc (Zd (Za rfl rfl (Zo (v := Value.bool (false)) rfl rfl (Zb (Ze (W_ret (ib_ret (at_ret (at_ret (ib_ret (at_ret (at_ret ?_)))))))))))))
    have c7 := Zu l
    subst aE
    have bH := bK _ (aT (by intro _ h; cases h))
    have c8 := Zu bH
    subst r
    refine ⟨_, ret1 rfl, ?_⟩
    exact ⟨bl, (Zt (Zt (Zt b d) ac) aZ), (aN).drop, rfl⟩
   refine W_cond_f rfl a2 ?_
   replace a2 := Zk a2
   refine W_skip (ib_normal (Ze (Zd (Za rfl rfl (Zm (v := Vi (aq)) rfl a9 (Za rfl rfl (Exec.add rfl rfl rfl (Za rfl rfl (Zo (v := Vi (IntKind.i64.wrap (aq + 1))) rfl rfl (Zb (Ze ?_)))))))))))
   have c9 := Zu l
   subst aE
   refine ⟨_, rfl, ?_⟩; exact ⟨bl, (Zt ac aZ), aN, a6, rfl⟩
  refine W_cond_f rfl a1 ?_
  replace a1 := Zk a1
  refine W_exit (at_exit (at_exit (ib_here (Ze ?_))))
  have cA := Zu l
  subst aE
  refine ⟨_, .inr (aT (by intro _ h; cases h)), ?_⟩; exact ⟨cm, ac, ao, a6, a9⟩
 rintro cM dt ⟨aW, aQ, b3⟩
 have hm := aQ.elim (bE _) (bB _)
 clear aQ
 obtain ⟨aH, ah, b8, bS, cT⟩ := b3
 refine (Ze (Zc (Zc (Zd (Za rfl rfl (Zo (v := Vi (0)) rfl rfl (Zb (Ze ?_))))))))
 obtain ⟨aK, bv, bL, bF, bC⟩ := ctl_some hm
 refine W_mid (M := fun f' w' => ∃ s', (aK = .next s' ∨ aK = .brk s') ∧ (fun (aX : Int) => ∃ (bm : PHeap) , PHeap.le aH bm ∧ St w0 bm (Res.box g 28 [n, o, p, t, u] :: H) w' ∧ f' 1 = Value.pointer (some ⟨g, 0, none⟩) ∧ f' 6 = Vi (aX)) s') ?_ ?_
 ·refine W_block (W_while (fun s' f' w' => (fun (ar : Int) => ∃ (bn : PHeap) , PHeap.le aH bn ∧ St w0 bn (Res.box g 28 [n, o, p, t, u] :: H) w' ∧ f' 1 = Value.pointer (some ⟨g, 0, none⟩) ∧ f' 6 = Vi (ar)) s') bv ?_ ?_)
  ·exact ⟨aH, (Zv _), b8, bS, rfl⟩
  intro ar aF cN du bz m aU
  obtain ⟨cn, ad, ap, a7, aA⟩ := bz
  refine Zc (Zc (Zd (Za rfl rfl (Zm (v := Vi (ar)) rfl aA (Za rfl rfl (Zp F28_4 rfl a7 rfl (Za rfl rfl (Zn (ap) A26 rfl rfl rfl (Za rfl rfl (Zr S26 rfl rfl (aw.mono (Zt (Zt (Zt b d) ah) ad)) (Za rfl rfl (Zq rfl rfl rfl (Zb (Ze ?_))))))))))))))
  rcases ite_some m with ⟨a3, m⟩ | ⟨a3, m⟩
  ·refine W_cond_t rfl a3 (W_skip (Ze (Zc (W_block (Zc (W_dl (n0 := 8) (qs 0 6 (.e 6 [] (.q 7 .done))) hmix (by kernel_rfl) (by kernel_rfl) (DL_q rfl rfl (Exec.load_box_agg (ds := [n, o, p, t, u]) (ap.drew) A28 rfl a7 rfl ⟨rfl, ?_⟩))))))))
   refine DL_q rfl rfl (Zp F28_4 rfl a7 rfl ⟨rfl, ?_⟩)
   refine DL_q rfl rfl (Zn (ap.drew) A26 rfl rfl rfl ⟨rfl, ?_⟩)
   refine DL_q rfl rfl (Zm (v := Vi (ar)) rfl aA ⟨rfl, ?_⟩)
   obtain ⟨dy, bZ, m⟩ := Zg m
   refine DL_q rfl rfl (Exec.index_repE S26 rfl rfl rfl (aw.mono (Zt (Zt (Zt b d) ah) ad)) bZ ?_)
   intro cv cR bs cB
   refine ⟨rfl, ?_⟩
   refine DL_q rfl rfl (Zw (E := encGOp) ap.drew A51 rfl rfl rfl bs ?_)
   intro dg ca
   obtain ⟨cZ, da, db, dc, dd, rfl, cg, ch, ci, cj, ck⟩ := encGOp_val.1 ca
   refine ⟨rfl, ?_⟩
   obtain ⟨d0, cb, m⟩ := Zg m
   refine DL_e rfl rfl (Tc rfl rfl rfl (Zi rfl (Zi rfl args_nil)) (ref18_operator_sim cb ap.drew (a8.mono (Zt (Zt (Zt b d) ah) ad)) (au.mono (Zt (Zt (Zt b d) ah) ad)) (aC.mono (Zt (Zt (Zt b d) ah) ad)) (av.mono (Zt (Zt (Zt b d) ah) ad)) (aw.mono (Zt (Zt (Zt b d) ah) ad)) cg ch ci cj ck).r ?_)
   rintro _ dv ⟨bo, ba, aO, rfl⟩
   refine ⟨ag_nil, ?_⟩
   refine DL_q rfl rfl (Exec.not rfl rfl ⟨rfl, ?_⟩)
   refine DL_done (Zb (Ze ?_))
   rcases ite_some m with ⟨a4, m⟩ | ⟨a4, m⟩
   ·refine W_cond_t rfl a4 (Zc (Zd (Za rfl rfl (Zo (v := Value.bool (false)) rfl rfl (Zb (Ze (W_ret (ib_ret (at_ret (at_ret (ib_ret (at_ret (at_ret ?_)))))))))))))
    have cC := Zu m
    subst aF
    have bI := bL _ (aU (by intro _ h; cases h))
    have cD := Zu bI
    subst r
    refine ⟨_, ret1 rfl, ?_⟩
    exact ⟨bo, (Zt (Zt (Zt (Zt b d) ah) ad) ba), (aO).drop, rfl⟩
   refine W_cond_f rfl a4 ?_
   replace a4 := Zk a4
   refine W_skip (ib_normal (Ze (Zd (Za rfl rfl (Zm (v := Vi (ar)) rfl aA (Za rfl rfl (Exec.add rfl rfl rfl (Za rfl rfl (Zo (v := Vi (IntKind.i64.wrap (ar + 1))) rfl rfl (Zb (Ze ?_)))))))))))
   have cE := Zu m
   subst aF
   refine ⟨_, rfl, ?_⟩; exact ⟨bo, (Zt ad ba), aO, a7, rfl⟩
  refine W_cond_f rfl a3 ?_
  replace a3 := Zk a3
  refine W_exit (at_exit (at_exit (ib_here (Ze ?_))))
  have cF := Zu m
  subst aF
  refine ⟨_, .inr (aU (by intro _ h; cases h)), ?_⟩; exact ⟨cn, ad, ap, a7, aA⟩
 rintro cO dw ⟨aX, aR, b4⟩
 have hm := aR.elim (bF _) (bC _)
 clear aR
 obtain ⟨co, bN, b9, cU, cV⟩ := b4
 refine (Ze (Zc (Zd (Za rfl rfl (Zo (v := Value.bool (true)) rfl rfl (Zb (Ze (W_ret ?_))))))))
 have cG := Zu hm
 subst r
 refine ⟨_, ret1 rfl, ?_⟩
 exact ⟨co, (Zt (Zt (Zt b d) ah) bN), (b9).drop, rfl⟩
theorem ZZ41 : (Try.prog.info? 41).map (·.zero) = some (some (.int .i64 0)) := by kernel_rfl
theorem base_Num_sim {w0 w : World} {s : PHeap} {H : List Res} {a : (Option Int)}  {r : Int} (hm : base_Num_p a = some r) (hS : St w0 s (H) w)  :
  Calls Try.prog 45 #[errV 41 (a)] w fun e w' => ∃ v, e = .returned v ∧ ((fun (f : Int) => ∃ (d : PHeap) , PHeap.le s d ∧ St w0 d (H) w' ∧ v = Vi (f)) r) := by
 unfold base_Num_p at hm
 refine calls_of_W Try.func45 rfl rfl (Zc (Zd (Za rfl rfl (Zo (v := Vi (0)) rfl rfl (Zb (Ze (Zc (Zc (Zd (Za rfl rfl (Zm (v := errV 41 (a)) rfl rfl (Za rfl rfl (Exec.err_eql_nil (T := 41) Try.underlying34 rfl rfl rfl (Zb (Ze ?_)))))))))))))))
 rcases ite_some hm with ⟨b, hm⟩ | ⟨b, hm⟩
 ·refine W_cond_t rfl b (Zc (Zd (Za rfl rfl (Zo (v := Vi (0)) rfl rfl (Zb (Ze (W_ret (at_ret ?_))))))))
  have g := Zu hm
  subst r
  refine ⟨_, ret1 rfl, ?_⟩
  exact ⟨s, (Zv _), hS, rfl⟩
 refine W_cond_f rfl b ?_
 replace b := Zk b
 refine W_skip (Ze (Zc (Zc (Zd (Za rfl rfl (Zm (v := errV 41 (a)) rfl rfl (Za rfl rfl (Exec.err_assert Try.underlying41 ZZ41 rfl rfl (Za rfl rfl (Zm (v := Value.tuple #[Vi (a.getD 0), Value.bool (a.isSome)]) rfl rfl (Za rfl rfl (Exec.extract (v := Vi (a.getD 0)) rfl rfl rfl (Za rfl rfl (Exec.extract (v := Value.bool (a.isSome)) rfl rfl rfl (Za rfl rfl (Zo (v := Vi (a.getD 0)) rfl rfl (Za rfl rfl (Zo (v := Value.bool (a.isSome)) rfl rfl (Zb (Ze (Zc (Zd (Za rfl rfl (Zm (v := Value.bool (a.isSome)) rfl rfl (Zb (Ze ?_))))))))))))))))))))))))))
 rcases ite_some hm with ⟨c, hm⟩ | ⟨c, hm⟩
 ·refine W_cond_t rfl c (Zc (Zd (Za rfl rfl (Zm (v := Vi (a.getD 0)) rfl rfl (Za rfl rfl (Zo (v := Vi (a.getD 0)) rfl rfl (Zb (Ze (W_ret (at_ret ?_))))))))))
  have h := Zu hm
  subst r
  refine ⟨_, ret1 rfl, ?_⟩
  exact ⟨s, (Zv _), hS, rfl⟩
 refine W_cond_f rfl c ?_
 replace c := Zk c
 refine W_skip (Ze (Zc (Zd (Za rfl rfl (Zo (v := Vi ((-1))) rfl rfl (Zb (Ze (W_ret ?_))))))))
 have i := Zu hm
 subst r
 refine ⟨_, ret1 rfl, ?_⟩
 exact ⟨s, (Zv _), hS, rfl⟩
theorem base_Is_sim {w0 w : World} {s : PHeap} {H : List Res} {b : (Option Int)} {c : Int}  {r : Bool} (hm : base_Is_p b c = some r) (hS : St w0 s (H) w)  :
  Calls Try.prog 14 #[errV 41 (b), Vi (c)] w fun e w' => ∃ v, e = .returned v ∧ ((fun (p : Bool) => ∃ (d : PHeap) , PHeap.le s d ∧ St w0 d (H) w' ∧ v = Value.bool (p)) r) := by
 unfold base_Is_p at hm
 refine calls_of_W Try.func14 rfl rfl (Zc (Zd (Za rfl rfl (Zo (v := Value.bool (false)) rfl rfl (Zb (Ze (Zc (W_mid (M := fun f' w' => ∃ (g : PHeap) , PHeap.le s g ∧ St w0 g (H) w' ∧ f' 4 = Value.bool ((b.isSome && decide ((base_Num_t b) = c)))) ?_ ?_))))))))
 ·refine Zd (Za rfl rfl (Zm (v := errV 41 (b)) rfl rfl (Za rfl rfl (Exec.err_neq_nil (T := 41) Try.underlying34 rfl rfl rfl (Za rfl rfl (Zm (v := Value.bool (b.isSome)) rfl rfl ?_))))))
  by_cases a : b.isSome = true
  ·refine WL_run rfl (Zf rfl (Zx a)) rfl (Zm (v := errV 41 (b)) rfl rfl (WL_run rfl (Zf rfl (Zx a)) rfl (Tc rfl rfl rfl (Zi rfl args_nil) (base_Num_sim (base_Num_tot b) hS ).r ?_)))
   rintro _ u ⟨n, k, i, rfl⟩
   refine WL_run rfl (Zf rfl (Zx a)) rfl (Zm (v := Vi (c)) rfl rfl (WL_run rfl (Zf rfl (Zx a)) rfl (Exec.eql rfl rfl rfl ?_)))
   refine WL_passes 2 (by rw [a]; rfl) ?_
   refine Zb (Ze ?_)
   exact ⟨n, k, i, (Zx (and_t a)).symm⟩
  replace a := Zk a
  refine WL_passes 6 (by rw [a]; rfl) ?_
  refine Zb (Ze ?_)
  exact ⟨s, (Zv _), hS, (Zx (and_f a)).symm⟩
 intro t x h
 obtain ⟨o, l, j, m⟩ := h
 refine (Ze (W_ret ?_))
 have q := Zu hm
 subst r
 refine ⟨_, ret1 rfl, ?_⟩
 exact ⟨o, l, j, m⟩
theorem Z64 : tyZero Try.prog 64 = some (Value.agg #[Value.slice none 0 0, Value.slice none 0 0]) := by kernel_rfl
theorem A64 : tyAgg Try.prog 64 = some (true, 2) := by kernel_rfl
theorem F64_0 : tyField Try.prog 64 0 = some 0 := by kernel_rfl
theorem F64_1 : tyField Try.prog 64 1 = some 1 := by kernel_rfl
theorem ref19_Marks_expr_o_step {fu : Nat} (ih : ∀ {w0 w : World} {s : PHeap} {H : List Res} {d : ref19_Marks} {a : GExpr} {b : Value} {c : Value} {j : Value} {r : (List Bool)} (hm : ref19_Marks_expr_o_p fu d a = some r) (hS : St w0 s (Res.arr encBool 4 b d.Atoms :: Res.arr encBool 4 c d.Fluents :: H) w) (aa : SliceRep encGExpr s j a.Kids), Calls Try.prog 95 #[Value.agg #[b, c], Value.agg #[Value.string (a.Op), Vi (a.N), j]] w fun e w' => ∃ v, e = .returned v ∧ ((fun (ab : (List Bool)) => ∃ (u : PHeap) , PHeap.le s u ∧ St w0 u (Res.arr encBool 4 b d.Atoms :: Res.arr encBool 4 c ab :: H) w' ∧ v = Value.tuple #[]) r)) {w0 w : World} {s : PHeap} {H : List Res} {d : ref19_Marks} {a : GExpr} {b : Value} {c : Value} {j : Value} {r : (List Bool)} (hm : ref19_Marks_expr_o_p (fu + 1) d a = some r) (hS : St w0 s (Res.arr encBool 4 b d.Atoms :: Res.arr encBool 4 c d.Fluents :: H) w) (aa : SliceRep encGExpr s j a.Kids) :
  Calls Try.prog 95 #[Value.agg #[b, c], Value.agg #[Value.string (a.Op), Vi (a.N), j]] w fun e w' => ∃ v, e = .returned v ∧ ((fun (ab : (List Bool)) => ∃ (u : PHeap) , PHeap.le s u ∧ St w0 u (Res.arr encBool 4 b d.Atoms :: Res.arr encBool 4 c ab :: H) w' ∧ v = Value.tuple #[]) r) := by
 rw [ref19_Marks_expr_o_p] at hm
 refine calls_of_W Try.func95 rfl rfl (Zc (Zd (Za rfl rfl (Exec.box (cs := [b, c]) hS rfl rfl rfl ?_))))
 intro k bf ax
 refine Za rfl rfl (Exec.box (cs := [Value.string (a.Op), Vi (a.N), j]) ax rfl rfl rfl ?_)
 intro l bg m
 refine Zb (Ze (Zc (Zc (Zd (Za rfl rfl (Zp F82_0 rfl rfl rfl (Za rfl rfl (Zn (m) A9 rfl rfl rfl (Za rfl rfl (Exec.str_eql rfl rfl rfl (Zb (Ze ?_))))))))))))
 obtain ⟨t, i, hm⟩ := Zg hm
 refine W_mid (M := fun f' w' => (fun (t : (List Bool)) => ∃ (an : PHeap) , PHeap.le s an ∧ St w0 an (Res.arr encBool 4 b d.Atoms :: Res.arr encBool 4 c t :: Res.box k 64 [b, c] :: Res.box l 82 [Value.string (a.Op), Vi (a.N), j] :: H) w' ∧ f' 2 = Value.pointer (some ⟨k, 0, none⟩) ∧ f' 3 = Value.pointer (some ⟨l, 0, none⟩)) t) ?_ ?_
 ·rcases ite_some i with ⟨p, i⟩ | ⟨p, i⟩
  ·refine W_cond_t rfl p (Zd (Za rfl rfl (Zp F64_1 rfl rfl rfl (Za rfl rfl (Zn ((m).f1) A60 rfl rfl rfl (Za rfl rfl (Zp F82_1 rfl rfl rfl (Za rfl rfl (Zn (m) A3 rfl rfl rfl ?_)))))))))
   obtain ⟨bm, ae, i⟩ := Zg i
   obtain ⟨aV, aL, ai⟩ := ((m).f3).arr_at ae
   refine Za rfl rfl (Exec.index_slice S60 rfl ai rfl (idx_some ae).1 (idx_some ae).2.1 ?_)
   obtain ⟨aX, aA, i⟩ := Zg i
   refine Za rfl rfl (Exec.store_arr (m).f3 ai A4 rfl rfl rfl rfl (encBool_val.2 rfl) aA ?_)
   intro bh ay
   refine Zb (Ze ?_)
   have aM := Zu i
   subst t
   exact ⟨s, (Zv _), ((((ay).f1).f2).f2).f3, rfl, rfl⟩
  refine W_cond_f rfl p ?_
  replace p := Zk p
  refine W_skip (Ze ?_)
  have aN := Zu i
  subst t
  exact ⟨s, (Zv _), (((m).f1).f3).f3, rfl, rfl⟩
 intro aS bi av
 obtain ⟨af, ac, az, a8, a9⟩ := av
 refine (Ze (Zc (Zd (Za rfl rfl (Zo (v := Vi (0)) rfl rfl (Zb (Ze ?_)))))))
 obtain ⟨ag, ar, aW, a4, a3⟩ := ctl_some hm
 refine W_mid (M := fun f' w' => ∃ s', (ag = .next s' ∨ ag = .brk s') ∧ (un2 fun (ak : Int) (al : (List Bool)) => ∃ (ao : PHeap) , PHeap.le af ao ∧ St w0 ao (Res.arr encBool 4 b d.Atoms :: Res.arr encBool 4 c al :: Res.box k 64 [b, c] :: Res.box l 82 [Value.string (a.Op), Vi (a.N), j] :: H) w' ∧ f' 2 = Value.pointer (some ⟨k, 0, none⟩) ∧ f' 3 = Value.pointer (some ⟨l, 0, none⟩) ∧ f' 4 = Vi (ak)) s') ?_ ?_
 ·refine W_block (W_while (fun s' f' w' => (un2 fun (o : Int) (am : (List Bool)) => ∃ (ap : PHeap) , PHeap.le af ap ∧ St w0 ap (Res.arr encBool 4 b d.Atoms :: Res.arr encBool 4 c am :: Res.box k 64 [b, c] :: Res.box l 82 [Value.string (a.Op), Vi (a.N), j] :: H) w' ∧ f' 2 = Value.pointer (some ⟨k, 0, none⟩) ∧ f' 3 = Value.pointer (some ⟨l, 0, none⟩) ∧ f' 4 = Vi (o)) s') ar ?_ ?_)
  ·have a0 := (az).f3
   exact ⟨af, (Zv _), (((a0).f3).f3).f3, a8, a9, rfl⟩
  intro aI ah aT bj au g a5
  obtain ⟨o, am⟩ := aI
  replace g := un2_eq g
  obtain ⟨aF, x, n, ad, y, z⟩ := au
  refine Zc (Zc (Zd (Za rfl rfl (Zm (v := Vi (o)) rfl z (Za rfl rfl (Zp F82_2 rfl y rfl (Za rfl rfl (Zn ((n).f3) A80 rfl rfl rfl (Za rfl rfl (Zr S80 rfl rfl (aa.mono (Zt ac x)) (Za rfl rfl (Zq rfl rfl rfl (Zb (Ze ?_))))))))))))))
  rcases ite_some g with ⟨q, g⟩ | ⟨q, g⟩
  ·refine W_cond_t rfl q (W_skip (Ze (Zc (W_block (W_dl (n0 := 7) (qs 0 6 (.e 6 [] .done)) hmix (by kernel_rfl) (by kernel_rfl) (DL_q rfl rfl (Exec.load_box_agg (ds := [b, c]) ((n.drew).f2) A64 rfl ad rfl ⟨rfl, ?_⟩)))))))
   refine DL_q rfl rfl (Zp F82_2 rfl y rfl ⟨rfl, ?_⟩)
   refine DL_q rfl rfl (Zn ((n.drew).f3) A80 rfl rfl rfl ⟨rfl, ?_⟩)
   refine DL_q rfl rfl (Zm (v := Vi (o)) rfl z ⟨rfl, ?_⟩)
   obtain ⟨bn, aB, g⟩ := Zg g
   refine DL_q rfl rfl (Exec.index_repE S80 rfl rfl rfl (aa.mono (Zt ac x)) aB ?_)
   intro aK aZ aq aO
   refine ⟨rfl, ?_⟩
   refine DL_q rfl rfl (Zw (E := encGExpr) n.drew A82 rfl rfl rfl aq ?_)
   intro be aC
   obtain ⟨bd, rfl, aE⟩ := encGExpr_val.1 aC
   refine ⟨rfl, ?_⟩
   obtain ⟨aY, aD, g⟩ := Zg g
   refine DL_e rfl rfl (Tc rfl rfl rfl (Zi rfl (Zi rfl args_nil)) (ih aD ((n.drew).f1).f1 aE).r ?_)
   rintro _ bk ⟨aG, a6, a1, rfl⟩
   refine ⟨ag_nil, ?_⟩
   refine DL_done (Zb (ib_normal (Ze (Zd (Za rfl rfl (Zm (v := Vi (o)) rfl z (Za rfl rfl (Exec.add rfl rfl rfl (Za rfl rfl (Zo (v := Vi (IntKind.i64.wrap (o + 1))) rfl rfl (Zb (Ze ?_))))))))))))
   have aP := Zu g
   subst ah
   refine ⟨_, rfl, ?_⟩; exact ⟨aG, (Zt x a6), ((((a1).f3).f3).f3).f3, ad, y, rfl⟩
  refine W_cond_f rfl q ?_
  replace q := Zk q
  refine W_exit (at_exit (at_exit (ib_here (Ze ?_))))
  have aQ := Zu g
  subst ah
  refine ⟨_, .inr (a5 (by intro _ h; cases h)), ?_⟩; exact ⟨aF, x, ((((n).f3).f3).f3).f3, ad, y, z⟩
 rintro aU bl ⟨aJ, aj, aw⟩
 have hm := aj.elim (a4 _) (a3 _)
 clear aj
 obtain ⟨ak, al⟩ := aJ
 replace hm := un2_eq hm
 obtain ⟨aH, a7, a2, ba, bb, bc⟩ := aw
 refine ?_
 have aR := Zu hm
 subst r
 refine ⟨_, retG0 rfl, ?_⟩
 exact ⟨aH, (Zt ac a7), ((((((a2).f2).drop).f2).drop).f1).f1, rfl⟩
theorem ref19_Marks_expr_o_sim {fu : Nat} : ∀ {w0 w : World} {s : PHeap} {H : List Res} {b : ref19_Marks} {a : GExpr} {c : Value} {d : Value} {g : Value} {r : (List Bool)} (hm : ref19_Marks_expr_o_p fu b a = some r) (hS : St w0 s (Res.arr encBool 4 c b.Atoms :: Res.arr encBool 4 d b.Fluents :: H) w) (i : SliceRep encGExpr s g a.Kids), Calls Try.prog 95 #[Value.agg #[c, d], Value.agg #[Value.string (a.Op), Vi (a.N), g]] w fun e w' => ∃ v, e = .returned v ∧ ((fun (h : (List Bool)) => ∃ (f : PHeap) , PHeap.le s f ∧ St w0 f (Res.arr encBool 4 c b.Atoms :: Res.arr encBool 4 d h :: H) w' ∧ v = Value.tuple #[]) r) := by
 induction fu with
 | zero => intros; rename_i hm _ _; rw [ref19_Marks_expr_o_p] at hm; cases hm
 | succ fu ih => exact ref19_Marks_expr_o_step ih
theorem ref19_Marks_cond_o_sim {w0 w : World} {s : PHeap} {H : List Res} {fu : Nat} {q : ref19_Marks} {af : Cond} {a : Value} {b : Value} {k : Value} {l : Value} {m : Value} {r : (List Bool) × (List Bool)} (hm : ref19_Marks_cond_o_p fu q af = some r) (hS : St w0 s (Res.arr encBool 4 a q.Atoms :: Res.arr encBool 4 b q.Fluents :: H) w) (az : SliceRep (encInt .i64) s k af.Pos) (a0 : SliceRep (encInt .i64) s l af.Neg) (aq : SliceRep encGTest s m af.Tests) :
  Calls Try.prog 68 #[Value.agg #[a, b], Value.agg #[k, l, m]] w fun e w' => ∃ v, e = .returned v ∧ ((un2 fun (b3 : (List Bool)) (b4 : (List Bool)) => ∃ (aM : PHeap) , PHeap.le s aM ∧ St w0 aM (Res.arr encBool 4 a b3 :: Res.arr encBool 4 b b4 :: H) w' ∧ v = Value.tuple #[]) r) := by
 unfold ref19_Marks_cond_o_p at hm
 refine calls_of_W Try.func68 rfl rfl (Zc (Zd (Za rfl rfl (Exec.box (cs := [a, b]) hS rfl rfl rfl ?_))))
 intro i cJ bi
 refine Za rfl rfl (Exec.box (cs := [k, l, m]) bi rfl rfl rfl ?_)
 intro j cK bj
 refine Zb (Ze (Zc (Zc (Zd (Za rfl rfl (Zo (v := Vi (0)) rfl rfl (Zb (Ze ?_))))))))
 obtain ⟨a1, aZ, cw, bw, bt⟩ := ctl_some hm
 refine W_mid (M := fun f' w' => ∃ s', (a1 = .next s' ∨ a1 = .brk s') ∧ (un2 fun (aC : Int) (aF : (List Bool)) => ∃ (aN : PHeap) , PHeap.le s aN ∧ St w0 aN (Res.arr encBool 4 a aF :: Res.arr encBool 4 b q.Fluents :: Res.box i 64 [a, b] :: Res.box j 47 [k, l, m] :: H) w' ∧ f' 2 = Value.pointer (some ⟨i, 0, none⟩) ∧ f' 3 = Value.pointer (some ⟨j, 0, none⟩) ∧ f' 4 = Vi (aC)) s') ?_ ?_
 ·refine W_block (W_while (fun s' f' w' => (un2 fun (u : Int) (aG : (List Bool)) => ∃ (aO : PHeap) , PHeap.le s aO ∧ St w0 aO (Res.arr encBool 4 a aG :: Res.arr encBool 4 b q.Fluents :: Res.box i 64 [a, b] :: Res.box j 47 [k, l, m] :: H) w' ∧ f' 2 = Value.pointer (some ⟨i, 0, none⟩) ∧ f' 3 = Value.pointer (some ⟨j, 0, none⟩) ∧ f' 4 = Vi (u)) s') aZ ?_ ?_)
  ·have bk := (bj).f1
   exact ⟨s, (Zv _), ((bk).f3).f3, rfl, rfl, rfl⟩
  intro bQ a2 cn cL bc c b0
  obtain ⟨u, aG⟩ := bQ
  replace c := un2_eq c
  obtain ⟨aP, ah, n, ar, al, am⟩ := bc
  refine Zc (Zc (Zd (Za rfl rfl (Zm (v := Vi (u)) rfl am (Za rfl rfl (Zp F47_0 rfl al rfl (Za rfl rfl (Zn ((n).f3) A24 rfl rfl rfl (Za rfl rfl (Zr S24 rfl rfl (az.mono ah) (Za rfl rfl (Zq rfl rfl rfl (Zb (Ze ?_))))))))))))))
  rcases ite_some c with ⟨z, c⟩ | ⟨z, c⟩
  ·refine W_cond_t rfl z (W_skip (Ze (Zc (W_block (W_dl (n0 := 7) (qs 0 7 .done) hmix (by kernel_rfl) (by kernel_rfl) (DL_q rfl rfl (Zp F64_0 rfl ar rfl ⟨rfl, ?_⟩)))))))
   refine DL_q rfl rfl (Zn ((n.drew).f2) A60 rfl rfl rfl ⟨rfl, ?_⟩)
   refine DL_q rfl rfl (Zp F47_0 rfl al rfl ⟨rfl, ?_⟩)
   refine DL_q rfl rfl (Zn ((n.drew).f3) A24 rfl rfl rfl ⟨rfl, ?_⟩)
   refine DL_q rfl rfl (Zm (v := Vi (u)) rfl am ⟨rfl, ?_⟩)
   obtain ⟨cV, bB, c⟩ := Zg c
   refine DL_q rfl rfl (Exec.index_repE S24 rfl rfl rfl (az.mono ah) bB ?_)
   intro bW c3 aV cc
   refine ⟨rfl, ?_⟩
   refine DL_q rfl rfl (Zw (E := (encInt .i64)) n.drew A3 rfl rfl rfl aV ?_)
   intro cF bC
   obtain rfl := encInt_val.1 bC
   refine ⟨rfl, ?_⟩
   refine DL_done ?_
   obtain ⟨cW, av, c⟩ := Zg c
   obtain ⟨cu, ca, a7⟩ := (n.drew).arr_at av
   refine Za rfl rfl (Exec.index_slice S60 rfl a7 rfl (idx_some av).1 (idx_some av).2.1 ?_)
   obtain ⟨cz, bD, c⟩ := Zg c
   refine Za rfl rfl (Exec.store_arr n.drew a7 A4 rfl rfl rfl rfl (encBool_val.2 rfl) bD ?_)
   intro cM bl
   refine Zb (ib_normal (Ze (Zd (Za rfl rfl (Zm (v := Vi (u)) rfl am (Za rfl rfl (Exec.add rfl rfl rfl (Za rfl rfl (Zo (v := Vi (IntKind.i64.wrap (u + 1))) rfl rfl (Zb (Ze ?_)))))))))))
   have cd := Zu c
   subst a2
   refine ⟨_, rfl, ?_⟩; exact ⟨aP, ah, ((((bl).f3).f3).f3).f3, ar, al, rfl⟩
  refine W_cond_f rfl z ?_
  replace z := Zk z
  refine W_exit (at_exit (at_exit (ib_here (Ze ?_))))
  have ce := Zu c
  subst a2
  refine ⟨_, .inr (b0 (by intro _ h; cases h)), ?_⟩; exact ⟨aP, ah, ((((n).f3).f3).f3).f3, ar, al, am⟩
 rintro co cN ⟨bR, a9, bf⟩
 have hm := a9.elim (bw _) (bt _)
 clear a9
 obtain ⟨aC, aF⟩ := bR
 replace hm := un2_eq hm
 obtain ⟨ax, y, bm, b7, b8, c7⟩ := bf
 refine (Ze (Zc (Zc (Zd (Za rfl rfl (Zo (v := Vi (0)) rfl rfl (Zb (Ze ?_))))))))
 obtain ⟨a3, ba, cx, bx, bu⟩ := ctl_some hm
 refine W_mid (M := fun f' w' => ∃ s', (a3 = .next s' ∨ a3 = .brk s') ∧ (un2 fun (aD : Int) (ai : (List Bool)) => ∃ (aQ : PHeap) , PHeap.le ax aQ ∧ St w0 aQ (Res.arr encBool 4 a ai :: Res.arr encBool 4 b q.Fluents :: Res.box i 64 [a, b] :: Res.box j 47 [k, l, m] :: H) w' ∧ f' 2 = Value.pointer (some ⟨i, 0, none⟩) ∧ f' 3 = Value.pointer (some ⟨j, 0, none⟩) ∧ f' 5 = Vi (aD)) s') ?_ ?_
 ·refine W_block (W_while (fun s' f' w' => (un2 fun (x : Int) (aH : (List Bool)) => ∃ (aR : PHeap) , PHeap.le ax aR ∧ St w0 aR (Res.arr encBool 4 a aH :: Res.arr encBool 4 b q.Fluents :: Res.box i 64 [a, b] :: Res.box j 47 [k, l, m] :: H) w' ∧ f' 2 = Value.pointer (some ⟨i, 0, none⟩) ∧ f' 3 = Value.pointer (some ⟨j, 0, none⟩) ∧ f' 5 = Vi (x)) s') ba ?_ ?_)
  ·have bn := (bm).f3
   exact ⟨ax, (Zv _), (((bn).f3).f3).f3, b7, b8, rfl⟩
  intro bS a4 cp cO bd d b1
  obtain ⟨x, aH⟩ := bS
  replace d := un2_eq d
  obtain ⟨aS, aj, o, au, an, ao⟩ := bd
  refine Zc (Zc (Zd (Za rfl rfl (Zm (v := Vi (x)) rfl ao (Za rfl rfl (Zp F47_1 rfl an rfl (Za rfl rfl (Zn ((o).f3) A24 rfl rfl rfl (Za rfl rfl (Zr S24 rfl rfl (a0.mono (Zt y aj)) (Za rfl rfl (Zq rfl rfl rfl (Zb (Ze ?_))))))))))))))
  rcases ite_some d with ⟨aa, d⟩ | ⟨aa, d⟩
  ·refine W_cond_t rfl aa (W_skip (Ze (Zc (W_block (W_dl (n0 := 7) (qs 0 7 .done) hmix (by kernel_rfl) (by kernel_rfl) (DL_q rfl rfl (Zp F64_0 rfl au rfl ⟨rfl, ?_⟩)))))))
   refine DL_q rfl rfl (Zn ((o.drew).f2) A60 rfl rfl rfl ⟨rfl, ?_⟩)
   refine DL_q rfl rfl (Zp F47_1 rfl an rfl ⟨rfl, ?_⟩)
   refine DL_q rfl rfl (Zn ((o.drew).f3) A24 rfl rfl rfl ⟨rfl, ?_⟩)
   refine DL_q rfl rfl (Zm (v := Vi (x)) rfl ao ⟨rfl, ?_⟩)
   obtain ⟨cX, bE, d⟩ := Zg d
   refine DL_q rfl rfl (Exec.index_repE S24 rfl rfl rfl (a0.mono (Zt y aj)) bE ?_)
   intro bX c4 aW cf
   refine ⟨rfl, ?_⟩
   refine DL_q rfl rfl (Zw (E := (encInt .i64)) o.drew A3 rfl rfl rfl aW ?_)
   intro cG bF
   obtain rfl := encInt_val.1 bF
   refine ⟨rfl, ?_⟩
   refine DL_done ?_
   obtain ⟨cY, aw, d⟩ := Zg d
   obtain ⟨cv, cb, a8⟩ := (o.drew).arr_at aw
   refine Za rfl rfl (Exec.index_slice S60 rfl a8 rfl (idx_some aw).1 (idx_some aw).2.1 ?_)
   obtain ⟨c0, bG, d⟩ := Zg d
   refine Za rfl rfl (Exec.store_arr o.drew a8 A4 rfl rfl rfl rfl (encBool_val.2 rfl) bG ?_)
   intro cP bo
   refine Zb (ib_normal (Ze (Zd (Za rfl rfl (Zm (v := Vi (x)) rfl ao (Za rfl rfl (Exec.add rfl rfl rfl (Za rfl rfl (Zo (v := Vi (IntKind.i64.wrap (x + 1))) rfl rfl (Zb (Ze ?_)))))))))))
   have cg := Zu d
   subst a4
   refine ⟨_, rfl, ?_⟩; exact ⟨aS, aj, ((((bo).f3).f3).f3).f3, au, an, rfl⟩
  refine W_cond_f rfl aa ?_
  replace aa := Zk aa
  refine W_exit (at_exit (at_exit (ib_here (Ze ?_))))
  have ch := Zu d
  subst a4
  refine ⟨_, .inr (b1 (by intro _ h; cases h)), ?_⟩; exact ⟨aS, aj, ((((o).f3).f3).f3).f3, au, an, ao⟩
 rintro cq cQ ⟨bT, aA, bg⟩
 have hm := aA.elim (bx _) (bu _)
 clear aA
 obtain ⟨aD, ai⟩ := bT
 replace hm := un2_eq hm
 obtain ⟨ay, ak, bp, b9, bA, c8⟩ := bg
 refine (Ze (Zc (Zd (Za rfl rfl (Zo (v := Vi (0)) rfl rfl (Zb (Ze ?_)))))))
 obtain ⟨a5, bb, cy, bz, bv⟩ := ctl_some hm
 refine W_mid (M := fun f' w' => ∃ s', (a5 = .next s' ∨ a5 = .brk s') ∧ (un2 fun (aE : Int) (aI : (List Bool)) => ∃ (aT : PHeap) , PHeap.le ay aT ∧ St w0 aT (Res.arr encBool 4 a ai :: Res.arr encBool 4 b aI :: Res.box i 64 [a, b] :: Res.box j 47 [k, l, m] :: H) w' ∧ f' 2 = Value.pointer (some ⟨i, 0, none⟩) ∧ f' 3 = Value.pointer (some ⟨j, 0, none⟩) ∧ f' 6 = Vi (aE)) s') ?_ ?_
 ·refine W_block (W_while (fun s' f' w' => (un2 fun (p : Int) (aJ : (List Bool)) => ∃ (aU : PHeap) , PHeap.le ay aU ∧ St w0 aU (Res.arr encBool 4 a ai :: Res.arr encBool 4 b aJ :: Res.box i 64 [a, b] :: Res.box j 47 [k, l, m] :: H) w' ∧ f' 2 = Value.pointer (some ⟨i, 0, none⟩) ∧ f' 3 = Value.pointer (some ⟨j, 0, none⟩) ∧ f' 6 = Vi (p)) s') bb ?_ ?_)
  ·have bq := (bp).f3
   exact ⟨ay, (Zv _), (((bq).f3).f3).f3, b9, bA, rfl⟩
  intro bU a6 cr cR be g b2
  obtain ⟨p, aJ⟩ := bU
  replace g := un2_eq g
  obtain ⟨bN, ac, t, ap, ad, ae⟩ := be
  refine Zc (Zc (Zd (Za rfl rfl (Zm (v := Vi (p)) rfl ae (Za rfl rfl (Zp F47_2 rfl ad rfl (Za rfl rfl (Zn ((t).f3) A45 rfl rfl rfl (Za rfl rfl (Zr S45 rfl rfl (aq.mono (Zt (Zt y ak) ac)) (Za rfl rfl (Zq rfl rfl rfl (Zb (Ze ?_))))))))))))))
  rcases ite_some g with ⟨ab, g⟩ | ⟨ab, g⟩
  ·refine W_cond_t rfl ab (W_skip (Ze (Zc (W_block (Zc (W_dl (n0 := 8) (qs 0 7 (.e 7 [] .done)) hmix (by kernel_rfl) (by kernel_rfl) (DL_q rfl rfl (Exec.load_box_agg (ds := [a, b]) ((t.drew).f2) A64 rfl ap rfl ⟨rfl, ?_⟩))))))))
   refine DL_q rfl rfl (Zp F47_2 rfl ad rfl ⟨rfl, ?_⟩)
   refine DL_q rfl rfl (Zn ((t.drew).f3) A45 rfl rfl rfl ⟨rfl, ?_⟩)
   refine DL_q rfl rfl (Zm (v := Vi (p)) rfl ae ⟨rfl, ?_⟩)
   obtain ⟨cZ, aL, g⟩ := Zg g
   refine DL_q rfl rfl (Exec.index_repE S45 rfl rfl rfl (aq.mono (Zt (Zt y ak) ac)) aL ?_)
   intro bY c5 aX ci
   refine ⟨rfl, ?_⟩
   refine DL_q rfl rfl (Zp F129_1 rfl rfl rfl ⟨rfl, ?_⟩)
   refine DL_q rfl rfl (Zw (E := encGExpr) t.drew A82 rfl rfl rfl (aX.sub (Sub.iso (Sub.snd (Sub.fst (Sub.refl _)) rfl)) rfl) ?_)
   intro cH bH
   obtain ⟨cD, rfl, bL⟩ := encGExpr_val.1 bH
   refine ⟨rfl, ?_⟩
   obtain ⟨c1, bI, g⟩ := Zg g
   refine DL_e rfl rfl (Tc rfl rfl rfl (Zi rfl (Zi rfl args_nil)) (ref19_Marks_expr_o_sim bI ((t.drew).f1).f1 bL).r ?_)
   rintro _ cS ⟨cC, aK, ag, rfl⟩
   refine ⟨ag_nil, ?_⟩
   refine DL_done (Zb (Ze (W_dl (n0 := 8) (qs 0 7 (.e 7 [] .done)) hmix (by kernel_rfl) (by kernel_rfl) (DL_q rfl rfl (Exec.load_box_agg (ds := [a, b]) ((ag.drew).f2) A64 rfl ap rfl ⟨rfl, ?_⟩)))))
   refine DL_q rfl rfl (Zp F47_2 rfl ad rfl ⟨rfl, ?_⟩)
   refine DL_q rfl rfl (Zn ((ag.drew).f3) A45 rfl rfl rfl ⟨rfl, ?_⟩)
   refine DL_q rfl rfl (Zm (v := Vi (p)) rfl ae ⟨rfl, ?_⟩)
   refine DL_q rfl rfl (Exec.index_repE S45 rfl rfl rfl (aq.mono (Zt (Zt (Zt y ak) ac) aK)) aL ?_)
   intro bZ c6 aY cj
   refine ⟨rfl, ?_⟩
   refine DL_q rfl rfl (Zp F129_2 rfl rfl rfl ⟨rfl, ?_⟩)
   refine DL_q rfl rfl (Zw (E := encGExpr) ag.drew A82 rfl rfl rfl (aY.sub (Sub.iso (Sub.snd (Sub.snd (Sub.refl _) rfl) rfl)) rfl) ?_)
   intro cI bJ
   obtain ⟨cE, rfl, bM⟩ := encGExpr_val.1 bJ
   refine ⟨rfl, ?_⟩
   obtain ⟨c2, bK, g⟩ := Zg g
   refine DL_e rfl rfl (Tc rfl rfl rfl (Zi rfl (Zi rfl args_nil)) (ref19_Marks_expr_o_sim bK ((ag.drew).f1).f1 bM).r ?_)
   rintro _ cT ⟨bO, b5, br, rfl⟩
   refine ⟨ag_nil, ?_⟩
   refine DL_done (Zb (ib_normal (Ze (Zd (Za rfl rfl (Zm (v := Vi (p)) rfl ae (Za rfl rfl (Exec.add rfl rfl rfl (Za rfl rfl (Zo (v := Vi (IntKind.i64.wrap (p + 1))) rfl rfl (Zb (Ze ?_))))))))))))
   have ck := Zu g
   subst a6
   refine ⟨_, rfl, ?_⟩; exact ⟨bO, (Zt (Zt ac aK) b5), ((((br).f3).f3).f3).f3, ap, ad, rfl⟩
  refine W_cond_f rfl ab ?_
  replace ab := Zk ab
  refine W_exit (at_exit (at_exit (ib_here (Ze ?_))))
  have cl := Zu g
  subst a6
  refine ⟨_, .inr (b2 (by intro _ h; cases h)), ?_⟩; exact ⟨bN, ac, ((((t).f3).f3).f3).f3, ap, ad, ae⟩
 rintro ct cU ⟨bV, aB, bh⟩
 have hm := aB.elim (bz _) (bv _)
 clear aB
 obtain ⟨aE, aI⟩ := bV
 replace hm := un2_eq hm
 obtain ⟨bP, b6, bs, c9, cA, cB⟩ := bh
 refine ?_
 have cm := Zu hm
 subst r
 refine ⟨_, retG0 rfl, ?_⟩
 exact ⟨bP, (Zt (Zt y ak) b6), ((((((bs).f2).drop).f2).drop).f1).f1, rfl⟩
theorem ref19_Marks_count_o_sim {w0 w : World} {s : PHeap} {H : List Res} {a : ref19_Marks} {b : Value} {c : Value} {r : Int} (hm : ref19_Marks_count_o_p a = some r) (hS : St w0 s (Res.arr encBool 4 b a.Atoms :: Res.arr encBool 4 c a.Fluents :: H) w)  :
  Calls Try.prog 69 #[Value.agg #[b, c]] w fun e w' => ∃ v, e = .returned v ∧ ((fun (bq : Int) => ∃ (a2 : PHeap) , PHeap.le s a2 ∧ St w0 a2 (Res.arr encBool 4 b a.Atoms :: Res.arr encBool 4 c a.Fluents :: H) w' ∧ v = Vi (bq)) r) := by
 unfold ref19_Marks_count_o_p at hm
 refine calls_of_W Try.func69 rfl rfl (Zc (Zd (Za rfl rfl (Exec.box (cs := [b, c]) hS rfl rfl rfl ?_))))
 intro d bI aH
 refine Za rfl rfl (Zo (v := Vi (0)) rfl rfl (Zb (Ze (Zc (Zd (Za rfl rfl (Zo (v := Vi (0)) rfl rfl (Zb (Ze (Zc (Zc (Zd (Za rfl rfl (Zo (v := Vi (0)) rfl rfl (Zb (Ze ?_))))))))))))))))
 obtain ⟨an, a9, bB, aQ, aO⟩ := ctl_some hm
 refine W_mid (M := fun f' w' => ∃ s', (an = .next s' ∨ an = .brk s') ∧ (un2 fun (a1 : Int) (ax : Int) => ∃ (a3 : PHeap) , PHeap.le s a3 ∧ St w0 a3 (Res.arr encBool 4 b a.Atoms :: Res.arr encBool 4 c a.Fluents :: Res.box d 64 [b, c] :: H) w' ∧ f' 1 = Value.pointer (some ⟨d, 0, none⟩) ∧ f' 3 = Vi (a1) ∧ f' 4 = Vi (ax)) s') ?_ ?_
 ·refine W_block (W_while (fun s' f' w' => (un2 fun (ad : Int) (l : Int) => ∃ (a4 : PHeap) , PHeap.le s a4 ∧ St w0 a4 (Res.arr encBool 4 b a.Atoms :: Res.arr encBool 4 c a.Fluents :: Res.box d 64 [b, c] :: H) w' ∧ f' 1 = Value.pointer (some ⟨d, 0, none⟩) ∧ f' 3 = Vi (ad) ∧ f' 4 = Vi (l)) s') a9 ?_ ?_)
  ·have aI := (aH).f2
   exact ⟨s, (Zv _), (aI).f2, rfl, rfl, rfl⟩
  intro bm ao b3 bJ aB g aS
  obtain ⟨ad, l⟩ := bm
  replace g := un2_eq g
  obtain ⟨ai, az, j, z, ak, aa⟩ := aB
  refine Zc (Zc (Zd (Za rfl rfl (Zm (v := Vi (l)) rfl aa (Za rfl rfl (Zp F64_0 rfl z rfl (Za rfl rfl (Zn ((j).f2) A60 rfl rfl rfl (Za rfl rfl (Exec.len_arr (j) S60 rfl rfl (Za rfl rfl (Zq rfl rfl rfl (Zb (Ze ?_))))))))))))))
  rcases ite_some g with ⟨n, g⟩ | ⟨n, g⟩
  ·refine W_cond_t rfl n (W_skip (Ze (Zc (W_block (Zc (Zd (Za rfl rfl (Zp F64_0 rfl z rfl (Za rfl rfl (Zn ((j).f2) A60 rfl rfl rfl (Za rfl rfl (Zm (v := Vi (l)) rfl aa ?_))))))))))))
   obtain ⟨bP, ag, g⟩ := Zg g
   obtain ⟨b9, br, ar⟩ := (j).arr_at ag
   refine Za rfl rfl (Exec.index_slice S60 rfl ar rfl (idx_some ag).1 (idx_some ag).2.1 (Za rfl rfl (Exec.load_arr (F := encBool) (j) ar A4 rfl rfl rfl ag (Sub.refl _) ?_)))
   intro bG bh
   obtain rfl := encBool_val.1 bh
   refine Zb (Ze ?_)
   obtain ⟨x, t, g⟩ := Zg g
   refine W_mid (M := fun f' w' => (fun (x : Int) => ∃ (a5 : PHeap) , PHeap.le ai a5 ∧ St w0 a5 (Res.arr encBool 4 b a.Atoms :: Res.arr encBool 4 c a.Fluents :: Res.box d 64 [b, c] :: H) w' ∧ f' 1 = Value.pointer (some ⟨d, 0, none⟩) ∧ f' 3 = Vi (x) ∧ f' 4 = Vi (l)) x) ?_ ?_
   ·rcases ite_some t with ⟨o, t⟩ | ⟨o, t⟩
    ·refine W_cond_t rfl o (Zd (Za rfl rfl (Zm (v := Vi (ad)) rfl ak (Za rfl rfl (Exec.add rfl rfl rfl (Za rfl rfl (Zo (v := Vi (IntKind.i64.wrap (ad + 1))) rfl rfl (Zb (Ze ?_)))))))))
     have bt := Zu t
     subst x
     exact ⟨ai, (Zv _), (((j).f2).f2).f2, z, rfl, aa⟩
    refine W_cond_f rfl o ?_
    replace o := Zk o
    refine W_skip (Ze ?_)
    have bu := Zu t
    subst x
    exact ⟨ai, (Zv _), (((j).f2).f2).f2, z, ak, aa⟩
   intro b4 bK aD
   obtain ⟨bj, aU, aJ, aY, aZ, ba⟩ := aD
   refine (ib_normal (Ze (Zd (Za rfl rfl (Zm (v := Vi (l)) rfl ba (Za rfl rfl (Exec.add rfl rfl rfl (Za rfl rfl (Zo (v := Vi (IntKind.i64.wrap (l + 1))) rfl rfl (Zb (Ze ?_)))))))))))
   have bv := Zu g
   subst ao
   refine ⟨_, rfl, ?_⟩; exact ⟨bj, (Zt az aU), (((aJ).f2).f2).f2, aY, aZ, rfl⟩
  refine W_cond_f rfl n ?_
  replace n := Zk n
  refine W_exit (at_exit (at_exit (ib_here (Ze ?_))))
  have bw := Zu g
  subst ao
  refine ⟨_, .inr (aS (by intro _ h; cases h)), ?_⟩; exact ⟨ai, az, (((j).f2).f2).f2, z, ak, aa⟩
 rintro b5 bL ⟨bn, av, aE⟩
 have hm := av.elim (aQ _) (aO _)
 clear av
 obtain ⟨a1, ax⟩ := bn
 replace hm := un2_eq hm
 obtain ⟨am, aV, aK, bb, bc, bD⟩ := aE
 refine (Ze (Zc (Zc (Zd (Za rfl rfl (Zo (v := Vi (0)) rfl rfl (Zb (Ze ?_))))))))
 obtain ⟨ap, aA, bC, aR, aP⟩ := ctl_some hm
 refine W_mid (M := fun f' w' => ∃ s', (ap = .next s' ∨ ap = .brk s') ∧ (un2 fun (ae : Int) (ay : Int) => ∃ (a6 : PHeap) , PHeap.le am a6 ∧ St w0 a6 (Res.arr encBool 4 b a.Atoms :: Res.arr encBool 4 c a.Fluents :: Res.box d 64 [b, c] :: H) w' ∧ f' 1 = Value.pointer (some ⟨d, 0, none⟩) ∧ f' 3 = Vi (ae) ∧ f' 5 = Vi (ay)) s') ?_ ?_
 ·refine W_block (W_while (fun s' f' w' => (un2 fun (af : Int) (m : Int) => ∃ (a7 : PHeap) , PHeap.le am a7 ∧ St w0 a7 (Res.arr encBool 4 b a.Atoms :: Res.arr encBool 4 c a.Fluents :: Res.box d 64 [b, c] :: H) w' ∧ f' 1 = Value.pointer (some ⟨d, 0, none⟩) ∧ f' 3 = Vi (af) ∧ f' 5 = Vi (m)) s') aA ?_ ?_)
  ·have aL := (aK).f2
   exact ⟨am, (Zv _), ((aL).f2).f2, bb, bc, rfl⟩
  intro bo aq b6 bM aC i aT
  obtain ⟨af, m⟩ := bo
  replace i := un2_eq i
  obtain ⟨aj, a0, k, ab, al, ac⟩ := aC
  refine Zc (Zc (Zd (Za rfl rfl (Zm (v := Vi (m)) rfl ac (Za rfl rfl (Zp F64_1 rfl ab rfl (Za rfl rfl (Zn ((k).f2) A60 rfl rfl rfl (Za rfl rfl (Exec.len_arr ((k).f1) S60 rfl rfl (Za rfl rfl (Zq rfl rfl rfl (Zb (Ze ?_))))))))))))))
  rcases ite_some i with ⟨p, i⟩ | ⟨p, i⟩
  ·refine W_cond_t rfl p (W_skip (Ze (Zc (W_block (Zc (Zd (Za rfl rfl (Zp F64_1 rfl ab rfl (Za rfl rfl (Zn ((k).f2) A60 rfl rfl rfl (Za rfl rfl (Zm (v := Vi (m)) rfl ac ?_))))))))))))
   obtain ⟨bQ, ah, i⟩ := Zg i
   obtain ⟨bA, bs, au⟩ := ((k).f1).arr_at ah
   refine Za rfl rfl (Exec.index_slice S60 rfl au rfl (idx_some ah).1 (idx_some ah).2.1 (Za rfl rfl (Exec.load_arr (F := encBool) ((k).f1) au A4 rfl rfl rfl ah (Sub.refl _) ?_)))
   intro bH bi
   obtain rfl := encBool_val.1 bi
   refine Zb (Ze ?_)
   obtain ⟨y, u, i⟩ := Zg i
   refine W_mid (M := fun f' w' => (fun (y : Int) => ∃ (a8 : PHeap) , PHeap.le aj a8 ∧ St w0 a8 (Res.arr encBool 4 b a.Atoms :: Res.arr encBool 4 c a.Fluents :: Res.box d 64 [b, c] :: H) w' ∧ f' 1 = Value.pointer (some ⟨d, 0, none⟩) ∧ f' 3 = Vi (y) ∧ f' 5 = Vi (m)) y) ?_ ?_
   ·rcases ite_some u with ⟨q, u⟩ | ⟨q, u⟩
    ·refine W_cond_t rfl q (Zd (Za rfl rfl (Zm (v := Vi (af)) rfl al (Za rfl rfl (Exec.add rfl rfl rfl (Za rfl rfl (Zo (v := Vi (IntKind.i64.wrap (af + 1))) rfl rfl (Zb (Ze ?_)))))))))
     have bx := Zu u
     subst y
     exact ⟨aj, (Zv _), (((k).f2).f2).f2, ab, rfl, ac⟩
    refine W_cond_f rfl q ?_
    replace q := Zk q
    refine W_skip (Ze ?_)
    have bz := Zu u
    subst y
    exact ⟨aj, (Zv _), (((k).f2).f2).f2, ab, al, ac⟩
   intro b7 bN aF
   obtain ⟨bk, aW, aM, bd, be, bf⟩ := aF
   refine (ib_normal (Ze (Zd (Za rfl rfl (Zm (v := Vi (m)) rfl bf (Za rfl rfl (Exec.add rfl rfl rfl (Za rfl rfl (Zo (v := Vi (IntKind.i64.wrap (m + 1))) rfl rfl (Zb (Ze ?_)))))))))))
   have b0 := Zu i
   subst aq
   refine ⟨_, rfl, ?_⟩; exact ⟨bk, (Zt a0 aW), (((aM).f2).f2).f2, bd, be, rfl⟩
  refine W_cond_f rfl p ?_
  replace p := Zk p
  refine W_exit (at_exit (at_exit (ib_here (Ze ?_))))
  have b1 := Zu i
  subst aq
  refine ⟨_, .inr (aT (by intro _ h; cases h)), ?_⟩; exact ⟨aj, a0, (((k).f2).f2).f2, ab, al, ac⟩
 rintro b8 bO ⟨bp, aw, aG⟩
 have hm := aw.elim (aR _) (aP _)
 clear aw
 obtain ⟨ae, ay⟩ := bp
 replace hm := un2_eq hm
 obtain ⟨bl, aX, aN, bE, bg, bF⟩ := aG
 refine (Ze (Zc (Zd (Za rfl rfl (Zm (v := Vi (ae)) rfl bg (Za rfl rfl (Zo (v := Vi (ae)) rfl rfl (Zb (Ze (W_ret ?_))))))))))
 have b2 := Zu hm
 subst r
 refine ⟨_, ret1 rfl, ?_⟩
 exact ⟨bl, (Zt aV aX), ((((aN).f2).drop).f1).f1, rfl⟩
theorem ref19_Marks_Touches_o_sim {w0 w : World} {s : PHeap} {H : List Res} {d : ref19_Marks} {a : GOp} {g : Value} {i : Value} {n : Value} {o : Value} {p : Value} {q : Value} {t : Value} {r : Bool} (hm : ref19_Marks_Touches_o_p d a = some r) (hS : St w0 s (Res.arr encBool 4 g d.Atoms :: Res.arr encBool 4 i d.Fluents :: H) w) (bk : SliceRep (encInt .i64) s n a.Pre.Pos) (bl : SliceRep (encInt .i64) s o a.Pre.Neg) (bm : SliceRep encGTest s p a.Pre.Tests) (aw : SliceRep encGChange s q a.Changes) (ax : SliceRep encGAssign s t a.Assigns) :
  Calls Try.prog 42 #[Value.agg #[g, i], Value.agg #[Value.string (a.Name), Vi (a.Cost), n, o, p, q, t]] w fun e w' => ∃ v, e = .returned v ∧ ((fun (bj : Bool) => ∃ (a8 : PHeap) , PHeap.le s a8 ∧ St w0 a8 (Res.arr encBool 4 g d.Atoms :: Res.arr encBool 4 i d.Fluents :: H) w' ∧ v = Value.bool (bj)) r) := by
 unfold ref19_Marks_Touches_o_p at hm
 refine calls_of_W Try.func42 rfl rfl (Zc (Zd (Za rfl rfl (Exec.box (cs := [g, i]) hS rfl rfl rfl ?_))))
 intro j bJ aL
 refine Za rfl rfl (Exec.box (cs := [Value.string (a.Name), Vi (a.Cost), n, o, p, q, t]) aL rfl rfl rfl ?_)
 intro k bK aM
 refine Za rfl rfl (Zo (v := Value.bool (false)) rfl rfl (Zb (Ze (Zc (Zc (Zd (Za rfl rfl (Zo (v := Vi (0)) rfl rfl (Zb (Ze ?_))))))))))
 obtain ⟨ay, aF, aX, aT, aR⟩ := ctl_some hm
 refine W_mid (M := fun f' w' => ∃ s', (ay = .next s' ∨ ay = .brk s') ∧ (fun (a6 : Int) => ∃ (a9 : PHeap) , PHeap.le s a9 ∧ St w0 a9 (Res.arr encBool 4 g d.Atoms :: Res.arr encBool 4 i d.Fluents :: Res.box j 64 [g, i] :: Res.box k 51 [Value.string (a.Name), Vi (a.Cost), n, o, p, q, t] :: H) w' ∧ f' 2 = Value.pointer (some ⟨j, 0, none⟩) ∧ f' 3 = Value.pointer (some ⟨k, 0, none⟩) ∧ f' 5 = Vi (a6)) s') ?_ ?_
 ·refine W_block (W_while (fun s' f' w' => (fun (u : Int) => ∃ (aA : PHeap) , PHeap.le s aA ∧ St w0 aA (Res.arr encBool 4 g d.Atoms :: Res.arr encBool 4 i d.Fluents :: Res.box j 64 [g, i] :: Res.box k 51 [Value.string (a.Name), Vi (a.Cost), n, o, p, q, t] :: H) w' ∧ f' 2 = Value.pointer (some ⟨j, 0, none⟩) ∧ f' 3 = Value.pointer (some ⟨k, 0, none⟩) ∧ f' 5 = Vi (u)) s') aF ?_ ?_)
  ·have aN := (aM).f1
   exact ⟨s, (Zv _), ((aN).f3).f3, rfl, rfl, rfl⟩
  intro u al b3 bL aH b a4
  obtain ⟨ar, ac, an, ap, af, ag⟩ := aH
  refine Zc (Zc (Zd (Za rfl rfl (Zm (v := Vi (u)) rfl ag (Za rfl rfl (Zp F51_3 rfl af rfl (Za rfl rfl (Zn ((an).f3) A48 rfl rfl rfl (Za rfl rfl (Zr S48 rfl rfl (aw.mono ac) (Za rfl rfl (Zq rfl rfl rfl (Zb (Ze ?_))))))))))))))
  rcases ite_some b with ⟨y, b⟩ | ⟨y, b⟩
  ·refine W_cond_t rfl y (W_skip (Ze (Zc (W_block (Zc (W_dl (n0 := 10) (qs 0 10 .done) hmix (by kernel_rfl) (by kernel_rfl) ?_))))))
   have l := an.drew
   refine DL_q rfl rfl (Zp F64_0 rfl ap rfl ⟨rfl, ?_⟩)
   refine DL_q rfl rfl (Zn ((l).f2) A60 rfl rfl rfl ⟨rfl, ?_⟩)
   refine DL_q rfl rfl (Zp F51_3 rfl af rfl ⟨rfl, ?_⟩)
   refine DL_q rfl rfl (Zn ((l).f3) A48 rfl rfl rfl ⟨rfl, ?_⟩)
   refine DL_q rfl rfl (Zm (v := Vi (u)) rfl ag ⟨rfl, ?_⟩)
   obtain ⟨bP, bc, b⟩ := Zg b
   refine DL_q rfl rfl (Exec.index_repE S48 rfl rfl rfl (aw.mono ac) bc ?_)
   intro bn b9 aD br
   refine ⟨rfl, ?_⟩
   refine DL_q rfl rfl (Zp F58_1 rfl rfl rfl ⟨rfl, ?_⟩)
   refine DL_q rfl rfl (Zw (E := (encInt .i64)) l A3 rfl rfl rfl (aD.sub (Sub.iso (Sub.snd (Sub.fst (Sub.refl _)) rfl)) rfl) ?_)
   intro bF bd
   obtain rfl := encInt_val.1 bd
   refine ⟨rfl, ?_⟩
   obtain ⟨bQ, aj, b⟩ := Zg b
   obtain ⟨b7, bp, a0⟩ := (l).arr_at aj
   refine DL_q rfl rfl (Exec.index_slice S60 rfl a0 rfl (idx_some aj).1 (idx_some aj).2.1 ⟨rfl, ?_⟩)
   refine DL_q rfl rfl (Exec.load_arr (F := encBool) (l) a0 A4 rfl rfl rfl aj (Sub.refl _) ?_)
   intro bG be
   obtain rfl := encBool_val.1 be
   refine ⟨rfl, ?_⟩
   refine DL_done (Zb (Ze ?_))
   rcases ite_some b with ⟨z, b⟩ | ⟨z, b⟩
   ·refine W_cond_t rfl z (Zc (Zd (Za rfl rfl (Zo (v := Value.bool (true)) rfl rfl (Zb (Ze (W_ret (ib_ret (at_ret (at_ret (ib_ret (at_ret (at_ret ?_)))))))))))))
    have bs := Zu b
    subst al
    have aV := aX _ (a4 (by intro _ h; cases h))
    have bt := Zu aV
    subst r
    refine ⟨_, ret1 rfl, ?_⟩
    exact ⟨ar, ac, ((((((l).f2).drop).f2).drop).f1).f1, rfl⟩
   refine W_cond_f rfl z ?_
   replace z := Zk z
   refine W_skip (ib_normal (Ze (Zd (Za rfl rfl (Zm (v := Vi (u)) rfl ag (Za rfl rfl (Exec.add rfl rfl rfl (Za rfl rfl (Zo (v := Vi (IntKind.i64.wrap (u + 1))) rfl rfl (Zb (Ze ?_)))))))))))
   have bu := Zu b
   subst al
   refine ⟨_, rfl, ?_⟩; exact ⟨ar, ac, ((((l).f3).f3).f3).f3, ap, af, rfl⟩
  refine W_cond_f rfl y ?_
  replace y := Zk y
  refine W_exit (at_exit (at_exit (ib_here (Ze ?_))))
  have bv := Zu b
  subst al
  refine ⟨_, .inr (a4 (by intro _ h; cases h)), ?_⟩; exact ⟨ar, ac, ((((an).f3).f3).f3).f3, ap, af, ag⟩
 rintro b4 bM ⟨a6, a2, aJ⟩
 have hm := a2.elim (aT _) (aR _)
 clear a2
 obtain ⟨au, ae, aO, ba, bb, bB⟩ := aJ
 refine (Ze (Zc (Zc (Zd (Za rfl rfl (Zo (v := Vi (0)) rfl rfl (Zb (Ze ?_))))))))
 obtain ⟨az, aG, aY, aU, aS⟩ := ctl_some hm
 refine W_mid (M := fun f' w' => ∃ s', (az = .next s' ∨ az = .brk s') ∧ (fun (a7 : Int) => ∃ (aB : PHeap) , PHeap.le au aB ∧ St w0 aB (Res.arr encBool 4 g d.Atoms :: Res.arr encBool 4 i d.Fluents :: Res.box j 64 [g, i] :: Res.box k 51 [Value.string (a.Name), Vi (a.Cost), n, o, p, q, t] :: H) w' ∧ f' 2 = Value.pointer (some ⟨j, 0, none⟩) ∧ f' 3 = Value.pointer (some ⟨k, 0, none⟩) ∧ f' 6 = Vi (a7)) s') ?_ ?_
 ·refine W_block (W_while (fun s' f' w' => (fun (x : Int) => ∃ (aC : PHeap) , PHeap.le au aC ∧ St w0 aC (Res.arr encBool 4 g d.Atoms :: Res.arr encBool 4 i d.Fluents :: Res.box j 64 [g, i] :: Res.box k 51 [Value.string (a.Name), Vi (a.Cost), n, o, p, q, t] :: H) w' ∧ f' 2 = Value.pointer (some ⟨j, 0, none⟩) ∧ f' 3 = Value.pointer (some ⟨k, 0, none⟩) ∧ f' 6 = Vi (x)) s') aG ?_ ?_)
  ·have aP := (aO).f3
   exact ⟨au, (Zv _), (((aP).f3).f3).f3, ba, bb, rfl⟩
  intro x am b5 bN aI c a5
  obtain ⟨av, ad, ao, aq, ah, ai⟩ := aI
  refine Zc (Zc (Zd (Za rfl rfl (Zm (v := Vi (x)) rfl ai (Za rfl rfl (Zp F51_4 rfl ah rfl (Za rfl rfl (Zn ((ao).f3) A49 rfl rfl rfl (Za rfl rfl (Zr S49 rfl rfl (ax.mono (Zt ae ad)) (Za rfl rfl (Zq rfl rfl rfl (Zb (Ze ?_))))))))))))))
  rcases ite_some c with ⟨aa, c⟩ | ⟨aa, c⟩
  ·refine W_cond_t rfl aa (W_skip (Ze (Zc (W_block (Zc (W_dl (n0 := 10) (qs 0 10 .done) hmix (by kernel_rfl) (by kernel_rfl) ?_))))))
   have m := ao.drew
   refine DL_q rfl rfl (Zp F64_1 rfl aq rfl ⟨rfl, ?_⟩)
   refine DL_q rfl rfl (Zn ((m).f2) A60 rfl rfl rfl ⟨rfl, ?_⟩)
   refine DL_q rfl rfl (Zp F51_4 rfl ah rfl ⟨rfl, ?_⟩)
   refine DL_q rfl rfl (Zn ((m).f3) A49 rfl rfl rfl ⟨rfl, ?_⟩)
   refine DL_q rfl rfl (Zm (v := Vi (x)) rfl ai ⟨rfl, ?_⟩)
   obtain ⟨bR, bf, c⟩ := Zg c
   refine DL_q rfl rfl (Exec.index_repE S49 rfl rfl rfl (ax.mono (Zt ae ad)) bf ?_)
   intro bo bA aE bw
   refine ⟨rfl, ?_⟩
   refine DL_q rfl rfl (Zp F84_0 rfl rfl rfl ⟨rfl, ?_⟩)
   refine DL_q rfl rfl (Zw (E := (encInt .i64)) m A3 rfl rfl rfl (aE.sub (Sub.iso (Sub.fst (Sub.refl _))) rfl) ?_)
   intro bH bg
   obtain rfl := encInt_val.1 bg
   refine ⟨rfl, ?_⟩
   obtain ⟨bS, ak, c⟩ := Zg c
   obtain ⟨b8, bq, a1⟩ := ((m).f1).arr_at ak
   refine DL_q rfl rfl (Exec.index_slice S60 rfl a1 rfl (idx_some ak).1 (idx_some ak).2.1 ⟨rfl, ?_⟩)
   refine DL_q rfl rfl (Exec.load_arr (F := encBool) ((m).f1) a1 A4 rfl rfl rfl ak (Sub.refl _) ?_)
   intro bI bh
   obtain rfl := encBool_val.1 bh
   refine ⟨rfl, ?_⟩
   refine DL_done (Zb (Ze ?_))
   rcases ite_some c with ⟨ab, c⟩ | ⟨ab, c⟩
   ·refine W_cond_t rfl ab (Zc (Zd (Za rfl rfl (Zo (v := Value.bool (true)) rfl rfl (Zb (Ze (W_ret (ib_ret (at_ret (at_ret (ib_ret (at_ret (at_ret ?_)))))))))))))
    have bx := Zu c
    subst am
    have aW := aY _ (a5 (by intro _ h; cases h))
    have bz := Zu aW
    subst r
    refine ⟨_, ret1 rfl, ?_⟩
    exact ⟨av, (Zt ae ad), ((((((m).f2).drop).f2).drop).f1).f1, rfl⟩
   refine W_cond_f rfl ab ?_
   replace ab := Zk ab
   refine W_skip (ib_normal (Ze (Zd (Za rfl rfl (Zm (v := Vi (x)) rfl ai (Za rfl rfl (Exec.add rfl rfl rfl (Za rfl rfl (Zo (v := Vi (IntKind.i64.wrap (x + 1))) rfl rfl (Zb (Ze ?_)))))))))))
   have b0 := Zu c
   subst am
   refine ⟨_, rfl, ?_⟩; exact ⟨av, ad, ((((m).f3).f3).f3).f3, aq, ah, rfl⟩
  refine W_cond_f rfl aa ?_
  replace aa := Zk aa
  refine W_exit (at_exit (at_exit (ib_here (Ze ?_))))
  have b1 := Zu c
  subst am
  refine ⟨_, .inr (a5 (by intro _ h; cases h)), ?_⟩; exact ⟨av, ad, ((((ao).f3).f3).f3).f3, aq, ah, ai⟩
 rintro b6 bO ⟨a7, a3, aK⟩
 have hm := a3.elim (aU _) (aS _)
 clear a3
 obtain ⟨bi, aZ, aQ, bC, bD, bE⟩ := aK
 refine (Ze (Zc (Zd (Za rfl rfl (Zo (v := Value.bool (false)) rfl rfl (Zb (Ze (W_ret ?_))))))))
 have b2 := Zu hm
 subst r
 refine ⟨_, ret1 rfl, ?_⟩
 exact ⟨bi, (Zt ae aZ), ((((((aQ).f2).drop).f2).drop).f1).f1, rfl⟩
theorem ref19_Marks_operator_o_sim {w0 w : World} {s : PHeap} {H : List Res} {fu : Nat} {av : ref19_Marks} {a : GOp} {b : Value} {c : Value} {m : Value} {n : Value} {o : Value} {q : Value} {t : Value} {r : (List Bool) × (List Bool)} (hm : ref19_Marks_operator_o_p fu av a = some r) (hS : St w0 s (Res.arr encBool 4 b av.Atoms :: Res.arr encBool 4 c av.Fluents :: H) w) (aP : SliceRep (encInt .i64) s m a.Pre.Pos) (aQ : SliceRep (encInt .i64) s n a.Pre.Neg) (aR : SliceRep encGTest s o a.Pre.Tests) (ap : SliceRep encGChange s q a.Changes) (aq : SliceRep encGAssign s t a.Assigns) :
  Calls Try.prog 70 #[Value.agg #[b, c], Value.agg #[Value.string (a.Name), Vi (a.Cost), m, n, o, q, t]] w fun e w' => ∃ v, e = .returned v ∧ ((un2 fun (bs : (List Bool)) (bt : (List Bool)) => ∃ (aJ : PHeap) , PHeap.le s aJ ∧ St w0 aJ (Res.arr encBool 4 b bs :: Res.arr encBool 4 c bt :: H) w' ∧ v = Value.tuple #[]) r) := by
 unfold ref19_Marks_operator_o_p at hm
 refine calls_of_W Try.func70 rfl rfl (Zc (Zd (Za rfl rfl (Exec.box (cs := [b, c]) hS rfl rfl rfl ?_))))
 intro i cG bd
 refine Za rfl rfl (Exec.box (cs := [Value.string (a.Name), Vi (a.Cost), m, n, o, q, t]) bd rfl rfl rfl ?_)
 intro j cH ar
 refine Zb (Ze (Zc (Zd (Za rfl rfl (Exec.load_box_agg (ds := [b, c]) ((ar).f1) A64 rfl rfl rfl (Za rfl rfl (Zp F51_2 rfl rfl rfl (Za rfl rfl (Exec.load_box_agg (ds := [m, n, o]) (ar) A47 rfl rfl rfl ?_)))))))))
 obtain ⟨bM, b4, hm⟩ := Zg hm
 obtain ⟨ct, cu⟩ := bM
 replace hm := un2_eq hm
 refine Za rfl rfl (Tc rfl rfl rfl (Zi rfl (Zi rfl args_nil)) (ref19_Marks_cond_o_sim b4 ((ar).f3).f3 aP aQ aR).r ?_)
 rintro _ cI ⟨ax, y, be, rfl⟩
 refine Zb (Ze (Zc (Zc (Zd (Za rfl rfl (Zo (v := Vi (0)) rfl rfl (Zb (Ze ?_))))))))
 obtain ⟨a0, aW, cq, bo, bm⟩ := ctl_some hm
 refine W_mid (M := fun f' w' => ∃ s', (a0 = .next s' ∨ a0 = .brk s') ∧ (un3 fun (a8 : Int) (ak : (List Bool)) (aA : (List Bool)) => ∃ (aK : PHeap) , PHeap.le ax aK ∧ St w0 aK (Res.arr encBool 4 b ak :: Res.arr encBool 4 c aA :: Res.box i 64 [b, c] :: Res.box j 51 [Value.string (a.Name), Vi (a.Cost), m, n, o, q, t] :: H) w' ∧ f' 2 = Value.pointer (some ⟨i, 0, none⟩) ∧ f' 3 = Value.pointer (some ⟨j, 0, none⟩) ∧ f' 4 = Vi (a8)) s') ?_ ?_
 ·refine W_block (W_while (fun s' f' w' => (un3 fun (p : Int) (aB : (List Bool)) (aC : (List Bool)) => ∃ (aL : PHeap) , PHeap.le ax aL ∧ St w0 aL (Res.arr encBool 4 b aB :: Res.arr encBool 4 c aC :: Res.box i 64 [b, c] :: Res.box j 51 [Value.string (a.Name), Vi (a.Cost), m, n, o, q, t] :: H) w' ∧ f' 2 = Value.pointer (some ⟨i, 0, none⟩) ∧ f' 3 = Value.pointer (some ⟨j, 0, none⟩) ∧ f' 4 = Vi (p)) s') aW ?_ ?_)
  ·have bf := (be).f2
   exact ⟨ax, (Zv _), (((bf).f3).f3).f3, rfl, rfl, rfl⟩
  intro bN a1 cj cJ aY d bq
  obtain ⟨p, aB, aC⟩ := bN
  replace d := un3_eq d
  obtain ⟨ay, ae, au, ag, z, aa⟩ := aY
  refine Zc (Zc (Zd (Za rfl rfl (Zm (v := Vi (p)) rfl aa (Za rfl rfl (Zp F51_3 rfl z rfl (Za rfl rfl (Zn ((au).f3) A48 rfl rfl rfl (Za rfl rfl (Zr S48 rfl rfl (ap.mono (Zt y ae)) (Za rfl rfl (Zq rfl rfl rfl (Zb (Ze ?_))))))))))))))
  rcases ite_some d with ⟨ab, d⟩ | ⟨ab, d⟩
  ·refine W_cond_t rfl ab (W_skip (Ze (Zc (W_block (Zc (W_dl (n0 := 10) (qs 0 10 .done) hmix (by kernel_rfl) (by kernel_rfl) ?_))))))
   have k := au.drew
   refine DL_q rfl rfl (Zp F64_0 rfl ag rfl ⟨rfl, ?_⟩)
   refine DL_q rfl rfl (Zn ((k).f2) A60 rfl rfl rfl ⟨rfl, ?_⟩)
   refine DL_q rfl rfl (Zp F51_3 rfl z rfl ⟨rfl, ?_⟩)
   refine DL_q rfl rfl (Zn ((k).f3) A48 rfl rfl rfl ⟨rfl, ?_⟩)
   refine DL_q rfl rfl (Zm (v := Vi (p)) rfl aa ⟨rfl, ?_⟩)
   obtain ⟨cR, aH, d⟩ := Zg d
   refine DL_q rfl rfl (Exec.index_repE S48 rfl rfl rfl (ap.mono (Zt y ae)) aH ?_)
   intro bS cz aS bY
   refine ⟨rfl, ?_⟩
   refine DL_q rfl rfl (Zp F58_1 rfl rfl rfl ⟨rfl, ?_⟩)
   refine DL_q rfl rfl (Zw (E := (encInt .i64)) k A3 rfl rfl rfl (aS.sub (Sub.iso (Sub.snd (Sub.fst (Sub.refl _)) rfl)) rfl) ?_)
   intro cB b5
   obtain rfl := encInt_val.1 b5
   refine ⟨rfl, ?_⟩
   obtain ⟨cS, an, d⟩ := Zg d
   obtain ⟨co, bW, a4⟩ := (k).arr_at an
   refine DL_q rfl rfl (Exec.index_slice S60 rfl a4 rfl (idx_some an).1 (idx_some an).2.1 ⟨rfl, ?_⟩)
   refine DL_q rfl rfl (Exec.load_arr (F := encBool) (k) a4 A4 rfl rfl rfl an (Sub.refl _) ?_)
   intro cC b6
   obtain rfl := encBool_val.1 b6
   refine ⟨rfl, ?_⟩
   refine DL_done (Zb (Ze ?_))
   obtain ⟨ao, l, d⟩ := Zg d
   refine W_mid (M := fun f' w' => (un2 fun (aD : (List Bool)) (aE : (List Bool)) => ∃ (aM : PHeap) , PHeap.le ay aM ∧ St w0 aM (Res.arr encBool 4 b aD :: Res.arr encBool 4 c aE :: Res.box i 64 [b, c] :: Res.box j 51 [Value.string (a.Name), Vi (a.Cost), m, n, o, q, t] :: H) w' ∧ f' 2 = Value.pointer (some ⟨i, 0, none⟩) ∧ f' 3 = Value.pointer (some ⟨j, 0, none⟩) ∧ f' 4 = Vi (p)) ao) ?_ ?_
   ·rcases ite_some l with ⟨ac, l⟩ | ⟨ac, l⟩
    ·refine W_cond_t rfl ac (W_dl (n0 := 8) (qs 0 7 (.e 7 [] .done)) hmix (by kernel_rfl) (by kernel_rfl) (DL_q rfl rfl (Exec.load_box_agg (ds := [b, c]) ((k.drew).f2) A64 rfl ag rfl ⟨rfl, ?_⟩)))
     refine DL_q rfl rfl (Zp F51_3 rfl z rfl ⟨rfl, ?_⟩)
     refine DL_q rfl rfl (Zn ((k.drew).f3) A48 rfl rfl rfl ⟨rfl, ?_⟩)
     refine DL_q rfl rfl (Zm (v := Vi (p)) rfl aa ⟨rfl, ?_⟩)
     refine DL_q rfl rfl (Exec.index_repE S48 rfl rfl rfl (ap.mono (Zt y ae)) aH ?_)
     intro bT c0 aT bZ
     refine ⟨rfl, ?_⟩
     refine DL_q rfl rfl (Zp F58_0 rfl rfl rfl ⟨rfl, ?_⟩)
     refine DL_q rfl rfl (Zw (E := encCond) k.drew A47 rfl rfl rfl (aT.sub (Sub.iso (Sub.fst (Sub.refl _))) rfl) ?_)
     intro cD b7
     obtain ⟨c7, c8, c9, rfl, bD, bE, bF⟩ := encCond_val.1 b7
     refine ⟨rfl, ?_⟩
     obtain ⟨bO, b8, l⟩ := Zg l
     obtain ⟨cv, cw⟩ := bO
     replace l := un2_eq l
     refine DL_e rfl rfl (Tc rfl rfl rfl (Zi rfl (Zi rfl args_nil)) (ref19_Marks_cond_o_sim b8 ((k.drew).f1).f1 bD bE bF).r ?_)
     rintro _ cK ⟨bH, bu, bg, rfl⟩
     refine ⟨ag_nil, ?_⟩
     refine DL_done (Zb (Ze ?_))
     have ca := Zu l
     subst ao
     exact ⟨bH, bu, ((((bg).f3).f3).f3).f3, ag, z, aa⟩
    refine W_cond_f rfl ac ?_
    replace ac := Zk ac
    refine W_skip (Ze ?_)
    have cb := Zu l
    subst ao
    exact ⟨ay, (Zv _), ((((k).f3).f3).f3).f3, ag, z, aa⟩
   intro ck cL ba
   obtain ⟨aD, aE⟩ := ao
   replace d := un2_eq d
   obtain ⟨bI, bv, bh, bz, b0, b1⟩ := ba
   refine (ib_normal (Ze (Zd (Za rfl rfl (Zm (v := Vi (p)) rfl b1 (Za rfl rfl (Exec.add rfl rfl rfl (Za rfl rfl (Zo (v := Vi (IntKind.i64.wrap (p + 1))) rfl rfl (Zb (Ze ?_)))))))))))
   have cc := Zu d
   subst a1
   refine ⟨_, rfl, ?_⟩; exact ⟨bI, (Zt ae bv), ((((bh).f3).f3).f3).f3, bz, b0, rfl⟩
  refine W_cond_f rfl ab ?_
  replace ab := Zk ab
  refine W_exit (at_exit (at_exit (ib_here (Ze ?_))))
  have cd := Zu d
  subst a1
  refine ⟨_, .inr (bq (by intro _ h; cases h)), ?_⟩; exact ⟨ay, ae, ((((au).f3).f3).f3).f3, ag, z, aa⟩
 rintro cl cM ⟨bP, a6, bb⟩
 have hm := a6.elim (bo _) (bm _)
 clear a6
 obtain ⟨a8, ak, aA⟩ := bP
 replace hm := un3_eq hm
 obtain ⟨az, al, bi, b2, b3, c3⟩ := bb
 refine (Ze (Zc (Zd (Za rfl rfl (Zo (v := Vi (0)) rfl rfl (Zb (Ze ?_)))))))
 obtain ⟨a2, aX, cr, bp, bn⟩ := ctl_some hm
 refine W_mid (M := fun f' w' => ∃ s', (a2 = .next s' ∨ a2 = .brk s') ∧ (un2 fun (a9 : Int) (aF : (List Bool)) => ∃ (aN : PHeap) , PHeap.le az aN ∧ St w0 aN (Res.arr encBool 4 b ak :: Res.arr encBool 4 c aF :: Res.box i 64 [b, c] :: Res.box j 51 [Value.string (a.Name), Vi (a.Cost), m, n, o, q, t] :: H) w' ∧ f' 2 = Value.pointer (some ⟨i, 0, none⟩) ∧ f' 3 = Value.pointer (some ⟨j, 0, none⟩) ∧ f' 5 = Vi (a9)) s') ?_ ?_
 ·refine W_block (W_while (fun s' f' w' => (un2 fun (x : Int) (aG : (List Bool)) => ∃ (aO : PHeap) , PHeap.le az aO ∧ St w0 aO (Res.arr encBool 4 b ak :: Res.arr encBool 4 c aG :: Res.box i 64 [b, c] :: Res.box j 51 [Value.string (a.Name), Vi (a.Cost), m, n, o, q, t] :: H) w' ∧ f' 2 = Value.pointer (some ⟨i, 0, none⟩) ∧ f' 3 = Value.pointer (some ⟨j, 0, none⟩) ∧ f' 5 = Vi (x)) s') aX ?_ ?_)
  ·have bj := (bi).f3
   exact ⟨az, (Zv _), (((bj).f3).f3).f3, b2, b3, rfl⟩
  intro bQ a3 cm cN aZ g br
  obtain ⟨x, aG⟩ := bQ
  replace g := un2_eq g
  obtain ⟨bJ, af, u, am, ah, ai⟩ := aZ
  refine Zc (Zc (Zd (Za rfl rfl (Zm (v := Vi (x)) rfl ai (Za rfl rfl (Zp F51_4 rfl ah rfl (Za rfl rfl (Zn ((u).f3) A49 rfl rfl rfl (Za rfl rfl (Zr S49 rfl rfl (aq.mono (Zt (Zt y al) af)) (Za rfl rfl (Zq rfl rfl rfl (Zb (Ze ?_))))))))))))))
  rcases ite_some g with ⟨ad, g⟩ | ⟨ad, g⟩
  ·refine W_cond_t rfl ad (W_skip (Ze (Zc (W_block (Zc (W_dl (n0 := 8) (qs 0 8 .done) hmix (by kernel_rfl) (by kernel_rfl) (DL_q rfl rfl (Zp F64_1 rfl am rfl ⟨rfl, ?_⟩))))))))
   refine DL_q rfl rfl (Zn ((u.drew).f2) A60 rfl rfl rfl ⟨rfl, ?_⟩)
   refine DL_q rfl rfl (Zp F51_4 rfl ah rfl ⟨rfl, ?_⟩)
   refine DL_q rfl rfl (Zn ((u.drew).f3) A49 rfl rfl rfl ⟨rfl, ?_⟩)
   refine DL_q rfl rfl (Zm (v := Vi (x)) rfl ai ⟨rfl, ?_⟩)
   obtain ⟨cT, aI, g⟩ := Zg g
   refine DL_q rfl rfl (Exec.index_repE S49 rfl rfl rfl (aq.mono (Zt (Zt y al) af)) aI ?_)
   intro bU c1 aU ce
   refine ⟨rfl, ?_⟩
   refine DL_q rfl rfl (Zp F84_0 rfl rfl rfl ⟨rfl, ?_⟩)
   refine DL_q rfl rfl (Zw (E := (encInt .i64)) u.drew A3 rfl rfl rfl (aU.sub (Sub.iso (Sub.fst (Sub.refl _))) rfl) ?_)
   intro cE b9
   obtain rfl := encInt_val.1 b9
   refine ⟨rfl, ?_⟩
   refine DL_done ?_
   obtain ⟨cU, aw, g⟩ := Zg g
   obtain ⟨cp, bX, a5⟩ := ((u.drew).f1).arr_at aw
   refine Za rfl rfl (Exec.index_slice S60 rfl a5 rfl (idx_some aw).1 (idx_some aw).2.1 ?_)
   obtain ⟨cx, bA, g⟩ := Zg g
   refine Za rfl rfl (Exec.store_arr (u.drew).f1 a5 A4 rfl rfl rfl rfl (encBool_val.2 rfl) bA ?_)
   intro cO aj
   refine Zb (Ze (W_dl (n0 := 8) (qs 0 7 (.e 7 [] .done)) hmix (by kernel_rfl) (by kernel_rfl) (DL_q rfl rfl (Exec.load_box_agg (ds := [b, c]) ((aj.drew).f2) A64 rfl am rfl ⟨rfl, ?_⟩))))
   refine DL_q rfl rfl (Zp F51_4 rfl ah rfl ⟨rfl, ?_⟩)
   refine DL_q rfl rfl (Zn ((aj.drew).f3) A49 rfl rfl rfl ⟨rfl, ?_⟩)
   refine DL_q rfl rfl (Zm (v := Vi (x)) rfl ai ⟨rfl, ?_⟩)
   refine DL_q rfl rfl (Exec.index_repE S49 rfl rfl rfl (aq.mono (Zt (Zt y al) af)) aI ?_)
   intro bV c2 aV cf
   refine ⟨rfl, ?_⟩
   refine DL_q rfl rfl (Zp F84_1 rfl rfl rfl ⟨rfl, ?_⟩)
   refine DL_q rfl rfl (Zw (E := encGExpr) aj.drew A82 rfl rfl rfl (aV.sub (Sub.iso (Sub.snd (Sub.refl _) rfl)) rfl) ?_)
   intro cF bB
   obtain ⟨cA, rfl, bG⟩ := encGExpr_val.1 bB
   refine ⟨rfl, ?_⟩
   obtain ⟨cy, bC, g⟩ := Zg g
   refine DL_e rfl rfl (Tc rfl rfl rfl (Zi rfl (Zi rfl args_nil)) (ref19_Marks_expr_o_sim bC (aj.drew).f1 bG).r ?_)
   rintro _ cP ⟨bK, bw, bk, rfl⟩
   refine ⟨ag_nil, ?_⟩
   refine DL_done (Zb (ib_normal (Ze (Zd (Za rfl rfl (Zm (v := Vi (x)) rfl ai (Za rfl rfl (Exec.add rfl rfl rfl (Za rfl rfl (Zo (v := Vi (IntKind.i64.wrap (x + 1))) rfl rfl (Zb (Ze ?_))))))))))))
   have cg := Zu g
   subst a3
   refine ⟨_, rfl, ?_⟩; exact ⟨bK, (Zt af bw), ((((bk).f3).f3).f3).f3, am, ah, rfl⟩
  refine W_cond_f rfl ad ?_
  replace ad := Zk ad
  refine W_exit (at_exit (at_exit (ib_here (Ze ?_))))
  have ch := Zu g
  subst a3
  refine ⟨_, .inr (br (by intro _ h; cases h)), ?_⟩; exact ⟨bJ, af, ((((u).f3).f3).f3).f3, am, ah, ai⟩
 rintro cn cQ ⟨bR, a7, bc⟩
 have hm := a7.elim (bp _) (bn _)
 clear a7
 obtain ⟨a9, aF⟩ := bR
 replace hm := un2_eq hm
 obtain ⟨bL, bx, bl, c4, c5, c6⟩ := bc
 refine ?_
 have ci := Zu hm
 subst r
 refine ⟨_, retG0 rfl, ?_⟩
 exact ⟨bL, (Zt (Zt y al) bx), ((((((bl).f2).drop).f2).drop).f1).f1, rfl⟩
end Go.Pw
