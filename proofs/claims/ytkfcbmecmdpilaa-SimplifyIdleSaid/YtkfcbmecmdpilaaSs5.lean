/-
  The walks (printed by my generator).
-/
import Derived.Test.YtkfcbmecmdpilaaL29
import Derived.Test.YtkfcbmecmdpilaaL27
import Derived.Test.YtkfcbmecmdpilaaSs4
set_option maxRecDepth 100000
set_option maxHeartbeats 4000000
set_option linter.unusedVariables false
namespace Go.Pw
open Go.Proofs
theorem ref18_SameOp_sim {w0 w : World} {s : PHeap} {H : List Res} {fu : Nat} {a : GOp} {b : GOp} {aa : Value} {ab : Value} {ac : Value} {aj : Value} {ak : Value} {ad : Value} {ae : Value} {af : Value} {al : Value} {am : Value} {r : Bool} (hm : ref18_SameOp_p fu a b = some r) (hS : St w0 s (H) w) (bq : SliceRep (encInt .i64) s aa a.Pre.Pos) (br : SliceRep (encInt .i64) s ab a.Pre.Neg) (bs : SliceRep encGTest s ac a.Pre.Tests) (az : SliceRep encGChange s aj a.Changes) (a7 : SliceRep encGAssign s ak a.Assigns) (bt : SliceRep (encInt .i64) s ad b.Pre.Pos) (bu : SliceRep (encInt .i64) s ae b.Pre.Neg) (bv : SliceRep encGTest s af b.Pre.Tests) (a8 : SliceRep encGChange s al b.Changes) (aB : SliceRep encGAssign s am b.Assigns) :
  Calls Try.prog 50 #[Value.agg #[Value.string (a.Name), Vi (a.Cost), aa, ab, ac, aj, ak], Value.agg #[Value.string (b.Name), Vi (b.Cost), ad, ae, af, al, am]] w fun e w' => ∃ v, e = .returned v ∧ ((fun (cB : Bool) => ∃ (be : PHeap) , PHeap.le s be ∧ St w0 be (H) w' ∧ v = Value.bool (cB)) r) := by
 unfold ref18_SameOp_p at hm
 refine calls_of_W Try.func50 rfl rfl (Zc (Zd (Za rfl rfl (Exec.box (cs := [Value.string (a.Name), Vi (a.Cost), aa, ab, ac, aj, ak]) hS rfl rfl rfl ?_))))
 intro l dU bG
 refine Za rfl rfl (Exec.box (cs := [Value.string (b.Name), Vi (b.Cost), ad, ae, af, al, am]) bG rfl rfl rfl ?_)
 intro m dV aE
 refine Za rfl rfl (Zo (v := Value.bool (false)) rfl rfl (Zb (Ze (Zc (Zc ?_)))))
 obtain ⟨ax, x, hm⟩ := Zg hm
 refine W_mid (M := fun f' w' => (fun (ax : Bool) => ∃ (bf : PHeap) , PHeap.le s bf ∧ St w0 bf (Res.box l 51 [Value.string (a.Name), Vi (a.Cost), aa, ab, ac, aj, ak] :: Res.box m 51 [Value.string (b.Name), Vi (b.Cost), ad, ae, af, al, am] :: H) w' ∧ f' 2 = Value.pointer (some ⟨l, 0, none⟩) ∧ f' 3 = Value.pointer (some ⟨m, 0, none⟩) ∧ f' 30 = Value.bool (ax)) ax) ?_ ?_
 ·refine Zd (Za rfl rfl (Zp F51_2 rfl rfl rfl (Za rfl rfl (Exec.load_box_agg (ds := [aa, ab, ac]) ((aE).f1) A47 rfl rfl rfl (Za rfl rfl (Zp F51_2 rfl rfl rfl (Za rfl rfl (Exec.load_box_agg (ds := [ad, ae, af]) (aE) A47 rfl rfl rfl ?_))))))))
  obtain ⟨cC, ci, x⟩ := Zg x
  refine Za rfl rfl (Tc rfl rfl rfl (Zi rfl (Zi rfl args_nil)) (ref18_SameCond_sim ci aE bq br bs bt bu bv).r ?_)
  rintro _ dW ⟨aJ, ar, aq, rfl⟩
  refine Za rfl rfl (Exec.not rfl rfl (Za rfl rfl (Zm (v := Value.bool (!cC)) rfl rfl ?_)))
  rcases ite_some x with ⟨n, x⟩ | ⟨n, x⟩
  ·refine WL_passes 17 (by rw [n]; rfl) ?_
   refine Zb (Ze ?_)
   have cP := Zu x
   subst ax
   exact ⟨aJ, ar, (aq).f1, rfl, rfl, rfl⟩
  replace n := Zk n
  refine WL_run rfl (Zf rfl (Zx n)) rfl (Zp F51_3 rfl rfl rfl (WL_run rfl (Zf rfl (Zx n)) rfl (Zn ((aq).f1) A48 rfl rfl rfl (WL_run rfl (Zf rfl (Zx n)) rfl (Zr S48 rfl rfl (az.mono ar) (WL_run rfl (Zf rfl (Zx n)) rfl (Zp F51_3 rfl rfl rfl (WL_run rfl (Zf rfl (Zx n)) rfl (Zn (aq) A48 rfl rfl rfl (WL_run rfl (Zf rfl (Zx n)) rfl (Zr S48 rfl rfl (a8.mono ar) (WL_run rfl (Zf rfl (Zx n)) rfl (Exec.neq rfl rfl rfl ?_)))))))))))))
  refine WL_passes 2 (by rw [n]; rfl) ?_
  rcases ite_some x with ⟨o, x⟩ | ⟨o, x⟩
  ·refine WL_passes 8 (by rw [o]; rfl) ?_
   refine Zb (Ze ?_)
   have cQ := Zu x
   subst ax
   exact ⟨aJ, ar, (aq).f1, rfl, rfl, rfl⟩
  replace o := Zk o
  refine WL_run rfl (Zf rfl (Zx o)) rfl (Zp F51_4 rfl rfl rfl (WL_run rfl (Zf rfl (Zx o)) rfl (Zn ((aq).f1) A49 rfl rfl rfl (WL_run rfl (Zf rfl (Zx o)) rfl (Zr S49 rfl rfl (a7.mono ar) (WL_run rfl (Zf rfl (Zx o)) rfl (Zp F51_4 rfl rfl rfl (WL_run rfl (Zf rfl (Zx o)) rfl (Zn (aq) A49 rfl rfl rfl (WL_run rfl (Zf rfl (Zx o)) rfl (Zr S49 rfl rfl (aB.mono ar) (WL_run rfl (Zf rfl (Zx o)) rfl (Exec.neq rfl rfl rfl (Za rfl rfl (Exec.pick_f (v := Value.bool (!decide ((a.Assigns.length : Int) = (b.Assigns.length : Int)))) rfl (Zx o) rfl (Zb (Ze ?_)))))))))))))))))
  have cR := Zu x
  subst ax
  exact ⟨aJ, ar, (aq).f1, rfl, rfl, rfl⟩
 intro dt dX bB
 obtain ⟨a9, i, aO, bY, bZ, aZ⟩ := bB
 refine (Ze ?_)
 rcases ite_some hm with ⟨a0, hm⟩ | ⟨a0, hm⟩
 ·refine W_cond_t aZ a0 (Zc (Zd (Za rfl rfl (Zo (v := Value.bool (false)) rfl rfl (Zb (Ze (W_ret (at_ret ?_))))))))
  have cS := Zu hm
  subst r
  refine ⟨_, ret1 rfl, ?_⟩
  exact ⟨a9, i, ((aO).drop).drop, rfl⟩
 refine W_cond_f aZ a0 ?_
 replace a0 := Zk a0
 refine W_skip (Ze (Zc (Zc (Zd (Za rfl rfl (Zo (v := Vi (0)) rfl rfl (Zb (Ze ?_))))))))
 obtain ⟨aM, b7, bT, bP, bN⟩ := ctl_some hm
 refine W_mid (M := fun f' w' => ∃ s', (aM = .next s' ∨ aM = .brk s') ∧ (fun (aV : Int) => ∃ (bg : PHeap) , PHeap.le a9 bg ∧ St w0 bg (Res.box l 51 [Value.string (a.Name), Vi (a.Cost), aa, ab, ac, aj, ak] :: Res.box m 51 [Value.string (b.Name), Vi (b.Cost), ad, ae, af, al, am] :: H) w' ∧ f' 2 = Value.pointer (some ⟨l, 0, none⟩) ∧ f' 3 = Value.pointer (some ⟨m, 0, none⟩) ∧ f' 5 = Vi (aV)) s') ?_ ?_
 ·refine W_block (W_while (fun s' f' w' => (fun (p : Int) => ∃ (bh : PHeap) , PHeap.le a9 bh ∧ St w0 bh (Res.box l 51 [Value.string (a.Name), Vi (a.Cost), aa, ab, ac, aj, ak] :: Res.box m 51 [Value.string (b.Name), Vi (b.Cost), ad, ae, af, al, am] :: H) w' ∧ f' 2 = Value.pointer (some ⟨l, 0, none⟩) ∧ f' 3 = Value.pointer (some ⟨m, 0, none⟩) ∧ f' 5 = Vi (p)) s') b7 ?_ ?_)
  ·have bH := (aO).f1
   exact ⟨a9, (Zv _), (bH).f1, bY, bZ, rfl⟩
  intro p aC du dY b9 t aT
  obtain ⟨aA, ai, aF, ao, av, z⟩ := b9
  refine Zc (Zc (Zd (Za rfl rfl (Zm (v := Vi (p)) rfl z (Za rfl rfl (Zp F51_3 rfl ao rfl (Za rfl rfl (Zn (aF) A48 rfl rfl rfl (Za rfl rfl (Zr S48 rfl rfl (az.mono (Zt i ai)) (Za rfl rfl (Zq rfl rfl rfl (Zb (Ze ?_))))))))))))))
  rcases ite_some t with ⟨a1, t⟩ | ⟨a1, t⟩
  ·refine W_cond_t rfl a1 (W_skip (Ze (Zc (W_block (Zc ?_)))))
   obtain ⟨ay, k, t⟩ := Zg t
   refine W_mid (M := fun f' w' => (fun (ay : Bool) => ∃ (bi : PHeap) , PHeap.le aA bi ∧ St w0 bi (Res.box l 51 [Value.string (a.Name), Vi (a.Cost), aa, ab, ac, aj, ak] :: Res.box m 51 [Value.string (b.Name), Vi (b.Cost), ad, ae, af, al, am] :: H) w' ∧ f' 2 = Value.pointer (some ⟨l, 0, none⟩) ∧ f' 3 = Value.pointer (some ⟨m, 0, none⟩) ∧ f' 5 = Vi (p) ∧ f' 81 = Value.bool (ay)) ay) ?_ ?_
   ·refine W_dl (n0 := 44) (qs 0 41 (.e 41 [] (.q 42 (.q 43 .done)))) hmix (by kernel_rfl) (by kernel_rfl) ?_
    have j := aF.drew
    refine DL_q rfl rfl (Zp F51_3 rfl ao rfl ⟨rfl, ?_⟩)
    refine DL_q rfl rfl (Zn (j) A48 rfl rfl rfl ⟨rfl, ?_⟩)
    refine DL_q rfl rfl (Zm (v := Vi (p)) rfl z ⟨rfl, ?_⟩)
    obtain ⟨bo, aH, k⟩ := Zg k
    refine DL_q rfl rfl (Exec.index_repE S48 rfl rfl rfl (az.mono (Zt i ai)) aH ?_)
    intro cF d0 bw cT
    refine ⟨rfl, ?_⟩
    refine DL_q rfl rfl (Zp F58_1 rfl rfl rfl ⟨rfl, ?_⟩)
    refine DL_q rfl rfl (Zw (E := (encInt .i64)) j A3 rfl rfl rfl (bw.sub (Sub.iso (Sub.snd (Sub.fst (Sub.refl _)) rfl)) rfl) ?_)
    intro dM cj
    obtain rfl := encInt_val.1 cj
    refine ⟨rfl, ?_⟩
    refine DL_q rfl rfl (Zp F51_3 rfl av rfl ⟨rfl, ?_⟩)
    refine DL_q rfl rfl (Zn ((j).f1) A48 rfl rfl rfl ⟨rfl, ?_⟩)
    refine DL_q rfl rfl (Zm (v := Vi (p)) rfl z ⟨rfl, ?_⟩)
    obtain ⟨bp, aI, k⟩ := Zg k
    refine DL_q rfl rfl (Exec.index_repE S48 rfl rfl rfl (a8.mono (Zt i ai)) aI ?_)
    intro cG d1 bx cU
    refine ⟨rfl, ?_⟩
    refine DL_q rfl rfl (Zp F58_1 rfl rfl rfl ⟨rfl, ?_⟩)
    refine DL_q rfl rfl (Zw (E := (encInt .i64)) j A3 rfl rfl rfl (bx.sub (Sub.iso (Sub.snd (Sub.fst (Sub.refl _)) rfl)) rfl) ?_)
    intro dN ck
    obtain rfl := encInt_val.1 ck
    refine ⟨rfl, ?_⟩
    refine DL_q rfl rfl (Exec.neq rfl rfl rfl ⟨rfl, ?_⟩)
    refine DL_q rfl rfl (Zm (v := Value.bool (!decide (bo.Atom = bp.Atom))) rfl rfl ⟨rfl, ?_⟩)
    rcases ite_some k with ⟨g, k⟩ | ⟨g, k⟩
    ·refine DL_passes 30 (by rw [g]; rfl) ?_
     refine DL_done (Zb (Ze ?_))
     have cV := Zu k
     subst ay
     exact ⟨aA, (Zv _), ((j).f1).f1, ao, av, z, rfl⟩
    replace g := Zk g
    refine DL_qg rfl rfl (Zf rfl (Zx g)) (Zp F51_3 rfl ao rfl ⟨rfl, ?_⟩)
    refine DL_qg rfl rfl (Zf rfl (Zx g)) (Zn (j) A48 rfl rfl rfl ⟨rfl, ?_⟩)
    refine DL_qg rfl rfl (Zf rfl (Zx g)) (Zm (v := Vi (p)) rfl z ⟨rfl, ?_⟩)
    refine DL_qg rfl rfl (Zf rfl (Zx g)) (Exec.index_repE S48 rfl rfl rfl (az.mono (Zt i ai)) aH ?_)
    intro cH d2 bz cW
    refine ⟨rfl, ?_⟩
    refine DL_qg rfl rfl (Zf rfl (Zx g)) (Zp F58_2 rfl rfl rfl ⟨rfl, ?_⟩)
    refine DL_qg rfl rfl (Zf rfl (Zx g)) (Zw (E := encBool) j A4 rfl rfl rfl (bz.sub (Sub.iso (Sub.snd (Sub.snd (Sub.refl _) rfl) rfl)) rfl) ?_)
    intro c7 cl
    obtain rfl : c7 = Value.bool (bo.Add) := encBool_val.1 cl
    refine ⟨rfl, ?_⟩
    refine DL_qg rfl rfl (Zf rfl (Zx g)) (Zp F51_3 rfl av rfl ⟨rfl, ?_⟩)
    refine DL_qg rfl rfl (Zf rfl (Zx g)) (Zn ((j).f1) A48 rfl rfl rfl ⟨rfl, ?_⟩)
    refine DL_qg rfl rfl (Zf rfl (Zx g)) (Zm (v := Vi (p)) rfl z ⟨rfl, ?_⟩)
    refine DL_qg rfl rfl (Zf rfl (Zx g)) (Exec.index_repE S48 rfl rfl rfl (a8.mono (Zt i ai)) aI ?_)
    intro cI d3 b0 cX
    refine ⟨rfl, ?_⟩
    refine DL_qg rfl rfl (Zf rfl (Zx g)) (Zp F58_2 rfl rfl rfl ⟨rfl, ?_⟩)
    refine DL_qg rfl rfl (Zf rfl (Zx g)) (Zw (E := encBool) j A4 rfl rfl rfl (b0.sub (Sub.iso (Sub.snd (Sub.snd (Sub.refl _) rfl) rfl)) rfl) ?_)
    intro c8 cm
    obtain rfl : c8 = Value.bool (bp.Add) := encBool_val.1 cm
    refine ⟨rfl, ?_⟩
    refine DL_qg rfl rfl (Zf rfl (Zx g)) (Exec.bool_neq Try.underlying4 rfl rfl rfl ⟨rfl, ?_⟩)
    refine DL_passes 2 (by rw [g]; rfl) ?_
    rcases ite_some k with ⟨c, k⟩ | ⟨c, k⟩
    ·refine DL_passes 15 (by rw [c]; rfl) ?_
     refine DL_done (Zb (Ze ?_))
     have cY := Zu k
     subst ay
     exact ⟨aA, (Zv _), ((j).f1).f1, ao, av, z, rfl⟩
    replace c := Zk c
    refine DL_qg rfl rfl (Zf rfl (Zx c)) (Zp F51_3 rfl ao rfl ⟨rfl, ?_⟩)
    refine DL_qg rfl rfl (Zf rfl (Zx c)) (Zn (j) A48 rfl rfl rfl ⟨rfl, ?_⟩)
    refine DL_qg rfl rfl (Zf rfl (Zx c)) (Zm (v := Vi (p)) rfl z ⟨rfl, ?_⟩)
    refine DL_qg rfl rfl (Zf rfl (Zx c)) (Exec.index_repE S48 rfl rfl rfl (az.mono (Zt i ai)) aH ?_)
    intro cJ d4 b1 cZ
    refine ⟨rfl, ?_⟩
    refine DL_qg rfl rfl (Zf rfl (Zx c)) (Zp F58_0 rfl rfl rfl ⟨rfl, ?_⟩)
    refine DL_qg rfl rfl (Zf rfl (Zx c)) (Zw (E := encCond) j A47 rfl rfl rfl (b1.sub (Sub.iso (Sub.fst (Sub.refl _))) rfl) ?_)
    intro dO cn
    obtain ⟨dE, dF, dG, rfl, cw, cx, cy⟩ := encCond_val.1 cn
    refine ⟨rfl, ?_⟩
    refine DL_qg rfl rfl (Zf rfl (Zx c)) (Zp F51_3 rfl av rfl ⟨rfl, ?_⟩)
    refine DL_qg rfl rfl (Zf rfl (Zx c)) (Zn ((j).f1) A48 rfl rfl rfl ⟨rfl, ?_⟩)
    refine DL_qg rfl rfl (Zf rfl (Zx c)) (Zm (v := Vi (p)) rfl z ⟨rfl, ?_⟩)
    refine DL_qg rfl rfl (Zf rfl (Zx c)) (Exec.index_repE S48 rfl rfl rfl (a8.mono (Zt i ai)) aI ?_)
    intro cK d5 b2 da
    refine ⟨rfl, ?_⟩
    refine DL_qg rfl rfl (Zf rfl (Zx c)) (Zp F58_0 rfl rfl rfl ⟨rfl, ?_⟩)
    refine DL_qg rfl rfl (Zf rfl (Zx c)) (Zw (E := encCond) j A47 rfl rfl rfl (b2.sub (Sub.iso (Sub.fst (Sub.refl _))) rfl) ?_)
    intro dP co
    obtain ⟨dH, dI, dJ, rfl, cz, c0, c1⟩ := encCond_val.1 co
    refine ⟨rfl, ?_⟩
    obtain ⟨cD, cp, k⟩ := Zg k
    refine DL_eg rfl rfl (Zf rfl (Zx c)) (Tc rfl rfl rfl (Zi rfl (Zi rfl args_nil)) (ref18_SameCond_sim cp j cw cx cy cz c0 c1).r ?_)
    rintro _ dZ ⟨c4, bV, bI, rfl⟩
    refine ⟨ag_nil, ?_⟩
    refine DL_qg rfl rfl (Zf rfl (Zx c)) (Exec.not rfl rfl ⟨rfl, ?_⟩)
    refine DL_q rfl rfl (Exec.pick_f (v := Value.bool (!cD)) rfl (Zx c) rfl ⟨rfl, ?_⟩)
    refine DL_done (Zb (Ze ?_))
    have db := Zu k
    subst ay
    exact ⟨c4, bV, ((bI).f1).f1, ao, av, z, rfl⟩
   intro dv ea bC
   obtain ⟨bj, aX, aP, ca, cb, cc, ba⟩ := bC
   refine (Ze ?_)
   rcases ite_some t with ⟨a2, t⟩ | ⟨a2, t⟩
   ·refine W_cond_t ba a2 (Zc (Zd (Za rfl rfl (Zo (v := Value.bool (false)) rfl rfl (Zb (Ze (W_ret (ib_ret (at_ret (at_ret (ib_ret (at_ret (at_ret ?_)))))))))))))
    have dc := Zu t
    subst aC
    have bR := bT _ (aT (by intro _ h; cases h))
    have dd := Zu bR
    subst r
    refine ⟨_, ret1 rfl, ?_⟩
    exact ⟨bj, (Zt (Zt i ai) aX), ((aP).drop).drop, rfl⟩
   refine W_cond_f ba a2 ?_
   replace a2 := Zk a2
   refine W_skip (ib_normal (Ze (Zd (Za rfl rfl (Zm (v := Vi (p)) rfl cc (Za rfl rfl (Exec.add rfl rfl rfl (Za rfl rfl (Zo (v := Vi (IntKind.i64.wrap (p + 1))) rfl rfl (Zb (Ze ?_)))))))))))
   have de := Zu t
   subst aC
   refine ⟨_, rfl, ?_⟩; exact ⟨bj, (Zt ai aX), ((aP).f1).f1, ca, cb, rfl⟩
  refine W_cond_f rfl a1 ?_
  replace a1 := Zk a1
  refine W_exit (at_exit (at_exit (ib_here (Ze ?_))))
  have df := Zu t
  subst aC
  refine ⟨_, .inr (aT (by intro _ h; cases h)), ?_⟩; exact ⟨aA, ai, ((aF).f1).f1, ao, av, z⟩
 rintro dw eb ⟨aV, aR, bD⟩
 have hm := aR.elim (bP _) (bN _)
 clear aR
 obtain ⟨aK, au, bJ, cd, ce, dA⟩ := bD
 refine (Ze (Zc (Zc (Zd (Za rfl rfl (Zo (v := Vi (0)) rfl rfl (Zb (Ze ?_))))))))
 obtain ⟨aN, b8, bU, bQ, bO⟩ := ctl_some hm
 refine W_mid (M := fun f' w' => ∃ s', (aN = .next s' ∨ aN = .brk s') ∧ (fun (aW : Int) => ∃ (bk : PHeap) , PHeap.le aK bk ∧ St w0 bk (Res.box l 51 [Value.string (a.Name), Vi (a.Cost), aa, ab, ac, aj, ak] :: Res.box m 51 [Value.string (b.Name), Vi (b.Cost), ad, ae, af, al, am] :: H) w' ∧ f' 2 = Value.pointer (some ⟨l, 0, none⟩) ∧ f' 3 = Value.pointer (some ⟨m, 0, none⟩) ∧ f' 6 = Vi (aW)) s') ?_ ?_
 ·refine W_block (W_while (fun s' f' w' => (fun (ah : Int) => ∃ (bl : PHeap) , PHeap.le aK bl ∧ St w0 bl (Res.box l 51 [Value.string (a.Name), Vi (a.Cost), aa, ab, ac, aj, ak] :: Res.box m 51 [Value.string (b.Name), Vi (b.Cost), ad, ae, af, al, am] :: H) w' ∧ f' 2 = Value.pointer (some ⟨l, 0, none⟩) ∧ f' 3 = Value.pointer (some ⟨m, 0, none⟩) ∧ f' 6 = Vi (ah)) s') b8 ?_ ?_)
  ·have bK := (bJ).f1
   exact ⟨aK, (Zv _), (bK).f1, cd, ce, rfl⟩
  intro ah aD dx ec bA u aU
  obtain ⟨aL, an, aG, aw, a5, ap⟩ := bA
  refine Zc (Zc (Zd (Za rfl rfl (Zm (v := Vi (ah)) rfl ap (Za rfl rfl (Zp F51_4 rfl aw rfl (Za rfl rfl (Zn (aG) A49 rfl rfl rfl (Za rfl rfl (Zr S49 rfl rfl (a7.mono (Zt (Zt i au) an)) (Za rfl rfl (Zq rfl rfl rfl (Zb (Ze ?_))))))))))))))
  rcases ite_some u with ⟨a3, u⟩ | ⟨a3, u⟩
  ·refine W_cond_t rfl a3 (W_skip (Ze (Zc (W_block (Zc ?_)))))
   obtain ⟨a6, y, u⟩ := Zg u
   refine W_mid (M := fun f' w' => (fun (a6 : Bool) => ∃ (bm : PHeap) , PHeap.le aL bm ∧ St w0 bm (Res.box l 51 [Value.string (a.Name), Vi (a.Cost), aa, ab, ac, aj, ak] :: Res.box m 51 [Value.string (b.Name), Vi (b.Cost), ad, ae, af, al, am] :: H) w' ∧ f' 2 = Value.pointer (some ⟨l, 0, none⟩) ∧ f' 3 = Value.pointer (some ⟨m, 0, none⟩) ∧ f' 6 = Vi (ah) ∧ f' 117 = Value.bool (a6)) a6) ?_ ?_
   ·refine W_dl (n0 := 29) (qs 0 26 (.e 26 [] (.q 27 (.q 28 .done)))) hmix (by kernel_rfl) (by kernel_rfl) ?_
    have ag := aG.drew
    refine DL_q rfl rfl (Zp F51_4 rfl aw rfl ⟨rfl, ?_⟩)
    refine DL_q rfl rfl (Zn (ag) A49 rfl rfl rfl ⟨rfl, ?_⟩)
    refine DL_q rfl rfl (Zm (v := Vi (ah)) rfl ap ⟨rfl, ?_⟩)
    obtain ⟨c9, bc, y⟩ := Zg y
    refine DL_q rfl rfl (Exec.index_repE S49 rfl rfl rfl (a7.mono (Zt (Zt i au) an)) bc ?_)
    intro cL d6 b3 dg
    refine ⟨rfl, ?_⟩
    refine DL_q rfl rfl (Zp F84_0 rfl rfl rfl ⟨rfl, ?_⟩)
    refine DL_q rfl rfl (Zw (E := (encInt .i64)) ag A3 rfl rfl rfl (b3.sub (Sub.iso (Sub.fst (Sub.refl _))) rfl) ?_)
    intro dQ cq
    obtain rfl := encInt_val.1 cq
    refine ⟨rfl, ?_⟩
    refine DL_q rfl rfl (Zp F51_4 rfl a5 rfl ⟨rfl, ?_⟩)
    refine DL_q rfl rfl (Zn ((ag).f1) A49 rfl rfl rfl ⟨rfl, ?_⟩)
    refine DL_q rfl rfl (Zm (v := Vi (ah)) rfl ap ⟨rfl, ?_⟩)
    obtain ⟨cA, bd, y⟩ := Zg y
    refine DL_q rfl rfl (Exec.index_repE S49 rfl rfl rfl (aB.mono (Zt (Zt i au) an)) bd ?_)
    intro cM d7 b4 dh
    refine ⟨rfl, ?_⟩
    refine DL_q rfl rfl (Zp F84_0 rfl rfl rfl ⟨rfl, ?_⟩)
    refine DL_q rfl rfl (Zw (E := (encInt .i64)) ag A3 rfl rfl rfl (b4.sub (Sub.iso (Sub.fst (Sub.refl _))) rfl) ?_)
    intro dR cr
    obtain rfl := encInt_val.1 cr
    refine ⟨rfl, ?_⟩
    refine DL_q rfl rfl (Exec.neq rfl rfl rfl ⟨rfl, ?_⟩)
    refine DL_q rfl rfl (Zm (v := Value.bool (!decide (c9.Fluent = cA.Fluent))) rfl rfl ⟨rfl, ?_⟩)
    rcases ite_some y with ⟨d, y⟩ | ⟨d, y⟩
    ·refine DL_passes 15 (by rw [d]; rfl) ?_
     refine DL_done (Zb (Ze ?_))
     have di := Zu y
     subst a6
     exact ⟨aL, (Zv _), ((ag).f1).f1, aw, a5, ap, rfl⟩
    replace d := Zk d
    refine DL_qg rfl rfl (Zf rfl (Zx d)) (Zp F51_4 rfl aw rfl ⟨rfl, ?_⟩)
    refine DL_qg rfl rfl (Zf rfl (Zx d)) (Zn (ag) A49 rfl rfl rfl ⟨rfl, ?_⟩)
    refine DL_qg rfl rfl (Zf rfl (Zx d)) (Zm (v := Vi (ah)) rfl ap ⟨rfl, ?_⟩)
    refine DL_qg rfl rfl (Zf rfl (Zx d)) (Exec.index_repE S49 rfl rfl rfl (a7.mono (Zt (Zt i au) an)) bc ?_)
    intro cN d8 b5 dj
    refine ⟨rfl, ?_⟩
    refine DL_qg rfl rfl (Zf rfl (Zx d)) (Zp F84_1 rfl rfl rfl ⟨rfl, ?_⟩)
    refine DL_qg rfl rfl (Zf rfl (Zx d)) (Zw (E := encGExpr) ag A82 rfl rfl rfl (b5.sub (Sub.iso (Sub.snd (Sub.refl _) rfl)) rfl) ?_)
    intro dS ct
    obtain ⟨dK, rfl, c2⟩ := encGExpr_val.1 ct
    refine ⟨rfl, ?_⟩
    refine DL_qg rfl rfl (Zf rfl (Zx d)) (Zp F51_4 rfl a5 rfl ⟨rfl, ?_⟩)
    refine DL_qg rfl rfl (Zf rfl (Zx d)) (Zn ((ag).f1) A49 rfl rfl rfl ⟨rfl, ?_⟩)
    refine DL_qg rfl rfl (Zf rfl (Zx d)) (Zm (v := Vi (ah)) rfl ap ⟨rfl, ?_⟩)
    refine DL_qg rfl rfl (Zf rfl (Zx d)) (Exec.index_repE S49 rfl rfl rfl (aB.mono (Zt (Zt i au) an)) bd ?_)
    intro cO d9 b6 dk
    refine ⟨rfl, ?_⟩
    refine DL_qg rfl rfl (Zf rfl (Zx d)) (Zp F84_1 rfl rfl rfl ⟨rfl, ?_⟩)
    refine DL_qg rfl rfl (Zf rfl (Zx d)) (Zw (E := encGExpr) ag A82 rfl rfl rfl (b6.sub (Sub.iso (Sub.snd (Sub.refl _) rfl)) rfl) ?_)
    intro dT cu
    obtain ⟨dL, rfl, c3⟩ := encGExpr_val.1 cu
    refine ⟨rfl, ?_⟩
    obtain ⟨cE, cv, y⟩ := Zg y
    refine DL_eg rfl rfl (Zf rfl (Zx d)) (Tc rfl rfl rfl (Zi rfl (Zi rfl args_nil)) (ref18_sameExpr_sim cv ag c2 c3).r ?_)
    rintro _ ed ⟨c5, bW, bL, rfl⟩
    refine ⟨ag_nil, ?_⟩
    refine DL_qg rfl rfl (Zf rfl (Zx d)) (Exec.not rfl rfl ⟨rfl, ?_⟩)
    refine DL_q rfl rfl (Exec.pick_f (v := Value.bool (!cE)) rfl (Zx d) rfl ⟨rfl, ?_⟩)
    refine DL_done (Zb (Ze ?_))
    have dl := Zu y
    subst a6
    exact ⟨c5, bW, ((bL).f1).f1, aw, a5, ap, rfl⟩
   intro dy ee bE
   obtain ⟨bn, aY, aQ, cf, cg, ch, bb⟩ := bE
   refine (Ze ?_)
   rcases ite_some u with ⟨a4, u⟩ | ⟨a4, u⟩
   ·refine W_cond_t bb a4 (Zc (Zd (Za rfl rfl (Zo (v := Value.bool (false)) rfl rfl (Zb (Ze (W_ret (ib_ret (at_ret (at_ret (ib_ret (at_ret (at_ret ?_)))))))))))))
    have dm := Zu u
    subst aD
    have bS := bU _ (aU (by intro _ h; cases h))
    have dn := Zu bS
    subst r
    refine ⟨_, ret1 rfl, ?_⟩
    exact ⟨bn, (Zt (Zt (Zt i au) an) aY), ((aQ).drop).drop, rfl⟩
   refine W_cond_f bb a4 ?_
   replace a4 := Zk a4
   refine W_skip (ib_normal (Ze (Zd (Za rfl rfl (Zm (v := Vi (ah)) rfl ch (Za rfl rfl (Exec.add rfl rfl rfl (Za rfl rfl (Zo (v := Vi (IntKind.i64.wrap (ah + 1))) rfl rfl (Zb (Ze ?_)))))))))))
   have dp := Zu u
   subst aD
   refine ⟨_, rfl, ?_⟩; exact ⟨bn, (Zt an aY), ((aQ).f1).f1, cf, cg, rfl⟩
  refine W_cond_f rfl a3 ?_
  replace a3 := Zk a3
  refine W_exit (at_exit (at_exit (ib_here (Ze ?_))))
  have dq := Zu u
  subst aD
  refine ⟨_, .inr (aU (by intro _ h; cases h)), ?_⟩; exact ⟨aL, an, ((aG).f1).f1, aw, a5, ap⟩
 rintro dz ef ⟨aW, aS, bF⟩
 have hm := aS.elim (bQ _) (bO _)
 clear aS
 obtain ⟨c6, bX, bM, dB, dC, dD⟩ := bF
 refine (Ze (Zc (Zd (Za rfl rfl (Zo (v := Value.bool (true)) rfl rfl (Zb (Ze (W_ret ?_))))))))
 have dr := Zu hm
 subst r
 refine ⟨_, ret1 rfl, ?_⟩
 exact ⟨c6, (Zt (Zt i au) bX), ((bM).drop).drop, rfl⟩
end Go.Pw
